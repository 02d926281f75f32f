/- Texts that the claims share: RefI, Same, Sane, Safe, Views2. -/
import Derived.Test.YthjmdgejnakcmaaGreatDoorMF5
import Derived.Test.YthjmdgejnakcmaaGreatDoorMF3
import Derived.Test.YthjmdgejnakcmaaGreatDoorMD6
set_option maxHeartbeats 3200000
set_option maxRecDepth 100000
set_option linter.unusedVariables false
set_option linter.unusedSimpArgs false
namespace Go.Proofs.YthjmdgejnakcmaaGreatDoor.Fl
open Go.RowKit
open Classical in
noncomputable def DB (S:Sch):Int :=
 if validB S=true then (if (BX S).testBit 0=true then (if Ci S=[] then (if FS9 S=[] then 0 else 41) else 40) else 50) else 20
theorem JJ {l:List Nat} (h:l≠[]):0<l.length:=by rcases l with _ | ⟨x,l⟩;exact absurd rfl h;simp
theorem rsound_any (S:Sch) (a:Option Addr) (cap:Nat) (w:World) (hR:BL w a S.rules) (h0:0≤S.acc) (h1:S.acc≤255) (hl:S.rules.length≤9223372036854775807) (hS:validB S=true→Fit S) :
  Calls Tryz.prog 28 #[.agg #[.int .i64 S.modes,.int .u8 S.acc,.slice a S.rules.length cap]] w fun e w'=>e=.returned (.int .i64 (DB S))∧Below w.heap.size w w':=by
 have HR:=A6 hR;have HS:=A6 hS;clear hR hS;by_cases hv:validB S=true
 ·have jl:=HS.out hv;have jg:=A6 jl;have HV:=A6 hv;have m0:=jl.m0;have m1:=jl.m1;obtain ⟨mm,jB⟩:=Int.eq_ofNat_of_zero_le (show 0≤S.modes by omega);have HM:Hid (S.modes.toNat=mm):=by show _=_;omega
  have hmm0:0<mm:=by omega
  obtain ⟨l0,jz⟩:∃ l0,(BX S).testBit 0=l0:=⟨_,rfl⟩
  have HF:Hid (FM S=⟨EA S S.rules.length,Ci S,FS9 S⟩):=by show _=_;rw [FM,if_pos hv]
  have jo:Hid (DB S=if l0=true then (if Ci S=[] then (if FS9 S=[] then 0 else 41) else 40) else 50):=by show _=_;rw [DB,if_pos hv,jz]
  have jp:=A6 jz;clear jB jz hv jl;by_cases jr:Ci S=[]
  ·have jn:Hid (∀ n,n=(Ci S).length→¬ (0:Int)<(n:Int)):=fun n h=>by rw [jr] at h;simp at h;omega
   have jx:=A6 jr;clear jr;by_cases jq:FS9 S=[]
   ·have jm:Hid (∀ n,n=(FS9 S).length→¬ (0:Int)<(n:Int)):=fun n h=>by rw [jq] at h;simp at h;omega
    have jy:=A6 jq;clear jq;cases l0 with
    | false =>
     have HE:Hid (50=DB S):=by show _=_;rw [jo.out];rfl
     go_enter Tryz.func28,Tryz.ntmps28
     go_wp2_with (first | (go_at_call 54;refine (Cg S a cap _ (HR.out.later (by first | exact hB | go_grown) (A7 _)) h0 h1 hl).mono ?_;rintro e w1 ⟨he,hb⟩;rw [HV.out] at he;subst he;obtain ⟨hz,hc,hf⟩:=BB hb (by first | (simp only [AA,World.size_setCell,World.size_drew];rfl) | rfl);have hB:=Ap (B:=w.heap.size) (w:=w) (by first | exact hB | go_grown) hb (A7 _);clear hb) | (go_at_call 55;refine (rfind_any S a cap _ (HR.out.later (by first | exact hB | go_grown) (A7 _)) h0 h1 hl HS.out).mono ?_;rintro e w2 ⟨v1,v2,v3,rfl,jf,jd,je,hb⟩;obtain ⟨a1,n1,c1,ji⟩:=jf.form;obtain ⟨a2,n2,c2,jj⟩:=jd.form;obtain ⟨a3,n3,c3,jk⟩:=je.form;subst ji jj jk;have jb:=jd.sls.2;have jc:=je.sls.2;rw [HF.out] at jb jc;have js:=A6 jb;have jt:=A6 jc;have jv:=jn.out n2 jb;have jw:=jm.out n3 jc;clear jf jd je jb jc;obtain ⟨hz,hc,hf⟩:=BB hb (by first | (simp only [AA,World.size_setCell,World.size_drew];rfl) | rfl);have hB:=Ap (B:=w.heap.size) (w:=w) (by first | exact hB | go_grown) hb (A7 _);clear hb) | (go_at_call 56;refine (rlive_any S a cap _ (HR.out.later (by first | exact hB.alloc (by have:=hB.size;omega) _ | exact hB | go_grown) (A7 _)) jg.out).mono ?_;rintro e w3 ⟨v,rfl,⟨g3,hv,ju,ja⟩,hb⟩;rw [HM.out] at hv ja;subst hv;have jh:=Bg ja (i:=0) (by omega);rw [jp.out] at jh;clear ja;obtain ⟨hz,hc,hf⟩:=BB hb (by first | (simp only [AA,World.size_setCell,World.size_drew];rfl) | rfl);have hB:=Ap (B:=w.heap.size) (w:=w) (by go_grown) hb (A7 _);clear hb) | fail)
     go_ret;exact ⟨BY HE.out,hB⟩
    | true =>
     have HE:Hid (0=DB S):=by show _=_;rw [jo.out,if_pos rfl,if_pos jx.out,if_pos jy.out]
     go_enter Tryz.func28,Tryz.ntmps28
     go_wp2_with (first | (go_at_call 54;refine (Cg S a cap _ (HR.out.later (by first | exact hB | go_grown) (A7 _)) h0 h1 hl).mono ?_;rintro e w1 ⟨he,hb⟩;rw [HV.out] at he;subst he;obtain ⟨hz,hc,hf⟩:=BB hb (by first | (simp only [AA,World.size_setCell,World.size_drew];rfl) | rfl);have hB:=Ap (B:=w.heap.size) (w:=w) (by first | exact hB | go_grown) hb (A7 _);clear hb) | (go_at_call 55;refine (rfind_any S a cap _ (HR.out.later (by first | exact hB | go_grown) (A7 _)) h0 h1 hl HS.out).mono ?_;rintro e w2 ⟨v1,v2,v3,rfl,jf,jd,je,hb⟩;obtain ⟨a1,n1,c1,ji⟩:=jf.form;obtain ⟨a2,n2,c2,jj⟩:=jd.form;obtain ⟨a3,n3,c3,jk⟩:=je.form;subst ji jj jk;have jb:=jd.sls.2;have jc:=je.sls.2;rw [HF.out] at jb jc;have js:=A6 jb;have jt:=A6 jc;have jv:=jn.out n2 jb;have jw:=jm.out n3 jc;clear jf jd je jb jc;obtain ⟨hz,hc,hf⟩:=BB hb (by first | (simp only [AA,World.size_setCell,World.size_drew];rfl) | rfl);have hB:=Ap (B:=w.heap.size) (w:=w) (by first | exact hB | go_grown) hb (A7 _);clear hb) | (go_at_call 56;refine (rlive_any S a cap _ (HR.out.later (by first | exact hB.alloc (by have:=hB.size;omega) _ | exact hB | go_grown) (A7 _)) jg.out).mono ?_;rintro e w3 ⟨v,rfl,⟨g3,hv,ju,ja⟩,hb⟩;rw [HM.out] at hv ja;subst hv;have jh:=Bg ja (i:=0) (by omega);rw [jp.out] at jh;clear ja;obtain ⟨hz,hc,hf⟩:=BB hb (by first | (simp only [AA,World.size_setCell,World.size_drew];rfl) | rfl);have hB:=Ap (B:=w.heap.size) (w:=w) (by go_grown) hb (A7 _);clear hb) | fail)
     go_ret;exact ⟨BY HE.out,hB⟩
   ·have jm:Hid (∀ n,n=(FS9 S).length→(0:Int)<(n:Int)):=fun n h=>by have:=JJ jq;omega
    have jy:=A6 jq;clear jq;cases l0 with
    | false =>
     have HE:Hid (50=DB S):=by show _=_;rw [jo.out];rfl
     go_enter Tryz.func28,Tryz.ntmps28
     go_wp2_with (first | (go_at_call 54;refine (Cg S a cap _ (HR.out.later (by first | exact hB | go_grown) (A7 _)) h0 h1 hl).mono ?_;rintro e w1 ⟨he,hb⟩;rw [HV.out] at he;subst he;obtain ⟨hz,hc,hf⟩:=BB hb (by first | (simp only [AA,World.size_setCell,World.size_drew];rfl) | rfl);have hB:=Ap (B:=w.heap.size) (w:=w) (by first | exact hB | go_grown) hb (A7 _);clear hb) | (go_at_call 55;refine (rfind_any S a cap _ (HR.out.later (by first | exact hB | go_grown) (A7 _)) h0 h1 hl HS.out).mono ?_;rintro e w2 ⟨v1,v2,v3,rfl,jf,jd,je,hb⟩;obtain ⟨a1,n1,c1,ji⟩:=jf.form;obtain ⟨a2,n2,c2,jj⟩:=jd.form;obtain ⟨a3,n3,c3,jk⟩:=je.form;subst ji jj jk;have jb:=jd.sls.2;have jc:=je.sls.2;rw [HF.out] at jb jc;have js:=A6 jb;have jt:=A6 jc;have jv:=jn.out n2 jb;have jw:=jm.out n3 jc;clear jf jd je jb jc;obtain ⟨hz,hc,hf⟩:=BB hb (by first | (simp only [AA,World.size_setCell,World.size_drew];rfl) | rfl);have hB:=Ap (B:=w.heap.size) (w:=w) (by first | exact hB | go_grown) hb (A7 _);clear hb) | (go_at_call 56;refine (rlive_any S a cap _ (HR.out.later (by first | exact hB.alloc (by have:=hB.size;omega) _ | exact hB | go_grown) (A7 _)) jg.out).mono ?_;rintro e w3 ⟨v,rfl,⟨g3,hv,ju,ja⟩,hb⟩;rw [HM.out] at hv ja;subst hv;have jh:=Bg ja (i:=0) (by omega);rw [jp.out] at jh;clear ja;obtain ⟨hz,hc,hf⟩:=BB hb (by first | (simp only [AA,World.size_setCell,World.size_drew];rfl) | rfl);have hB:=Ap (B:=w.heap.size) (w:=w) (by go_grown) hb (A7 _);clear hb) | fail)
     go_ret;exact ⟨BY HE.out,hB⟩
    | true =>
     have HE:Hid (41=DB S):=by show _=_;rw [jo.out,if_pos rfl,if_pos jx.out,if_neg jy.out]
     go_enter Tryz.func28,Tryz.ntmps28
     go_wp2_with (first | (go_at_call 54;refine (Cg S a cap _ (HR.out.later (by first | exact hB | go_grown) (A7 _)) h0 h1 hl).mono ?_;rintro e w1 ⟨he,hb⟩;rw [HV.out] at he;subst he;obtain ⟨hz,hc,hf⟩:=BB hb (by first | (simp only [AA,World.size_setCell,World.size_drew];rfl) | rfl);have hB:=Ap (B:=w.heap.size) (w:=w) (by first | exact hB | go_grown) hb (A7 _);clear hb) | (go_at_call 55;refine (rfind_any S a cap _ (HR.out.later (by first | exact hB | go_grown) (A7 _)) h0 h1 hl HS.out).mono ?_;rintro e w2 ⟨v1,v2,v3,rfl,jf,jd,je,hb⟩;obtain ⟨a1,n1,c1,ji⟩:=jf.form;obtain ⟨a2,n2,c2,jj⟩:=jd.form;obtain ⟨a3,n3,c3,jk⟩:=je.form;subst ji jj jk;have jb:=jd.sls.2;have jc:=je.sls.2;rw [HF.out] at jb jc;have js:=A6 jb;have jt:=A6 jc;have jv:=jn.out n2 jb;have jw:=jm.out n3 jc;clear jf jd je jb jc;obtain ⟨hz,hc,hf⟩:=BB hb (by first | (simp only [AA,World.size_setCell,World.size_drew];rfl) | rfl);have hB:=Ap (B:=w.heap.size) (w:=w) (by first | exact hB | go_grown) hb (A7 _);clear hb) | (go_at_call 56;refine (rlive_any S a cap _ (HR.out.later (by first | exact hB.alloc (by have:=hB.size;omega) _ | exact hB | go_grown) (A7 _)) jg.out).mono ?_;rintro e w3 ⟨v,rfl,⟨g3,hv,ju,ja⟩,hb⟩;rw [HM.out] at hv ja;subst hv;have jh:=Bg ja (i:=0) (by omega);rw [jp.out] at jh;clear ja;obtain ⟨hz,hc,hf⟩:=BB hb (by first | (simp only [AA,World.size_setCell,World.size_drew];rfl) | rfl);have hB:=Ap (B:=w.heap.size) (w:=w) (by go_grown) hb (A7 _);clear hb) | fail)
     go_ret;exact ⟨BY HE.out,hB⟩
  ·have jn:Hid (∀ n,n=(Ci S).length→(0:Int)<(n:Int)):=fun n h=>by have:=JJ jr;omega
   have jm:Hid (∀ n:Nat,n=(FS9 S).length→True):=fun _ _=>trivial;have jx:=A6 jr;clear jr;cases l0 with
   | false =>
    have HE:Hid (50=DB S):=by show _=_;rw [jo.out];rfl
    go_enter Tryz.func28,Tryz.ntmps28
    go_wp2_with (first | (go_at_call 54;refine (Cg S a cap _ (HR.out.later (by first | exact hB | go_grown) (A7 _)) h0 h1 hl).mono ?_;rintro e w1 ⟨he,hb⟩;rw [HV.out] at he;subst he;obtain ⟨hz,hc,hf⟩:=BB hb (by first | (simp only [AA,World.size_setCell,World.size_drew];rfl) | rfl);have hB:=Ap (B:=w.heap.size) (w:=w) (by first | exact hB | go_grown) hb (A7 _);clear hb) | (go_at_call 55;refine (rfind_any S a cap _ (HR.out.later (by first | exact hB | go_grown) (A7 _)) h0 h1 hl HS.out).mono ?_;rintro e w2 ⟨v1,v2,v3,rfl,jf,jd,je,hb⟩;obtain ⟨a1,n1,c1,ji⟩:=jf.form;obtain ⟨a2,n2,c2,jj⟩:=jd.form;obtain ⟨a3,n3,c3,jk⟩:=je.form;subst ji jj jk;have jb:=jd.sls.2;have jc:=je.sls.2;rw [HF.out] at jb jc;have js:=A6 jb;have jt:=A6 jc;have jv:=jn.out n2 jb;have jw:=jm.out n3 jc;clear jf jd je jb jc;obtain ⟨hz,hc,hf⟩:=BB hb (by first | (simp only [AA,World.size_setCell,World.size_drew];rfl) | rfl);have hB:=Ap (B:=w.heap.size) (w:=w) (by first | exact hB | go_grown) hb (A7 _);clear hb) | (go_at_call 56;refine (rlive_any S a cap _ (HR.out.later (by first | exact hB.alloc (by have:=hB.size;omega) _ | exact hB | go_grown) (A7 _)) jg.out).mono ?_;rintro e w3 ⟨v,rfl,⟨g3,hv,ju,ja⟩,hb⟩;rw [HM.out] at hv ja;subst hv;have jh:=Bg ja (i:=0) (by omega);rw [jp.out] at jh;clear ja;obtain ⟨hz,hc,hf⟩:=BB hb (by first | (simp only [AA,World.size_setCell,World.size_drew];rfl) | rfl);have hB:=Ap (B:=w.heap.size) (w:=w) (by go_grown) hb (A7 _);clear hb) | fail)
    go_ret;exact ⟨BY HE.out,hB⟩
   | true =>
    have HE:Hid (40=DB S):=by show _=_;rw [jo.out,if_pos rfl,if_neg jx.out]
    go_enter Tryz.func28,Tryz.ntmps28
    go_wp2_with (first | (go_at_call 54;refine (Cg S a cap _ (HR.out.later (by first | exact hB | go_grown) (A7 _)) h0 h1 hl).mono ?_;rintro e w1 ⟨he,hb⟩;rw [HV.out] at he;subst he;obtain ⟨hz,hc,hf⟩:=BB hb (by first | (simp only [AA,World.size_setCell,World.size_drew];rfl) | rfl);have hB:=Ap (B:=w.heap.size) (w:=w) (by first | exact hB | go_grown) hb (A7 _);clear hb) | (go_at_call 55;refine (rfind_any S a cap _ (HR.out.later (by first | exact hB | go_grown) (A7 _)) h0 h1 hl HS.out).mono ?_;rintro e w2 ⟨v1,v2,v3,rfl,jf,jd,je,hb⟩;obtain ⟨a1,n1,c1,ji⟩:=jf.form;obtain ⟨a2,n2,c2,jj⟩:=jd.form;obtain ⟨a3,n3,c3,jk⟩:=je.form;subst ji jj jk;have jb:=jd.sls.2;have jc:=je.sls.2;rw [HF.out] at jb jc;have js:=A6 jb;have jt:=A6 jc;have jv:=jn.out n2 jb;have jw:=jm.out n3 jc;clear jf jd je jb jc;obtain ⟨hz,hc,hf⟩:=BB hb (by first | (simp only [AA,World.size_setCell,World.size_drew];rfl) | rfl);have hB:=Ap (B:=w.heap.size) (w:=w) (by first | exact hB | go_grown) hb (A7 _);clear hb) | (go_at_call 56;refine (rlive_any S a cap _ (HR.out.later (by first | exact hB.alloc (by have:=hB.size;omega) _ | exact hB | go_grown) (A7 _)) jg.out).mono ?_;rintro e w3 ⟨v,rfl,⟨g3,hv,ju,ja⟩,hb⟩;rw [HM.out] at hv ja;subst hv;have jh:=Bg ja (i:=0) (by omega);rw [jp.out] at jh;clear ja;obtain ⟨hz,hc,hf⟩:=BB hb (by first | (simp only [AA,World.size_setCell,World.size_drew];rfl) | rfl);have hB:=Ap (B:=w.heap.size) (w:=w) (by go_grown) hb (A7 _);clear hb) | fail)
    go_ret;exact ⟨BY HE.out,hB⟩
 ·have jA:validB S=false:=by simpa using hv
  have HV:=A6 jA;have HE:Hid (20=DB S):=by show _=_;rw [DB,if_neg hv]
  clear hv jA
  go_enter Tryz.func28,Tryz.ntmps28
  go_wp2_with (first | (go_at_call 54;refine (Cg S a cap _ (HR.out.later (by first | exact hB | go_grown) (A7 _)) h0 h1 hl).mono ?_;rintro e w1 ⟨he,hb⟩;rw [HV.out] at he;subst he;obtain ⟨hz,hc,hf⟩:=BB hb (by first | (simp only [AA,World.size_setCell,World.size_drew];rfl) | rfl);have hB:=Ap (B:=w.heap.size) (w:=w) (by first | exact hB | go_grown) hb (A7 _);clear hb) | fail)
  go_ret;exact ⟨BY HE.out,hB⟩
theorem OZ:CG false=fun _=>true:=funext fun _=>rfl
theorem QK:CG true=CI:=funext fun _=>rfl
theorem bestTo_spec {use:Rl→Bool} {R:List Rl} {start n:Nat} {K:Wk} (hK:EJ use R start (n+1) K) (ok:Nat→Bool):∀ M,
  (CM K ok M=[]∧∀ t,t<M→K.is t=true→ok t=false) ∨
  (∃ t,t<M∧K.is t=true∧ok t=true∧CM K ok M=K.ch t∧∀ t',t'<M→K.is t'=true→ok t'=true→sle (K.ch t) (K.ch t')):=by
 intro M
 induction M with
 | zero=>exact .inl ⟨rfl,fun t h=>absurd h (by omega)⟩
 | succ M ih =>
  rw [CM,Hv];by_cases h1:K.is M=true∧ok M=true
  ·rcases ih with ⟨h2,h3⟩ | ⟨t,ht,jd,jg,hb,jf⟩
   ·rw [h2,h1.1,h1.2];refine .inr ⟨M,by omega,h1.1,h1.2,rfl,fun t' jh jb ja=>?_⟩;by_cases e:t'=M
    · subst e;exact EY _
    · rw [h3 t' (by omega) jb] at ja;cases ja
   ·have ji:=(hK.ch _ h1.1).1;have je:=(hK.ch _ jd).1;have jj:(K.ch t).isEmpty=false:=by
     rcases hq:K.ch t with _ | ⟨x,l⟩
     · rw [hq] at je;simp at je
     · rfl
    rw [hb,h1.1,h1.2,jj];simp only [Bool.true_and,Bool.false_or];by_cases jc:BJ (ints (K.ch M)) (ints (K.ch t))=true
    ·rw [if_pos jc];have jk:=(EZ (ji.trans je.symm)).1 jc;refine .inr ⟨M,by omega,h1.1,h1.2,rfl,fun t' jh jb ja=>?_⟩;by_cases e:t'=M
     · subst e;exact EY _
     · exact CZ (.inr jk) (jf t' (by omega) jb ja)
    ·rw [if_neg jc];refine .inr ⟨t,by omega,jd,jg,rfl,fun t' jh jb ja=>?_⟩;by_cases e:t'=M
     ·subst e;rcases IM (K.ch t') (K.ch t) with h | h
      · exact absurd ((EZ (ji.trans je.symm)).2 h) jc
      · exact h
     · exact jf t' (by omega) jb ja
  ·have h2:(K.is M && (ok M && ((CM K ok M).isEmpty || BJ (ints (K.ch M)) (ints (CM K ok M)))))=false:=by
    cases ha:K.is M <;> cases hb:ok M <;> simp [ha,hb] at h1 ⊢
   rw [if_neg (by rw [h2];simp)];rcases ih with ⟨h2,h3⟩ | ⟨t,ht,jd,jg,hb,jf⟩
   ·refine .inl ⟨h2,fun t ht hi=>?_⟩;by_cases e:t=M
    ·subst e;cases ho:ok t with
     | false=>rfl
     | true=>exact absurd ⟨hi,ho⟩ h1
    · exact h3 t (by omega) hi
   ·refine .inr ⟨t,by omega,jd,jg,hb,fun t' jh jb ja=>?_⟩;by_cases e:t'=M
    · subst e;exact absurd ⟨jb,ja⟩ h1
    · exact jf t' (by omega) jb ja
theorem rsF_spec {S:Sch} (hS:Fit S):∀ f k,
  (rsF S f k=[]∧∀ d t,k<d.length→d.length≤k+f→leads (fun _=>true) S.rules 0 d=some t→DJ S t=false) ∨
  (k<(rsF S f k).length∧(∃ t,leads (fun _=>true) S.rules 0 (rsF S f k)=some t∧DJ S t=true) ∧
   ∀ d t,k<d.length→leads (fun _=>true) S.rules 0 d=some t→DJ S t=true→sle (rsF S f k) d):=by
 have ja:0<S.modes.toNat:=by have:=hS.m0;omega
 intro f
 induction f with
 | zero=>intro k;exact .inl ⟨rfl,fun d t h1 h2=>absurd h1 (by omega)⟩
 | succ f ih =>
  intro k;have hK:EJ (fun _=>true) S.rules 0 (k+1) (Cb (CG false) S.rules 0 true (k+1)):=by rw [OZ];exact IU (k+1)
  rw [rsF];rcases bestTo_spec hK (DJ S) S.modes.toNat with ⟨h1,h2⟩ | ⟨t,ht,jc,jf,hb,jd⟩
  ·rw [if_pos h1];have jb:∀ d t,d.length=k+1→leads (fun _=>true) S.rules 0 d=some t→DJ S t=false:=fun d t hd hl =>
    h2 t (DI hS ja hl) ((hK.is t).2 ⟨d,hd,hl⟩)
   rcases ih (k+1) with ⟨h3,h4⟩ | ⟨h3,h4,h5⟩
   ·refine .inl ⟨h3,fun d t h6 h7 h8=>?_⟩;by_cases e:d.length=k+1
    · exact jb d t e h8
    · exact h4 d t (by omega) (by omega) h8
   ·refine .inr ⟨by omega,h4,fun d t h6 h7 h8=>?_⟩;by_cases e:d.length=k+1
    · rw [jb d t e h7] at h8;cases h8
    · exact h5 d t (by omega) h7 h8
  ·have hl:=hK.ch t jc;have je:CM (Cb (CG false) S.rules 0 true (k+1)) (DJ S) S.modes.toNat≠[]:=by
    rw [hb];intro h;rw [h] at hl;simp at hl
   rw [if_neg je,hb];refine .inr ⟨by omega,⟨t,hl.2,jf⟩,fun d t' h6 h7 h8=>?_⟩;by_cases e:d.length=k+1
   · exact CZ (jd t' (DI hS ja h7) ((hK.is t').2 ⟨d,e,h7⟩) h8) (hK.least t' d e h7)
   · exact .inr (.inl (by omega))
theorem F9 {S:Sch} (hS:Fit S) {t:Nat} (ht:t<S.modes.toNat):(255 - BX S).testBit t=DJ S t:=by
 have hl:BX S<256:=Jb hS;have:=hS.m1;rw [show 255 - BX S=2 ^ 8 - (BX S+1) by omega,Nat.testBit_two_pow_sub_succ (by omega),decide_eq_true (by omega)];rfl
theorem rstuck_eq {S:Sch} (hS:Fit S):Ci S=Jc S:=by
 have ja:0<S.modes.toNat:=by have:=hS.m0;omega
 have je:S.modes.toNat≤8:=by have:=hS.m1;omega
 unfold Ci Jc;by_cases h0:(BX S).testBit 0=true
 ·rw [if_pos h0,if_pos h0];rcases Fk (use:=fun _=>true) (goal:=255 - BX S) hS.small je ja with ⟨h1,h2⟩ | ⟨h1,h2⟩
  ·rw [h1];rcases rsF_spec hS S.modes.toNat 0 with ⟨h3,_⟩ | ⟨h3,⟨t,h4,h5⟩,_⟩
   · exact h3
   ·have h6:=h2 _ t (fun h=>by rw [h] at h3;simp at h3) h4;rw [F9 hS (DI hS ja h4),h5] at h6;cases h6
  ·obtain ⟨g,hg,jd⟩:=h1.is;have jc:DJ S g=true:=by rw [← F9 hS (DI hS ja hg)];exact jd
   have jb:0<(bfs (fun _=>true) (255 - BX S) S.rules 0).length:=JJ h1.ne;rcases rsF_spec hS S.modes.toNat 0 with ⟨_,h4⟩ | ⟨h3,⟨t,h4,h5⟩,h6⟩
   · rw [h4 _ g jb (by omega) hg] at jc;cases jc
   ·refine Mj (use:=fun _=>true) (R:=S.rules) (start:=0) (goal:=255 - BX S) ⟨fun h=>by rw [h] at h3;simp at h3,⟨t,h4,by rw [F9 hS (DI hS ja h4)];exact h5⟩,fun d g' hd hl hb=>?_⟩ h1;exact h6 d g' (JJ hd) hl (by rw [← F9 hS (DI hS ja hl)];exact hb)
 · rw [if_neg h0,if_neg h0]
def SF (S:Sch) (m:Nat) (d:List Nat):Prop:=FU S m=true∧d≠[]∧leads CI S.rules m d=some m
def CT (P:List Nat→Prop) (b:List Nat):Prop:=(b=[]∧∀ d,¬ P d)∨(b≠[]∧P b∧∀ d,P d→sle b d)
theorem M5 {P:List Nat→Prop} {a b:List Nat} (ha:CT P a) (hb:CT P b):a=b:=by
 rcases ha with ⟨rfl,h1⟩ | ⟨_,h1,h2⟩ <;> rcases hb with ⟨rfl,h3⟩ | ⟨_,h3,h4⟩
 · rfl
 · exact absurd h3 (h1 _)
 · exact absurd h1 (h3 _)
 · exact Ht (h2 _ h3) (h4 _ h1)
theorem DW {P Q:List Nat→Prop} {a:List Nat} (h:∀ d,P d↔Q d) (ha:CT P a):CT Q a:=by
 have:P=Q:=funext fun d=>propext (h d);rw [← this];exact ha
open Classical in
theorem least_or {P Q:List Nat→Prop} {a b c:List Nat} (ha:CT P a) (hb:CT Q b) (hc:c=if b=[] then a else if a=[] then b else if sl b a then b else a):CT (fun d=>P d∨Q d) c:=by
 rcases hb with ⟨rfl,h3⟩ | ⟨ja,h3,h4⟩
 ·rw [if_pos rfl] at hc;subst hc;exact DW (fun d=>⟨.inl,fun h=>h.elim id fun h=>absurd h (h3 d)⟩) ha
 ·rw [if_neg ja] at hc;rcases ha with ⟨rfl,h1⟩ | ⟨jb,h1,h2⟩
  ·rw [if_pos rfl] at hc;subst hc;exact .inr ⟨ja,.inr h3,fun d h=>h.elim (fun h=>absurd h (h1 d)) (h4 d)⟩
  ·rw [if_neg jb] at hc;by_cases h:sl b a
   ·rw [if_pos h] at hc;subst hc;exact .inr ⟨ja,.inr h3,fun d hd=>hd.elim (fun hd=>.inr (Ll h (h2 d hd))) (h4 d)⟩
   ·rw [if_neg h] at hc;subst hc;refine .inr ⟨jb,.inl h1,fun d hd=>hd.elim (h2 d) fun hd=>CZ ?_ (h4 d hd)⟩;rcases IM b c with h5 | h5
    · exact absurd h5 h
    · exact h5
theorem lexC_lex:∀ {a b:List Nat},a.length=b.length→(EW (ints a) (ints b)<0↔Dg a b)
 | [],[],_=>by simp [ints,EW,Dg]
 | [],_ :: _,h=>by simp at h
 | _ :: _,[],h=>by simp at h
 | x
   :: a,y :: b,h=>by
  have ih:=lexC_lex (a:=a) (b:=b) (by simpa using h);show EW ((x:Int) :: ints a) ((y:Int) :: ints b)<0↔(x<y∨(x=y∧Dg a b));rw [EW];by_cases h1:(x:Int)<y
  ·rw [if_pos h1];exact ⟨fun _=>.inl (by omega),fun _=>by omega⟩
  ·rw [if_neg h1];by_cases h2:(y:Int)<x
   ·rw [if_pos h2];exact ⟨fun h=>absurd h (by omega),fun h=>by rcases h with h | h <;> omega⟩
   ·rw [if_neg h2,ih];exact ⟨fun h=>.inr ⟨by omega,h⟩,fun h=>h.elim (fun h=>absurd h (by omega)) (fun h=>h.2)⟩
theorem PC (a b:List Nat):Nv (ints a) (ints b)<0↔sl a b:=by
 unfold Nv;rw [BH,BH];by_cases h:a.length=b.length
 ·rw [if_pos h,lexC_lex h];exact ⟨fun h2=>.inr ⟨h,h2⟩,fun h2=>h2.elim (fun h3=>absurd h3 (by omega)) (fun h3=>h3.2)⟩
 ·rw [if_neg h];exact ⟨fun h2=>.inl (by omega),fun h2=>h2.elim (fun h3=>by omega) (fun h3=>absurd h3.1 h)⟩
theorem Ic {S:Sch} (hS:Fit S) {m:Nat} (hm:m<S.modes.toNat) (hc:FU S m=true):CT (SF S m) (bfs CI (2 ^ m) S.rules m):=by
 have jb:S.modes.toNat≤8:=by have:=hS.m1;omega
 rcases Fk (use:=CI) (goal:=2 ^ m) hS.small jb hm with ⟨h1,h2⟩ | ⟨h1,h2⟩
 ·refine .inl ⟨h1,fun d hd=>?_⟩;have:=h2 d m hd.2.1 hd.2.2;rw [Nat.testBit_two_pow] at this;simp at this
 ·obtain ⟨g,hg,ja⟩:=h1.is;rw [Nat.testBit_two_pow] at ja;obtain rfl:m=g:=by simpa using ja
  exact .inr ⟨h1.ne,⟨hc,h1.ne,hg⟩,fun d hd=>h1.least d m hd.2.1 hd.2.2 (by rw [Nat.testBit_two_pow];simp)⟩
def M7 (S:Sch) (M:Nat) (d:List Nat):Prop:=∃ m,m<M∧SF S m d
theorem D7 {S:Sch} {M:Nat} (d:List Nat):M7 S (M+1) d↔(M7 S M d∨SF S M d):=by
 constructor
 ·rintro ⟨m,h1,h2⟩;by_cases e:m=M
  · subst e;exact .inr h2
  · exact .inl ⟨m,by omega,h2⟩
 ·rintro (⟨m,h1,h2⟩ | h)
  · exact ⟨m,by omega,h2⟩
  · exact ⟨M,by omega,h⟩
open Classical in
theorem endF_least {S:Sch} (hS:Fit S):∀ M,M≤S.modes.toNat→CT (M7 S M) ((List.range M).foldl (endStep S) [])
 | 0,_=>.inl ⟨rfl,fun d ⟨m,h,_⟩=>absurd h (by omega)⟩
 | M
   +
    1,h=>by
  have ih:=endF_least hS M (by omega);rw [List.range_succ,List.foldl_append];show CT _ (endStep S ((List.range M).foldl (endStep S) []) M);generalize (List.range M).foldl (endStep S) []=a at ih;unfold endStep;by_cases hc:FU S M=true
  ·rw [if_pos hc];refine DW (fun d=>(D7 d).symm) (least_or ih (Ic hS (by omega) hc) ?_);by_cases h1:bfs CI (2 ^ M) S.rules M=[]
   · rw [if_pos h1,if_pos h1]
   ·rw [if_neg h1,if_neg h1];by_cases h2:a=[]
    · rw [if_pos h2,if_pos h2]
    ·rw [if_neg h2,if_neg h2];by_cases h3:sl (bfs CI (2 ^ M) S.rules M) a
     · rw [if_pos h3,if_pos ((PC _ _).2 h3)]
     · rw [if_neg h3,if_neg (fun h=>h3 ((PC _ _).1 h))]
  ·rw [if_neg hc];exact DW (fun d=>⟨fun h=>(D7 d).2 (.inl h),fun h=>((D7 d).1 h).elim id fun h=>absurd h.1 hc⟩) ih
theorem Gw {use:Rl→Bool} {R:List Rl} {K:Wk} (h:∀ t,K.is t=false):∀ k t,(Ca use R K k).is t=false
 | 0,_=>rfl
 | k+1,t=>by
  rw [Ca];split
  · unfold stepK;rw [h,Bool.false_and,if_neg (by simp)];exact Gw h k t
  · exact Gw h k t
theorem Iy {use:Rl→Bool} {R:List Rl} {m:Nat}:∀ n t,(Cb use R m false n).is t=false
 | 0,t=>by show (if t=m then false else false)=false;split <;> rfl
 | n+1,t=>Gw (Iy n) R.length t
def Uh (S:Sch) (m n:Nat) (d:List Nat):Prop:=SF S m d∧d.length≤n
open Classical in
theorem rendN_least {S:Sch} (hS:Fit S) {m:Nat} {P:List Nat→Prop} {b:List Nat} (hb:CT P b):∀ n,CT (fun d=>P d∨Uh S m n d) (Dd S m b n)
 | 0=>by
  rw [Dd];exact DW (fun d=>⟨.inl,fun h=>h.elim id fun h=>absurd h.1.2.1 (fun h2=>h2 (List.eq_nil_of_length_eq_zero (by have:=h.2;omega)))⟩) hb
 | n
   +
    1
     => by
  have ih:=rendN_least hS hb n (m:=m);rw [Dd];generalize Dd S m b n=a at ih;by_cases hc:FU S m=true
  ·rw [hc];have hK:EJ CI S.rules m (n+1) (Cb (CG true) S.rules m true (n+1)):=by rw [QK];exact IU (n+1)
   generalize Cb (CG true) S.rules m true (n+1)=K at hK;have hQ:CT (fun d=>SF S m d∧d.length=n+1) (if K.is m=true then K.ch m else []):=by
    by_cases h1:K.is m=true
    ·rw [if_pos h1];have h2:=hK.ch m h1;have h3:K.ch m≠[]:=fun h=>by rw [h] at h2;simp at h2
     exact .inr ⟨h3,⟨⟨hc,h3,h2.2⟩,h2.1⟩,fun d hd=>hK.least m d hd.2 hd.1.2.2⟩
    ·rw [if_neg h1];exact .inl ⟨rfl,fun d hd=>h1 ((hK.is m).2 ⟨d,hd.2,hd.1.2.2⟩)⟩
   have je:=least_or ih hQ (c:=F7 K a m) ?_
   ·refine DW (fun d=>?_) je;constructor
    ·rintro ((h | ⟨h1,h2⟩) | ⟨h1,h2⟩)
     · exact .inl h
     · exact .inr ⟨h1,by omega⟩
     · exact .inr ⟨h1,by omega⟩
    ·rintro (h | ⟨h1,h2⟩)
     · exact .inl (.inl h)
     ·by_cases e:d.length=n+1
      · exact .inr ⟨h1,e⟩
      · exact .inl (.inr ⟨h1,by omega⟩)
   ·unfold F7;by_cases h1:K.is m=true
    ·have h2:=hK.ch m h1;have h3:K.ch m≠[]:=fun h=>by rw [h] at h2;simp at h2
     rw [if_pos h1,if_neg h3,h1,Bool.true_and];by_cases h4:a=[]
     · rw [if_pos h4,h4];rfl
     ·have jc:a.isEmpty=false:=by rcases a with _ | ⟨x,l⟩;exact absurd rfl h4;rfl
      rw [if_neg h4,jc,Bool.false_or];have ja:(decide ((K.ch m).length<a.length) || (decide ((K.ch m).length=a.length) && BJ (ints (K.ch m)) (ints a)))=true↔sl (K.ch m) a:=by
       simp only [Bool.or_eq_true,Bool.and_eq_true,decide_eq_true_eq];constructor
       ·rintro (h | ⟨h,h'⟩)
        · exact .inl h
        · exact (EZ h).1 h'
       ·rintro (h | ⟨h,h'⟩)
        · exact .inl h
        · exact .inr ⟨h,(beforeB_lex h).2 h'⟩
      by_cases h5:sl (K.ch m) a
      · rw [if_pos h5,if_pos (ja.2 h5)]
      · rw [if_neg h5,if_neg (fun h=>h5 (ja.1 h))]
    ·have jb:K.is m=false:=by simpa using h1
     rw [if_neg h1,if_pos rfl,jb,Bool.false_and,if_neg (by simp)]
  ·have jd:FU S m=false:=by simpa using hc
   rw [jd,F7,Iy,Bool.false_and,if_neg (by simp)];exact DW (fun d=>⟨fun h=>h.elim .inl fun h=>absurd h.1.1 hc,fun h=>h.elim .inl fun h=>absurd h.1.1 hc⟩) ih
theorem rendM_least {S:Sch} (hS:Fit S):∀ M,M≤S.modes.toNat→CT (M7 S M) (Ga S M)
 | 0,_=>.inl ⟨rfl,fun d ⟨m,h,_⟩=>absurd h (by omega)⟩
 | M
   +
    1,h=>by
  have ih:=rendM_least hS M (by omega);have ja:S.modes.toNat≤8:=by have:=hS.m1;omega
  rw [Ga];have h1:=rendN_least hS ih S.modes.toNat (m:=M);rcases h1 with ⟨h2,h3⟩ | ⟨h2,h3,h4⟩
  ·refine .inl ⟨h2,fun d hd=>?_⟩;rcases (D7 d).1 hd with hd | hd
   · exact h3 d (.inl hd)
   ·rcases Ic hS (by omega) hd.1 with ⟨_,h5⟩ | ⟨h5,h6,h7⟩
    · exact h5 d hd
    · exact h3 _ (.inr ⟨h6,Ln hS.small ja (by omega)⟩)
  ·refine .inr ⟨h2,?_,fun d hd=>?_⟩
   ·rcases h3 with h3 | h3
    · exact (D7 _).2 (.inl h3)
    · exact (D7 _).2 (.inr h3.1)
   ·rcases (D7 d).1 hd with hd | hd
    · exact h4 d (.inl hd)
    ·rcases Ic hS (by omega) hd.1 with ⟨_,h5⟩ | ⟨h5,h6,h7⟩
     · exact absurd hd (h5 d)
     · exact CZ (h4 _ (.inr ⟨h6,Ln hS.small ja (by omega)⟩)) (h7 d hd)
theorem rend_eq {S:Sch} (hS:Fit S):FS9 S=Mm S:=M5 (rendM_least hS _ (A7 _)) (endF_least hS _ (A7 _))
theorem PD {S:Sch} (hS:Fit S) (h0:(BX S).testBit 0=true):Po (Cr S) (BX S)=true↔Jc S≠[]:=by
 have ja:0<S.modes.toNat:=by have:=hS.m0;omega
 have jc:S.modes.toNat≤8:=by have:=hS.m1;omega
 unfold Po Jc;rw [if_pos h0,List.any_eq_true];constructor
 ·rintro ⟨m,_,hm⟩;simp only [Bool.and_eq_true,Bool.not_eq_true'] at hm;rw [L8] at hm;obtain ⟨c,hc⟩:=(reach_spec hS ja).1 hm.1;have jd:c≠[]:=by
   rintro rfl;cases hc;rw [h0] at hm;cases hm.2
  intro hb;rcases Fk (use:=fun _=>true) (goal:=255 - BX S) hS.small jc ja with ⟨_,h2⟩ | ⟨h1,_⟩
  ·have:=h2 c m jd hc;rw [F9 hS (DI hS ja hc),DJ,hm.2] at this;cases this
  · exact h1.ne hb
 ·intro hb;rcases Fk (use:=fun _=>true) (goal:=255 - BX S) hS.small jc ja with ⟨h1,_⟩ | ⟨h1,_⟩
  · exact absurd h1 hb
  ·obtain ⟨g,hg,jb⟩:=h1.is;have je:=DI hS ja hg;rw [F9 hS je,DJ] at jb;refine ⟨g,by simp;omega,?_⟩;rw [jb,L8,(reach_spec hS ja).2 ⟨_,hg⟩];rfl
theorem QL {S:Sch} (hS:validB S=true→Fit S):DB S=Cf S:=by
 unfold DB Cf;by_cases h:validB S=true
 ·rw [if_pos h,if_pos h];by_cases h0:(BX S).testBit 0=true
  ·rw [if_pos h0,if_pos h0,rstuck_eq (hS h),rend_eq (hS h)];by_cases h1:Jc S=[]
   · rw [if_pos h1,if_neg (fun h2=>(PD (hS h) h0).1 h2 h1)]
   · rw [if_neg h1,if_pos ((PD (hS h) h0).2 h1)]
  · rw [if_neg h0,if_neg h0]
 · rw [if_neg h,if_neg h]
def rl (f t:Int) (i:List UInt8):Rl:=⟨f,t,⟨i.toArray⟩,⟨#[]⟩,0⟩
def SA:Sch:=⟨2,1,[rl 0 0 [97],rl 0 1 [98]]⟩
def SE:Sch:=⟨0,0,[]⟩
def PE (r q:Rl):Bool:=decide (r.frm=q.frm) && (decide (r.dst=q.dst) && (decide (r.inp.data.toList=q.inp.data.toList) && (decide (r.out.data.toList=q.out.data.toList) && decide (r.cost=q.cost))))
theorem TR (r q:Rl):Ek r q=PE r q:=by
 unfold Ek PE;simp only [ByteArray.toList_eq]
def SG (S:Sch):Bool:=CR S && (List.range S.rules.length).all fun i=>match S.rules[i]? with | some r=>Da S.modes r && !(S.rules.take i).any (PE r) | none=>true
theorem FO (S:Sch):validB S=true↔JQ S:=by simp [validB]
theorem valid_of {S:Sch} (h:SG S=true):validB S=true:=by
 unfold SG at h;rw [Bool.and_eq_true,List.all_eq_true] at h;rw [FO];refine ⟨h.1,fun i hi _=>?_⟩;have:=h.2 i (by simpa using hi);rw [AE hi] at this;unfold Cw;have e:(S.rules.take i).any (Ek S.rules[i])=(S.rules.take i).any (PE S.rules[i]):=by congr 1;funext q;exact TR _ _
 rw [e];exact this
theorem Oa {S:Sch} (h:validB S=true) (ha:0≤S.acc) (hb:S.acc≤255):Fit S:=by
 have hv:JQ S:=(FO S).1 h;have h1:=hv.1;unfold CR at h1;simp only [Bool.and_eq_true,decide_eq_true_eq] at h1;refine ⟨h1.1,h1.2.1,ha,hb,h1.2.2.1,fun i hi=>?_⟩;have h2:=hv.2 i hi hi;unfold Cw Da at h2;simp only [Bool.and_eq_true,decide_eq_true_eq] at h2;exact ⟨h2.1.1,h2.1.2.1,h2.1.2.2.1,h2.1.2.2.2.1⟩
theorem vA:validB SA=true:=valid_of (by decide +kernel)
theorem vE:validB SE=false:=by
 cases hb:validB SE with
 | false=>rfl
 | true=>exact absurd ((FO SE).1 hb).1 (by decide +kernel)
theorem K6 (j:Nat) (hj:j<6):validB (N7 j)=true:=by
 rcases (show j=0∨j=1∨j=2∨j=3∨j=4∨j=5 by omega) with rfl | rfl | rfl | rfl | rfl | rfl <;> exact valid_of (by decide +kernel)
theorem Ob (j:Nat) (hj:j<6):Cf (N7 j)=0:=by
 rw [Cf,if_pos (K6 j hj)];rcases (show j=0∨j=1∨j=2∨j=3∨j=4∨j=5 by omega) with rfl | rfl | rfl | rfl | rfl | rfl <;> rw [if_pos (by decide +kernel),if_neg (by decide +kernel),if_pos (by decide +kernel)]
theorem PF {w:World} {g q:Nat} {x y z:Value} (h:q≠g):(((w.setCell ⟨g,0,none⟩ x).setCell ⟨g,1,none⟩ y).setCell ⟨g,2,none⟩ z).heap[q]? = w.heap[q]?:=by
 rw [Below.heap_setCell _ _ _ _ h,Below.heap_setCell _ _ _ _ h,Below.heap_setCell _ _ _ _ h]
theorem BL.apart {w w1:World} {a:Option Addr} {R:List Rl} {g:Nat} {x y z:Value} {t:TypeId} {f:Nat × Nat} (h:BL w a R) (hg:w.heap[g]? = some (.cells #[x,y,z] t f)) (hk:∀ q,q≠g→w1.heap[q]? = w.heap[q]?) (hz:w.heap.size≤w1.heap.size):BL w1 a R:=by
 rcases h with h | ⟨b,o,ha,hb,hc⟩
 · exact .inl h
 ·by_cases h0:R=[]
  · exact .inl h0
  ·have jb:b≠g:=fun e=>by
    have h5:=hc 0 (List.length_pos_iff.2 h0);obtain ⟨_,_,_,_,h4⟩:=h5;rw [e,cell_of_row w g _ _ _ f hg] at h4;have:(#[x,y,z]:Array Value)[o+0*5+4]? = none:=Array.getElem?_eq_none (by simp);rw [this] at h4;cases h4
   have ja:∀ i,w1.cell? ⟨b,i,none⟩=w.cell? ⟨b,i,none⟩:=fun i=>World.cell?_of_block (hk b jb);refine .inr ⟨b,o,ha,by omega,fun i hi=>?_⟩;obtain ⟨h1,h2,h3,h4,h5⟩:=hc i hi;exact ⟨(ja _).trans h1,(ja _).trans h2,(ja _).trans h3,(ja _).trans h4,(ja _).trans h5⟩
structure I9 (w:World) (S:Sch) (b:Option Addr) (c:Nat):Prop where
 valid:validB S=true
 sound:Cf S=0
 acc:S.acc=1
 mod:1≤S.modes∧S.modes≤2
 len:S.rules.length≤9
 cap:S.rules.length≤c
 rul:BL w b S.rules
theorem I9.later {w w1:World} {S:Sch} {b:Option Addr} {c B:Nat} (h:I9 w S b c) (hb:Below B w w1) (hB:w.heap.size≤B):I9 w1 S b c :=
 ⟨h.valid,h.sound,h.acc,h.mod,h.len,h.cap,h.rul.later hb hB⟩
def Ui (w:World) (e:Ending) (w':World):Prop:=∃ (S:Sch) (b:Option Addr) (c:Nat),e=.returned (.agg #[.int .i64 S.modes,.int .u8 S.acc,.slice b S.rules.length c])∧I9 w' S b c∧Below w.heap.size w w'
theorem Uj (x0 x1:Int) (a:Option Addr) (len cap:Nat) (Q:Nat→RR) (w:World) (jB:0≤x0) (jC:x0≤255) (jK:0≤x1) (jL:x1≤255) (hQ:EI w a len Q) :
  Calls Tryz.prog 10 #[.agg #[.int .u8 x0,.int .u8 x1,.slice a len cap]] w (Ui w):=by
 have HQ:=A6 hQ;clear hQ
 go_enter Tryz.func10,Tryz.ntmps10
 go_wp2_with fail
 obtain ⟨w1,jg⟩:∃ w1,(w.alloc (.cells #[.int .u8 x0,.int .u8 x1,.slice a len cap] 24)).alloc (.cells #[.int .i64 0,.int .u8 0,.slice none 0 0] 32)=w1:=⟨_,rfl⟩
 rw [jg];have jz:Hid (Ext w w1):=by show Ext _ _;rw [← jg];exact ((Below.refl _ _).alloc (A7 _) _).alloc (by simp only [AA];omega) _
 have jH:Hid (w1.heap[w.heap.size]? = some (.cells #[.int .u8 x0,.int .u8 x1,.slice a len cap] 24 (0,0))):=by
  show _=_;rw [← jg,Below.heap_alloc _ _ _ (by simp only [AA];omega)];exact heap_alloc_new _ _
 have jv:Hid (w1.heap[w.heap.size+1]? = some (.cells #[.int .i64 0,.int .u8 0,.slice none 0 0] 32 (0,0))):=by
  show _=_;rw [← jg];have h:=heap_alloc_new (w.alloc (.cells #[.int .u8 x0,.int .u8 x1,.slice a len cap] 24)) (.cells #[.int .i64 0,.int .u8 0,.slice none 0 0] 32);rw [AA] at h;exact h
 have jA:Hid (w.heap.size+1<w1.heap.size):=(A9.1 jv.out).1;clear jg;refine (made2_any x0 x1 a len cap Q w1 jB jC jK jL (HQ.out.later jz.out (A7 _))).mono ?_;rintro e w2 ⟨S,b,c,rfl,jN,jO,jj,jM,jf,jq,hb⟩;have ju:=A6 jf;have jh:=A6 hb;have jt:Hid (validB S=true→Fit S):=fun h=>Oa h (by rw [jj];decide) (by rw [jj];decide);have jl:=A6 jj;clear jf hb jj
 go_wp2_with (fail)
 obtain ⟨w4,jk⟩:∃ w4,w2.alloc (.cells #[.int .i64 S.modes,.int .u8 S.acc,.slice b S.rules.length c] 32)=w4:=⟨_,rfl⟩
 have jb:Hid (Ext w2 w4):=by show Ext _ _;rw [← jk];exact (Below.refl _ _).alloc (A7 _) _
 have jw:Hid (w4.heap[w2.heap.size]? = some (.cells #[.int .i64 S.modes,.int .u8 S.acc,.slice b S.rules.length c] 32 (0,0))):=by show _=_;rw [← jk];exact heap_alloc_new _ _
 rw [jk];clear jk;have jy:Hid (Below w.heap.size w w4):=(jz.out.trans jh.out).trans jb.out;refine (rsound_any S b c w4 (ju.out.later jb.out (A7 _)) (by rw [jl.out];decide) (by rw [jl.out];decide) (by omega) jt.out).mono ?_;rw [QL jt.out];rintro e w5 ⟨rfl,jd⟩;have jE:=A6 jd;have jJ:=A6 ((jd.block _ (A9.1 jw.out).1).trans jw.out);have jo:Hid (Below w.heap.size w w5):=jy.out.trans (jd.mono jy.out.size);have js:Hid (Below w1.heap.size w1 w5):=(jh.out.trans (jb.out.mono jh.out.size)).trans (jd.mono (AC jh.out.size jb.out.size));obtain ⟨c0,c1,c2⟩:=cells3 jJ.out;have jI:=A6 ((js.out.block _ (by have:=jA.out;omega)).trans jH.out);have ja:=A6 ((js.out.block _ jA.out).trans jv.out);obtain ⟨r0,r1,r2⟩:=cells3 jI.out;obtain ⟨t0,t1,t2⟩:=cells3 ja.out;have tf:∀ i,w5.frozen? ⟨w.heap.size+1,i,none⟩=false:=fun i=>by simp [World.frozen?,ja.out]
 clear jd;obtain ⟨sd,jr⟩:∃ sd,Cf S=sd:=⟨_,rfl⟩
 have jx:=A6 jr;rw [jr];clear jr;by_cases h0:sd=0
 ·have jR:(sd != 0)=false:=by simp [h0]
  have jS:Hid (validB S=true):=by
   show _=_;cases hv:validB S with
   | true=>rfl
   | false=>have h:=jx.out;rw [Cf,if_neg (by rw [hv];simp)] at h;omega
  have jn:Hid (Cf S=0):=jx.out.trans h0;clear h0
  go_wp2_with fail
  obtain ⟨q0,q1,q2⟩:=cells3 (Mn (a:=.int .i64 S.modes) (b:=.int .u8 S.acc) (c:=.slice b S.rules.length c) ja.out);refine bodyPost_ret (v:=.agg #[.int .i64 S.modes,.int .u8 S.acc,.slice b S.rules.length c]) (by simp [results,Tryz.results10,go_sem,q0,q1,q2]) rfl ⟨S,b,c,rfl,⟨jS.out,jn.out,jl.out,⟨jN,jO⟩,jM,jq,?_⟩,?_⟩
  · exact BL.apart (ju.out.later (Ext.trans jb.out jE.out) (A7 _)) ja.out (fun q hq=>PF hq) (by simp only [World.size_setCell];exact A7 _)
  · exact ((jo.out.setCell (by show w.heap.size≤w.heap.size+1;omega) _).setCell (by show w.heap.size≤w.heap.size+1;omega) _).setCell (by show w.heap.size≤w.heap.size+1;omega) _
 ·have jR:(sd != 0)=true:=by simp [h0]
  clear h0
  go_wp2_with fail
  clear c0 c1 c2 r0 r1 r2 t0 t1 t2 tf;refine (base_any x0 w5 jB jC).mono ?_;rintro e w6 ⟨S2,b2,n2,rfl,rfl,jP,jQ,jc, -,hl5,je,jp,j,hj, -,jD⟩;have ji:=A6 ((jp.block _ (A9.1 ja.out).1).trans ja.out);obtain ⟨t0,t1,t2⟩:=cells3 ji.out;have tf:∀ i,w6.frozen? ⟨w.heap.size+1,i,none⟩=false:=fun i=>by simp [World.frozen?,ji.out]
  have jG:=A6 je;have jF:=A6 jp;have HE:=A6 jD;have jm:=A6 jc;clear je jp jD jc
  go_wp2_with fail
  obtain ⟨q0,q1,q2⟩:=cells3 (Mn (a:=.int .i64 S2.modes) (b:=.int .u8 S2.acc) (c:=.slice b2 S2.rules.length S2.rules.length) ji.out);refine bodyPost_ret (v:=.agg #[.int .i64 S2.modes,.int .u8 S2.acc,.slice b2 S2.rules.length S2.rules.length]) (by simp [results,Tryz.results10,go_sem,q0,q1,q2]) rfl ⟨S2,b2,_,rfl,⟨by rw [HE.out];exact K6 j hj,by rw [HE.out];exact Ob j hj,jm.out,⟨jP,jQ⟩,by omega,A7 _,?_⟩,?_⟩
  · exact BL.apart jG.out.ruls.1 ji.out (fun q hq=>PF hq) (by simp only [World.size_setCell];exact A7 _)
  · exact (((jo.out.trans (jF.out.mono jo.out.size)).setCell (by show w.heap.size≤w.heap.size+1;omega) _).setCell (by show w.heap.size≤w.heap.size+1;omega) _).setCell (by show w.heap.size≤w.heap.size+1;omega) _
open Go.ChangeShapes Go.WideShapes Go.ChangeAt Go.RowKit
structure SH where
 M:Int
 A:Int
 a:Option Addr
 len:Nat
 cap:Nat
 Q:Nat→RR
structure SI (w:World) (x:SH):Prop where
 m0:0≤x.M
 m1:x.M≤255
 a0:0≤x.A
 a1:x.A≤255
 rows:EI w x.a x.len x.Q
instance:Inhabited RR:=⟨⟨none,0,0,none,0,0,0,0,0,fun _=>0,fun _=>0⟩⟩
section
variable {H:Type} {enc:TypeId × Value→H} {w:World} {base:Nat} {spare:Nat→Bool} {held:Bool} {d:DataW H} {p:List MemPlace} {r:Reach} {b0:Nat} {v:Value}
theorem M8 {P:Program} {t:TypeId} {f0 f1 f2 f3 f4:Field} {fuel:Nat} {cs:List Value} {x:DataW H × List MemPlace} (ht:P.underlying t=some (.struct #[f0,f1,f2,f3,f4])) (h:DataW.trod enc P w base spare held fuel t cs=some x) :
  ∃
   y0 y1 y2 y3 y4 n,cs.length=P.cellsOf t∧DataW.trod enc P w base spare held n f0.type ((cs.drop f0.offset).take (P.cellsOf f0.type))=some y0 ∧
   DataW.trod enc P w base spare held n f1.type ((cs.drop f1.offset).take (P.cellsOf f1.type))=some y1∧DataW.trod enc P w base spare held n f2.type ((cs.drop f2.offset).take (P.cellsOf f2.type))=some y2 ∧
   DataW.trod enc P w base spare held n f3.type ((cs.drop f3.offset).take (P.cellsOf f3.type))=some y3∧DataW.trod enc P w base spare held n f4.type ((cs.drop f4.offset).take (P.cellsOf f4.type))=some y4:=by
 obtain ⟨xs,n,_,rfl,hl,ja,hf⟩:=DataW.trod_struct ht h
 match xs,ja with
 | [y0,y1,y2,y3,y4],_=>exact ⟨y0,y1,y2,y3,y4,n,hl,by simpa using hf 0 f0 rfl,by simpa using hf 1 f1 rfl,by simpa using hf 2 f2 rfl,by simpa using hf 3 f3 rfl,by simpa using hf 4 f4 rfl⟩
open Go.Deep in
theorem slice_bytes {fuel:Nat} {cs:List Value} {x:DataW H × List MemPlace} (h:DataW.trod enc Tryz.prog w base spare held fuel 26 cs=some x):∃ a len cap Z,cs=[.slice a len cap]∧Ce w a len Z:=by
 rcases open_slice1 Tryz.underlying26 (by kernel_rfl) h with ⟨h0,_⟩ | ⟨ad,l,c,m,n,V,D,Pl,h0,hba,hl,ja,jd,_,jb⟩
 · exact ⟨none,0,0,fun _=>0,h0,.inl rfl⟩
 ·have hlm:l≤m:=by rw [jd];split <;> omega
  have jc:l≤9223372036854775807:=by unfold maxLen at ja;omega
  have key:∀ i,i<l→∃ z,w.cell? (ad.add i)=some (.int .u8 z)∧0≤z∧z≤255:=fun i hi=>by
   obtain ⟨h1,h2⟩:=jb i (by omega);obtain ⟨z,hz,_,hw⟩:=DataW.trod_int Tryz.underlying5 h2;have:V i=.int .u8 z:=List.head_eq_of_cons_eq hz;rw [this] at h1;exact ⟨z,h1,bounds_u8 hw⟩
  by_cases h9:l=0
  · exact ⟨some ad,l,c,fun _=>0,h0,.inl h9⟩
  ·obtain ⟨Z,hZ⟩:=choose_lt (α:=Int) key;obtain ⟨b,o,sp⟩:=ad;have hs:=World.cell?_spot (hZ 0 (by omega)).1;obtain rfl:sp=none:=by simpa [Addr.add] using hs
   refine ⟨some ⟨b,o,none⟩,l,c,Z,h0,.inr ⟨b,o,rfl,jc,?_,fun i hi=>?_⟩⟩
   ·have:=World.block_lt_of_cell? w _ (hZ 0 (by omega)).1
    rwa [Di] at this
   ·have hk:=hZ i hi;rw [addr_add] at hk;exact hk
theorem M9 {fuel:Nat} {cs:List Value} {x:DataW H × List MemPlace} (h:DataW.trod enc Tryz.prog w base spare held fuel 106 cs=some x) :
  ∃ q:RR,cs=[.slice q.ai q.li q.ci,.slice q.ao q.lo q.co,.int .u8 q.f,.int .u8 q.d,.int .u8 q.c]∧OI w q:=by
 obtain ⟨y0,y1,y2,y3,y4,n,hl,h0,h1,h2,h3,h4⟩:=M8 Tryz.underlying106 h;have ja:cs.length=5:=hl.trans (by kernel_rfl)
 match cs,ja with
 | [c0,c1,c2,c3,c4],_ =>
  obtain ⟨ai,li,ci,ZI,e0,g0⟩:=slice_bytes h0;obtain ⟨ao,lo,co,ZO,e1,g1⟩:=slice_bytes h1;obtain ⟨f,e2,_,w2⟩:=DataW.trod_int Tryz.underlying5 h2;obtain ⟨dd,e3,_,w3⟩:=DataW.trod_int Tryz.underlying5 h3;obtain ⟨c,e4,_,w4⟩:=DataW.trod_int Tryz.underlying5 h4;obtain rfl:c0=.slice ai li ci:=List.head_eq_of_cons_eq e0;obtain rfl:c1=.slice ao lo co:=List.head_eq_of_cons_eq e1;obtain rfl:c2=.int .u8 f:=List.head_eq_of_cons_eq e2;obtain rfl:c3=.int .u8 dd:=List.head_eq_of_cons_eq e3;obtain rfl:c4=.int .u8 c:=List.head_eq_of_cons_eq e4;exact ⟨⟨ai,li,ci,ao,lo,co,f,dd,c,ZI,ZO⟩,rfl,(bounds_u8 w2).1,(bounds_u8 w2).2,(bounds_u8 w3).1,(bounds_u8 w3).2,(bounds_u8 w4).1,(bounds_u8 w4).2,g0,g1⟩
open Go.Deep in
theorem slice_raws {fuel:Nat} {cs:List Value} {x:DataW H × List MemPlace} (h:DataW.trod enc Tryz.prog w base spare held fuel 22 cs=some x):∃ a len cap Q,cs=[.slice a len cap]∧EI w a len Q:=by
 rcases open_slice Tryz.underlying22 h with ⟨h0,_⟩ | ⟨ad,l,c,m,n,D,Pl,h0,hba,hl,hcm,jg,_,je⟩
 · exact ⟨none,0,0,fun _=>⟨none,0,0,none,0,0,0,0,0,fun _=>0,fun _=>0⟩,h0,.inl rfl⟩
 ·have hlm:l≤m:=by rw [jg];split <;> omega
  have hC:Tryz.prog.cellsOf 106=5:=by kernel_rfl
  have key:∀ i,i<l→∃ q:RR,((w.cell? ⟨ad.block,ad.off+i*5+0,none⟩=some (.slice q.ai q.li q.ci)∧w.cell? ⟨ad.block,ad.off+i*5+1,none⟩=some (.slice q.ao q.lo q.co)∧w.cell? ⟨ad.block,ad.off+i*5+2,none⟩=some (.int .u8 q.f)∧w.cell? ⟨ad.block,ad.off+i*5+3,none⟩=some (.int .u8 q.d)∧w.cell? ⟨ad.block,ad.off+i*5+4,none⟩=some (.int .u8 q.c))∧OI w q)∧(i=0→ad.spot=none)∧ad.block<w.heap.size:=by
   intro i hi;obtain ⟨cs',jc,jh⟩:=je i (by omega);rw [hC] at jc;obtain ⟨q,rfl,hq⟩:=M9 jh;obtain ⟨_,hl',hg⟩:=World.cells?_some jc;have jb:∀ j,j<5→∀ u,[Value.slice q.ai q.li q.ci,.slice q.ao q.lo q.co,.int .u8 q.f,.int .u8 q.d,.int .u8 q.c][j]? = some u→w.cell? ⟨ad.block,ad.off+i*5+j,none⟩=some u:=by
    intro j hj u hu;have h1:=hg j hj;rw [hu] at h1;have ja:=World.cell?_spot h1;have e:(ad.add (i*5)).add j=⟨ad.block,ad.off+i*5+j,none⟩:=by
     rw [PU _ _ ja,Di,MP]
    rwa [e] at h1
   refine ⟨q,⟨⟨jb 0 (by omega) _ rfl,jb 1 (by omega) _ rfl,jb 2 (by omega) _ rfl,jb 3 (by omega) _ rfl,jb 4 (by omega) _ rfl⟩,hq⟩,fun jf=>?_,?_⟩
   ·subst jf;have h1:=hg 0 (by omega);have ja:=World.cell?_spot (v:=.slice q.ai q.li q.ci) h1;simpa [Addr.add] using ja
   ·have:=World.cells?_block jc (by omega)
    rwa [Di] at this
  by_cases h9:l=0
  · exact ⟨some ad,l,c,fun _=>⟨none,0,0,none,0,0,0,0,0,fun _=>0,fun _=>0⟩,h0,.inl h9⟩
  ·obtain ⟨Q,hQ⟩:=choose_lt (α:=RR) (n:=l) (fun i hi=>key i hi);have jd:=(hQ 0 (by omega)).2.1 rfl;obtain ⟨b,o,sp⟩:=ad;simp only at jd;subst jd;exact ⟨some ⟨b,o,none⟩,l,c,Q,h0,.inr ⟨b,o,rfl,(hQ 0 (by omega)).2.2,fun i hi=>(hQ i hi).1⟩⟩
end
end Go.Proofs.YthjmdgejnakcmaaGreatDoor.Fl
