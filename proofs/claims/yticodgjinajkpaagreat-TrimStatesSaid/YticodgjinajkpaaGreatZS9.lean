/-
  Parts of the proof that the law holds whatever the input; without conditions.
-/
import Derived.Test.YticodgjinajkpaaGreatZS8
set_option linter.unusedSimpArgs false
set_option linter.unusedVariables false
namespace Go.Proofs.YticodgjinajkpaaGreat
open Abs
theorem zmc {α:Type} [Inhabited α] {p:α→Bool} {l:List α} {k:Nat} (h:k < l.length):(l.drop k).all p=(p (nth l k) && (l.drop (k + 1)).all p):=by rw [drop_at h,List.all_cons]
theorem Nc (i:Int) (gs:List (List Span)) (hl:gs.length ≤ 9223372036854775807):PC Tryz.prog 53 [.int .i64 i,Al gs] (.bool (Cz i gs)):=by
 have hP:=Ag gs
 have hD:=Nb i
 refine A9 Q0 ?_
 unfold I5
 (repeat' (first|(simp (disch:=omega) only [push_cast,↓zz,seval])|(with_reducible first|refine And.intro ?_ ?_|(first|refine Ab ?_ ?_|refine Aa ?_ ?_)<;>intro hc<;>(try simp only [push_cast] at hc))|omega|with_reducible intro _))
 refine Ao (Aq (fun (k:Nat)=>k ≤ gs.length∧gs.all (Hw i)=(gs.drop k).all (Hw i)) (fun k=>gs.length - k)
   (fun k=>[(0,.int .i64 i),(1,Al gs),(5,.int .i64 k)]) (fun k=>[]) (fun _ _=>[]) 0 ⟨by simp,rfl⟩ ?_ ?_)
 · (repeat' (first|(simp (disch:=omega) only [push_cast,↓zz,seval,hP])|(with_reducible first|refine And.intro ?_ ?_|(first|refine Ab ?_ ?_|refine Aa ?_ ?_)<;>intro hc<;>(try simp only [push_cast] at hc))|omega|with_reducible intro _))
 rintro k ⟨k1,k2⟩
 rcases Nat.lt_or_ge k gs.length with hk|hk
 · rw [zmc hk,← Tc,z4n] at k2
   generalize hge:nth gs k=g at *
   have hpg:=Cf g
   have hno:Cz i gs=(decide ((gs.length:Int) ≤ 4) && gs.all (Hw i)):=rfl
   rw [hno]
   refine W_T ?_
   by_cases g1:g.length ≠ 0∧g.length ≤ 64
   · rw [decide_eq_true g1.1,decide_eq_true g1.2,Bool.true_and,Bool.true_and] at k2
     have hN:=Iq g (by omega)
     have hS:=z6f g (Ar g) (by omega)
     have hM:=L1 g (domL i) 2 (by omega) (by have:=Vj i;omega)
     rw [Sm] at hM
     have hlen:(Eb g (domL i)).length ≤ 9223372036854775807 ∨ True:=.inr trivial
     by_cases h2:g=Ar g
     · rw [decide_eq_true h2] at hS
       rw [decide_eq_true h2,Bool.true_and] at k2
       by_cases h3:Eb g (domL i)=[]
       · rw [h3] at hM
         rw [decide_eq_true h3,Bool.true_and] at k2
         (repeat' (first|(simp (disch:=omega) only [push_cast,↓zz,seval,hP,hge,hpg])|(with_reducible first|refine And.intro ?_ ?_|(first|refine Ab ?_ ?_|refine Aa ?_ ?_)<;>intro hc<;>(try simp only [push_cast] at hc)|refine eK hN ?_|refine eQ hN ?_|refine eG hN ?_|refine eK hS ?_|refine eQ hS ?_|refine eG hS ?_|refine eK hD ?_|refine eQ hD ?_|refine eG hD ?_|refine eK hM ?_|refine eQ hM ?_|refine eG hM ?_)|((with_reducible first|refine cK hN ?_|refine cQ hN ?_|refine cG hN ?_);(simp (disch:=omega) only [push_cast,↓zz,seval,hP,hge,hpg]);(fail_if_success with_reducible change False))|((with_reducible first|refine cK hS ?_|refine cQ hS ?_|refine cG hS ?_);(simp (disch:=omega) only [push_cast,↓zz,seval,hP,hge,hpg]);(fail_if_success with_reducible change False))|((with_reducible first|refine cK hD ?_|refine cQ hD ?_|refine cG hD ?_);(simp (disch:=omega) only [push_cast,↓zz,seval,hP,hge,hpg]);(fail_if_success with_reducible change False))|((with_reducible first|refine cK hM ?_|refine cQ hM ?_|refine cG hM ?_);(simp (disch:=omega) only [push_cast,↓zz,seval,hP,hge,hpg]);(fail_if_success with_reducible change False))|omega|with_reducible intro _))
         all_goals first
           | exact ⟨k + 1,by push_cast,⟨by omega,k2⟩,by omega⟩
           | trace_state
       · have hpos:=List.length_pos_iff.2 h3
         rw [decide_eq_false h3,Bool.false_and] at k2
         rw [k2,Bool.and_false]
         generalize Eb g (domL i)=m at *
         (repeat' (first|(simp (disch:=omega) only [push_cast,↓zz,seval,hP,hge,hpg])|(with_reducible first|refine And.intro ?_ ?_|(first|refine Ab ?_ ?_|refine Aa ?_ ?_)<;>intro hc<;>(try simp only [push_cast] at hc)|refine eK hN ?_|refine eQ hN ?_|refine eG hN ?_|refine eK hS ?_|refine eQ hS ?_|refine eG hS ?_|refine eK hD ?_|refine eQ hD ?_|refine eG hD ?_|refine eK hM ?_|refine eQ hM ?_|refine eG hM ?_)|((with_reducible first|refine cK hN ?_|refine cQ hN ?_|refine cG hN ?_);(simp (disch:=omega) only [push_cast,↓zz,seval,hP,hge,hpg]);(fail_if_success with_reducible change False))|((with_reducible first|refine cK hS ?_|refine cQ hS ?_|refine cG hS ?_);(simp (disch:=omega) only [push_cast,↓zz,seval,hP,hge,hpg]);(fail_if_success with_reducible change False))|((with_reducible first|refine cK hD ?_|refine cQ hD ?_|refine cG hD ?_);(simp (disch:=omega) only [push_cast,↓zz,seval,hP,hge,hpg]);(fail_if_success with_reducible change False))|((with_reducible first|refine cK hM ?_|refine cQ hM ?_|refine cG hM ?_);(simp (disch:=omega) only [push_cast,↓zz,seval,hP,hge,hpg]);(fail_if_success with_reducible change False))|omega|with_reducible intro _))
     · rw [decide_eq_false h2] at hS
       rw [decide_eq_false h2,Bool.false_and,Bool.false_and] at k2
       rw [k2,Bool.and_false]
       (repeat' (first|(simp (disch:=omega) only [push_cast,↓zz,seval,hP,hge,hpg])|(with_reducible first|refine And.intro ?_ ?_|(first|refine Ab ?_ ?_|refine Aa ?_ ?_)<;>intro hc<;>(try simp only [push_cast] at hc)|refine eK hN ?_|refine eQ hN ?_|refine eG hN ?_|refine eK hS ?_|refine eQ hS ?_|refine eG hS ?_)|((with_reducible first|refine cK hN ?_|refine cQ hN ?_|refine cG hN ?_);(simp (disch:=omega) only [push_cast,↓zz,seval,hP,hge,hpg]);(fail_if_success with_reducible change False))|((with_reducible first|refine cK hS ?_|refine cQ hS ?_|refine cG hS ?_);(simp (disch:=omega) only [push_cast,↓zz,seval,hP,hge,hpg]);(fail_if_success with_reducible change False))|omega|with_reducible intro _))
   · have:(decide (g.length ≠ 0) && (decide (g.length ≤ 64) && (decide (g=Ar g) && decide (Eb g (domL i)=[]))))=false:=by
       by_cases h:g.length ≠ 0
       · rw [decide_eq_false (p:=g.length ≤ 64) (by omega),Bool.false_and,Bool.and_false]
       · rw [decide_eq_false h,Bool.false_and]
     rw [this,Bool.false_and] at k2
     rw [k2,Bool.and_false]
     (repeat' (first|(simp (disch:=omega) only [push_cast,↓zz,seval,hP,hge,hpg])|(with_reducible first|refine And.intro ?_ ?_|(first|refine Ab ?_ ?_|refine Aa ?_ ?_)<;>intro hc<;>(try simp only [push_cast] at hc))|omega|with_reducible intro _))
 · rw [List.drop_of_length_le hk,List.all_nil] at k2
   have hno:Cz i gs=decide ((gs.length:Int) ≤ 4):=by rw [Cz,k2,Bool.and_true]
   rw [hno]
   refine W_T ?_
   (repeat' (first|(simp (disch:=omega) only [push_cast,↓zz,seval,hP])|(with_reducible first|refine And.intro ?_ ?_|(first|refine Ab ?_ ?_|refine Aa ?_ ?_)<;>intro hc<;>(try simp only [push_cast] at hc))|omega|with_reducible intro _))
   all_goals trace_state
theorem H5 (d:Desc) (out:List Term) (gs:List (List Span)) (ho:∀ t ∈ out,t.parts.length < 1000000000000) (hG:GOk d.in_ gs) :
   PC Tryz.prog 54 [B8 d,C5 out,Al gs] (.bool (Dl d out gs)):=by
 have hP:=Ag gs
 have hT:=Bh out
 refine A9 Q1 ?_
 unfold I6
 by_cases h4:64 < out.length
 · rw [Dl,decide_eq_false (by omega),Bool.false_and]
   (repeat' (first|(simp (disch:=omega) only [push_cast,↓zz,seval])|(with_reducible first|refine And.intro ?_ ?_|(first|refine Ab ?_ ?_|refine Aa ?_ ?_)<;>intro hc<;>(try simp only [push_cast] at hc))|omega|with_reducible intro _))
   refine Ao (Aq (fun (k:Nat)=>k=0) (fun k=>0)
     (fun k=>[(1,C5 out),(2,Al gs),(3,.ptr 0 1 0 0),(7,.int .i64 k)]) (fun s=>[⟨6,1,true,[B8 d]⟩]) (fun env _=>[Ay 1 (env 3)]) 0 rfl ?_ ?_)
   · (repeat' (first|(simp (disch:=omega) only [push_cast,↓zz,seval,hP,hT])|(with_reducible first|refine And.intro ?_ ?_|(first|refine Ab ?_ ?_|refine Aa ?_ ?_)<;>intro hc<;>(try simp only [push_cast] at hc))|omega|with_reducible intro _))
   rintro k rfl
   refine W_T ?_
   (repeat' (first|(simp (disch:=omega) only [push_cast,↓zz,seval,hP,hT])|(with_reducible first|refine And.intro ?_ ?_|(first|refine Ab ?_ ?_|refine Aa ?_ ?_)<;>intro hc<;>(try simp only [push_cast] at hc))|omega|with_reducible intro _))
 rw [Dl,decide_eq_true (by omega),Bool.true_and]
 (repeat' (first|(simp (disch:=omega) only [push_cast,↓zz,seval])|(with_reducible first|refine And.intro ?_ ?_|(first|refine Ab ?_ ?_|refine Aa ?_ ?_)<;>intro hc<;>(try simp only [push_cast] at hc))|omega|with_reducible intro _))
 refine Ao (Aq (fun (k:Nat)=>k ≤ out.length∧(out.all fun t=>P0 t d.in_ d.out gs)=(out.drop k).all fun t=>P0 t d.in_ d.out gs) (fun k=>out.length - k)
   (fun k=>[(1,C5 out),(2,Al gs),(3,.ptr 0 1 0 0),(7,.int .i64 k)]) (fun s=>[⟨6,1,true,[B8 d]⟩]) (fun env _=>[Ay 1 (env 3)]) 0 ⟨by simp,rfl⟩ ?_ ?_)
 · (repeat' (first|(simp (disch:=omega) only [push_cast,↓zz,seval,hP,hT])|(with_reducible first|refine And.intro ?_ ?_|(first|refine Ab ?_ ?_|refine Aa ?_ ?_)<;>intro hc<;>(try simp only [push_cast] at hc))|omega|with_reducible intro _))
 rintro k ⟨h1,h2⟩
 rcases Nat.lt_or_ge k out.length with hk|hk
 · rw [drop_at hk,List.all_cons] at h2
   have hF:=z7s (nth out k) d.in_ d.out gs (ho _ (Aw hk)) hG
   rw [zcs hG] at hF
   refine W_T ?_
   (repeat' (first|(simp (disch:=omega) only [push_cast,↓zz,seval,hP,hT])|(with_reducible first|refine And.intro ?_ ?_|(first|refine Ab ?_ ?_|refine Aa ?_ ?_)<;>intro hc<;>(try simp only [push_cast] at hc)|refine eK hF ?_|refine eQ hF ?_|refine eG hF ?_)|((with_reducible first|refine cK hF ?_|refine cQ hF ?_|refine cG hF ?_);(simp (disch:=omega) only [push_cast,↓zz,seval,hP,hT]);(fail_if_success with_reducible change False))|omega|with_reducible intro _))
   all_goals first
     | (rw [h2];simp [*];done)
     | exact ⟨k + 1,by push_cast,⟨by omega,by rw [h2];simp [*]⟩,by omega⟩
 · rw [List.drop_of_length_le hk,List.all_nil] at h2
   refine W_T ?_
   (repeat' (first|(simp (disch:=omega) only [push_cast,↓zz,seval,hP,hT,h2])|(with_reducible first|refine And.intro ?_ ?_|(first|refine Ab ?_ ?_|refine Aa ?_ ?_)<;>intro hc<;>(try simp only [push_cast] at hc))|omega|with_reducible intro _))
   all_goals trace_state
def sumT {α:Type} (f:α→Int) (l:List α):Int:=(l.map f).sum
theorem Vz {α:Type} [Inhabited α] {f:α→Int} {l:List α} {k:Nat} (h:k < l.length):sumT f (l.take (k + 1))=sumT f (l.take k) + f (nth l k):=by rw [take_at h];simp [sumT]
theorem E6 {α:Type} {f:α→Int} {B:Int} (hf:∀ x,0 ≤ f x∧f x ≤ B):∀ l:List α,0 ≤ sumT f l∧sumT f l ≤ l.length * B
 | []=>by simp [sumT]
 | x :: l=>by
   have h1:=E6 hf l
   have h2:=hf x
   have e:sumT f (x :: l)=f x + sumT f l:=by simp [sumT]
   have e2:((x :: l).length:Int) * B=l.length * B + B:=by push_cast [List.length_cons];rw [Int.add_mul,Int.one_mul]
   omega
theorem Iy {α:Type} {f:α→Int} (hf:∀ x,0 ≤ f x):∀ {l:List α} {x:α},x ∈ l→f x ≤ sumT f l
 | y :: l,x,h=>by
   have e:sumT f (y :: l)=f y + sumT f l:=by simp [sumT]
   have hn:∀ m:List α,0 ≤ sumT f m:=fun m=>by
     induction m with
     | nil=>simp [sumT]
     | cons z m ih =>
       have e:sumT f (z :: m)=f z + sumT f m:=by simp [sumT]
       have:=hf z
       omega
   have h1:=hf y
   have h2:=hn l
   rcases List.mem_cons.1 h with rfl|h
   · omega
   · have:=Iy hf h
     omega
def szG (g:List Span):Int:=min (g.length:Int) 4000
def szT (t:Term):Int:=1 + min (t.parts.length:Int) 4000
theorem z4o (g:List Span):0 ≤ szG g∧szG g ≤ 4000:=by unfold szG;omega
theorem z4p (t:Term):0 ≤ szT t∧szT t ≤ 4001:=by unfold szT;omega
def Hc (gs:List (List Span)) (out:List Term):Int:=if 100 < gs.length ∨ 200 < out.length then 4000 else 1 + sumT szG gs + sumT szT out
theorem Td (gs:List (List Span)) (out:List Term):PC Tryz.prog 24 [Al gs,C5 out] (.int .i64 (Hc gs out)):=by
 have hP:=Ag gs
 have hT:=Bh out
 refine A9 Xd ?_
 unfold Mj
 by_cases hb:100 < gs.length ∨ 200 < out.length
 · rw [Hc,if_pos hb]
   (repeat' (first|(simp (disch:=omega) only [push_cast,↓zz,seval,hP,hT])|(with_reducible first|refine And.intro ?_ ?_|(first|refine Ab ?_ ?_|refine Aa ?_ ?_)<;>intro hc<;>(try simp only [push_cast] at hc))|omega|with_reducible intro _))
 rw [Hc,if_neg hb]
 (repeat' (first|(simp (disch:=omega) only [push_cast,↓zz,seval,hP,hT])|(with_reducible first|refine And.intro ?_ ?_|(first|refine Ab ?_ ?_|refine Aa ?_ ?_)<;>intro hc<;>(try simp only [push_cast] at hc))|omega|with_reducible intro _))
 refine Ao (Aq (fun (k:Nat)=>k ≤ gs.length) (fun k=>gs.length - k)
   (fun k=>[(0,Al gs),(1,C5 out),(5,.int .i64 (1 + sumT szG (gs.take k))),(6,.int .i64 k)]) (fun k=>[]) (fun _ _=>[]) 0 (by simp) ?_ ?_)
 · have e0:sumT szG ([]:List (List Span))=0:=rfl
   (repeat' (first|(simp (disch:=omega) only [push_cast,↓zz,seval,hP,hT,e0])|(with_reducible first|refine And.intro ?_ ?_|(first|refine Ab ?_ ?_|refine Aa ?_ ?_)<;>intro hc<;>(try simp only [push_cast] at hc))|omega|with_reducible intro _))
 intro k hk
 have hb1:=E6 z4o (gs.take k)
 have hb2:((gs.take k).length:Int) * 4000 ≤ 100 * 4000:=Int.mul_le_mul_of_nonneg_right (by simp;omega) (by omega)
 rcases Nat.lt_or_ge k gs.length with hkl|hkl
 · have hst:=Vz (f:=szG) hkl
   have hx:=z4o (nth gs k)
   have hsz:min ((nth gs k).length:Int) 4000=szG (nth gs k):=rfl
   generalize hge:nth gs k=g at *
   generalize sumT szG (gs.take k)=n at *
   have hw:IntKind.i64.wrap (1 + n + szG g)=1 + n + szG g:=IntWalk.i64_in _ (by omega)
   refine W_T ?_
   (repeat' (first|(simp (disch:=omega) only [push_cast,↓zz,seval,hP,hT,hge,hsz,hw])|(with_reducible first|refine And.intro ?_ ?_|(first|refine Ab ?_ ?_|refine Aa ?_ ?_)<;>intro hc<;>(try simp only [push_cast] at hc))|omega|with_reducible intro _))
   all_goals
     refine ⟨k + 1,?_⟩
     (repeat' (first|(simp (disch:=omega) only [push_cast,↓zz,seval,hst])|(with_reducible first|refine And.intro ?_ ?_|(first|refine Ab ?_ ?_|refine Aa ?_ ?_)<;>intro hc<;>(try simp only [push_cast] at hc))|omega|with_reducible intro _))
   all_goals first
     | omega
     | trace_state
 · have hkt:gs.take k=gs:=List.take_of_length_le hkl
   rw [hkt] at hb1 hb2 ⊢
   generalize sumT szG gs=n at *
   refine W_T ?_
   (repeat' (first|(simp (disch:=omega) only [push_cast,↓zz,seval,hP,hT])|(with_reducible first|refine And.intro ?_ ?_|(first|refine Ab ?_ ?_|refine Aa ?_ ?_)<;>intro hc<;>(try simp only [push_cast] at hc))|omega|with_reducible intro _))
   refine Ao (Aq (fun (k:Nat)=>k ≤ out.length) (fun k=>out.length - k)
     (fun k=>[(1,C5 out),(5,.int .i64 (1 + n + sumT szT (out.take k))),(7,.int .i64 k)]) (fun k=>[]) (fun _ _=>[]) 0 (by simp) ?_ ?_)
   · have e0:sumT szT ([]:List Term)=0:=rfl
     (repeat' (first|(simp (disch:=omega) only [push_cast,↓zz,seval,hP,hT,e0,Int.add_zero])|(with_reducible first|refine And.intro ?_ ?_|(first|refine Ab ?_ ?_|refine Aa ?_ ?_)<;>intro hc<;>(try simp only [push_cast] at hc))|omega|with_reducible intro _))
   intro j hj
   have hb3:=E6 z4p (out.take j)
   have hb4:((out.take j).length:Int) * 4001 ≤ 200 * 4001:=Int.mul_le_mul_of_nonneg_right (by simp;omega) (by omega)
   rcases Nat.lt_or_ge j out.length with hjl|hjl
   · have hst:=Vz (f:=szT) hjl
     have hx:=z4p (nth out j)
     have hsz:szT (nth out j)=1 + min ((nth out j).parts.length:Int) 4000:=rfl
     generalize hge:nth out j=t at *
     generalize sumT szT (out.take j)=m at *
     generalize hze:min (t.parts.length:Int) 4000=z at *
     have hw:IntKind.i64.wrap (1 + n + m + 1)=1 + n + m + 1:=IntWalk.i64_in _ (by omega)
     have hw2:IntKind.i64.wrap (1 + n + m + 1 + z)=1 + n + m + 1 + z:=IntWalk.i64_in _ (by omega)
     refine W_T ?_
     (repeat' (first|(simp (disch:=omega) only [push_cast,↓zz,seval,hP,hT,hge,hze,hw,hw2])|(with_reducible first|refine And.intro ?_ ?_|(first|refine Ab ?_ ?_|refine Aa ?_ ?_)<;>intro hc<;>(try simp only [push_cast] at hc))|omega|with_reducible intro _))
     all_goals
       refine ⟨j + 1,?_⟩
       (repeat' (first|(simp (disch:=omega) only [push_cast,↓zz,seval,hst])|(with_reducible first|refine And.intro ?_ ?_|(first|refine Ab ?_ ?_|refine Aa ?_ ?_)<;>intro hc<;>(try simp only [push_cast] at hc))|omega|with_reducible intro _))
     all_goals first
       | omega
       | trace_state
   · have hjt:out.take j=out:=List.take_of_length_le hjl
     rw [hjt]
     refine W_T ?_
     (repeat' (first|(simp (disch:=omega) only [push_cast,↓zz,seval,hP,hT])|(with_reducible first|refine And.intro ?_ ?_|(first|refine Ab ?_ ?_|refine Aa ?_ ?_)<;>intro hc<;>(try simp only [push_cast] at hc))|omega|with_reducible intro _))
     all_goals trace_state
theorem Mb (gs:List (List Span)) (out:List Term):0 ≤ Hc gs out∧Hc gs out ≤ 2000000:=by
 unfold Hc
 have h1:=E6 z4o gs
 have h2:=E6 z4p out
 split
 · omega
 · omega
def szR (r:Rule):Int:=Hc r.guards r.out
def szF (f:Hb):Int:=Hc f.guards f.out
def Nf (d:Desc):Bool:=decide (d.rules.length ≤ 80∧d.finals.length ≤ 80) && decide (sumT szR d.rules + sumT szF d.finals ≤ 1500)
theorem z1b (d:Desc):PC Tryz.prog 7 [B8 d] (.bool (Nf d)):=by
 have hPr:=Bu d.rules
 have hPf:=Bp d.finals
 have sR:∀ r,0 ≤ szR r∧szR r ≤ 2000000:=fun r=>Mb _ _
 have sF:∀ f,0 ≤ szF f∧szF f ≤ 2000000:=fun r=>Mb _ _
 refine A9 Uc ?_
 unfold Kc
 by_cases hb:d.rules.length ≤ 80∧d.finals.length ≤ 80
 · rw [Nf,decide_eq_true hb,Bool.true_and]
   (repeat' (first|(simp (disch:=omega) only [push_cast,↓zz,seval])|(with_reducible first|refine And.intro ?_ ?_|(first|refine Ab ?_ ?_|refine Aa ?_ ?_)<;>intro hc<;>(try simp only [push_cast] at hc))|omega|with_reducible intro _))
   refine Ao (Aq (fun (k:Nat)=>k ≤ d.rules.length) (fun k=>d.rules.length - k)
     (fun k=>[(1,.ptr 0 1 0 0),(3,.int .i64 (sumT szR (d.rules.take k))),(4,.int .i64 k)]) (fun k=>[⟨6,1,true,[B8 d]⟩]) (fun env _=>[Ay 1 (env 1)]) 0 (by simp) ?_ ?_)
   · have e0:sumT szR ([]:List Rule)=0:=rfl
     (repeat' (first|(simp (disch:=omega) only [push_cast,↓zz,seval,hPr,hPf,e0])|(with_reducible first|refine And.intro ?_ ?_|(first|refine Ab ?_ ?_|refine Aa ?_ ?_)<;>intro hc<;>(try simp only [push_cast] at hc))|omega|with_reducible intro _))
   intro k hk
   have hb1:=E6 sR (d.rules.take k)
   have hb2:((d.rules.take k).length:Int) * 2000000 ≤ 80 * 2000000:=Int.mul_le_mul_of_nonneg_right (by simp;omega) (by omega)
   rcases Nat.lt_or_ge k d.rules.length with hkl|hkl
   · have hst:=Vz (f:=szR) hkl
     have hx:=sR (nth d.rules k)
     have hS:=Td (nth d.rules k).guards (nth d.rules k).out
     have hsz:Hc (nth d.rules k).guards (nth d.rules k).out=szR (nth d.rules k):=rfl
     rw [hsz] at hS
     generalize hge:nth d.rules k=r at *
     generalize sumT szR (d.rules.take k)=n at *
     have hw:IntKind.i64.wrap (n + szR r)=n + szR r:=IntWalk.i64_in _ (by omega)
     have hpg:=Ag r.guards
     have hpt:=Bh r.out
     refine W_T ?_
     (repeat' (first|(simp (disch:=omega) only [push_cast,↓zz,seval,hPr,hPf,hge,hw,hpg,hpt])|(with_reducible first|refine And.intro ?_ ?_|(first|refine Ab ?_ ?_|refine Aa ?_ ?_)<;>intro hc<;>(try simp only [push_cast] at hc)|refine eK hS ?_|refine eQ hS ?_|refine eG hS ?_)|((with_reducible first|refine cK hS ?_|refine cQ hS ?_|refine cG hS ?_);(simp (disch:=omega) only [push_cast,↓zz,seval,hPr,hPf,hge,hw,hpg,hpt]);(fail_if_success with_reducible change False))|omega|with_reducible intro _))
     all_goals
       refine ⟨k + 1,?_⟩
       (repeat' (first|(simp (disch:=omega) only [push_cast,↓zz,seval,hst])|(with_reducible first|refine And.intro ?_ ?_|(first|refine Ab ?_ ?_|refine Aa ?_ ?_)<;>intro hc<;>(try simp only [push_cast] at hc))|omega|with_reducible intro _))
   · have hkt:d.rules.take k=d.rules:=List.take_of_length_le hkl
     rw [hkt] at hb1 hb2 ⊢
     generalize sumT szR d.rules=n at *
     refine W_T ?_
     (repeat' (first|(simp (disch:=omega) only [push_cast,↓zz,seval,hPr,hPf])|(with_reducible first|refine And.intro ?_ ?_|(first|refine Ab ?_ ?_|refine Aa ?_ ?_)<;>intro hc<;>(try simp only [push_cast] at hc))|omega|with_reducible intro _))
     refine Ao (Aq (fun (k:Nat)=>k ≤ d.finals.length) (fun k=>d.finals.length - k)
       (fun k=>[(1,.ptr 0 1 0 0),(3,.int .i64 (n + sumT szF (d.finals.take k))),(5,.int .i64 k)]) (fun k=>[⟨6,1,true,[B8 d]⟩]) (fun env _=>[Ay 1 (env 1)]) 0 (by simp) ?_ ?_)
     · have e0:sumT szF ([]:List Hb)=0:=rfl
       (repeat' (first|(simp (disch:=omega) only [push_cast,↓zz,seval,hPr,hPf,e0,Int.add_zero])|(with_reducible first|refine And.intro ?_ ?_|(first|refine Ab ?_ ?_|refine Aa ?_ ?_)<;>intro hc<;>(try simp only [push_cast] at hc))|omega|with_reducible intro _))
     intro j hj
     have hb3:=E6 sF (d.finals.take j)
     have hb4:((d.finals.take j).length:Int) * 2000000 ≤ 80 * 2000000:=Int.mul_le_mul_of_nonneg_right (by simp;omega) (by omega)
     rcases Nat.lt_or_ge j d.finals.length with hjl|hjl
     · have hst:=Vz (f:=szF) hjl
       have hx:=sF (nth d.finals j)
       have hS:=Td (nth d.finals j).guards (nth d.finals j).out
       have hsz:Hc (nth d.finals j).guards (nth d.finals j).out=szF (nth d.finals j):=rfl
       rw [hsz] at hS
       generalize hge:nth d.finals j=f at *
       generalize sumT szF (d.finals.take j)=m at *
       have hw:IntKind.i64.wrap (n + m + szF f)=n + m + szF f:=IntWalk.i64_in _ (by omega)
       have hpg:=Ag f.guards
       have hpt:=Bh f.out
       refine W_T ?_
       (repeat' (first|(simp (disch:=omega) only [push_cast,↓zz,seval,hPr,hPf,hge,hw,hpg,hpt])|(with_reducible first|refine And.intro ?_ ?_|(first|refine Ab ?_ ?_|refine Aa ?_ ?_)<;>intro hc<;>(try simp only [push_cast] at hc)|refine eK hS ?_|refine eQ hS ?_|refine eG hS ?_)|((with_reducible first|refine cK hS ?_|refine cQ hS ?_|refine cG hS ?_);(simp (disch:=omega) only [push_cast,↓zz,seval,hPr,hPf,hge,hw,hpg,hpt]);(fail_if_success with_reducible change False))|omega|with_reducible intro _))
       all_goals
         refine ⟨j + 1,?_⟩
         (repeat' (first|(simp (disch:=omega) only [push_cast,↓zz,seval,hst])|(with_reducible first|refine And.intro ?_ ?_|(first|refine Ab ?_ ?_|refine Aa ?_ ?_)<;>intro hc<;>(try simp only [push_cast] at hc))|omega|with_reducible intro _))
       all_goals first
         | omega
         | trace_state
     · have hjt:d.finals.take j=d.finals:=List.take_of_length_le hjl
       rw [hjt]
       refine W_T ?_
       (repeat' (first|(simp (disch:=omega) only [push_cast,↓zz,seval,hPr,hPf])|(with_reducible first|refine And.intro ?_ ?_|(first|refine Ab ?_ ?_|refine Aa ?_ ?_)<;>intro hc<;>(try simp only [push_cast] at hc))|omega|with_reducible intro _))
 · rw [Nf,decide_eq_false hb,Bool.false_and]
   (repeat' (first|(simp (disch:=omega) only [push_cast,↓zz,seval])|(with_reducible first|refine And.intro ?_ ?_|(first|refine Ab ?_ ?_|refine Aa ?_ ?_)<;>intro hc<;>(try simp only [push_cast] at hc))|omega|with_reducible intro _))
   all_goals trace_state
theorem Te {gs:List (List Span)} {out:List Term} (h:Hc gs out ≤ 1500):∀ t ∈ out,t.parts.length < 4000:=by
 unfold Hc at h
 split at h
 · omega
 · intro t ht
   have h1:=Iy (fun t=>(z4p t).1) ht
   have h2:=(E6 z4o gs).1
   have h3:szT t=1 + min (t.parts.length:Int) 4000:=rfl
   omega
theorem zct {d:Desc} (h:Nf d=true):F9 d:=by
 simp only [Nf,Bool.and_eq_true,decide_eq_true_eq] at h
 have sR:∀ r,0 ≤ szR r∧szR r ≤ 2000000:=fun r=>Mb _ _
 have sF:∀ f,0 ≤ szF f∧szF f ≤ 2000000:=fun r=>Mb _ _
 have a1:=(E6 sR d.rules).1
 have a2:=(E6 sF d.finals).1
 refine ⟨fun r hr t ht=>?_,fun f hf t ht=>?_⟩
 · have h1:=Iy (fun r=>(sR r).1) hr
   have h2:szR r=Hc r.guards r.out:=rfl
   have:=Te (gs:=r.guards) (out:=r.out) (by omega) t ht
   omega
 · have h1:=Iy (fun r=>(sF r).1) hf
   have h2:szF f=Hc f.guards f.out:=rfl
   have:=Te (gs:=f.guards) (out:=f.out) (by omega) t ht
   omega
theorem zmd {s:Int}:0 < ((domL s).length:Int) ↔ (s=1 ∨ s=2):=by
 unfold domL
 split
 · simp [*]
 · split
   · simp [*]
   · simp [*]
theorem zh1 {d:Desc}:P7 d=true ↔ (d.in_=1 ∨ d.in_=2)∧(d.out=1 ∨ d.out=2)∧(1 ≤ d.states∧d.states ≤ 1024)∧(0 ≤ d.start∧d.start < d.states)∧d.rules.length ≤ 4096∧d.finals.length ≤ 4096:=by
 simp only [P7,G9,Bool.and_eq_true,decide_eq_true_eq,zmd]
 omega
def Qq (d:Desc) (r:Rule):Prop:=(0 ≤ r.from_∧r.from_ < d.states)∧(0 ≤ r.to_∧r.to_ < d.states)∧((r.guards.length:Int)=0∧r.eat=0 ∨ 1 ≤ r.eat∧r.eat ≤ r.guards.length)
theorem zh2 {d:Desc} {r:Rule}:Er d r=true ↔ Qq d r∧Cz d.in_ r.guards=true∧Dl d r.out r.guards=true:=by
 simp only [Er,G9,eatB,Qq,Bool.and_eq_true,Bool.not_eq_true',decide_eq_true_eq,decide_eq_false_iff_not]
 constructor
 · rintro ⟨h1,h2,h3,h4,h5⟩
   exact ⟨⟨h1,h2,by omega⟩,h3,h5⟩
 · rintro ⟨⟨h1,h2,h4⟩,h3,h5⟩
   exact ⟨h1,h2,h3,by omega,h5⟩
theorem zcu {d:Desc} {f:Hb}:Dc d f=true ↔ (0 ≤ f.from_∧f.from_ < d.states)∧Cz d.in_ f.guards=true∧Dl d f.out f.guards=true:=by
 simp only [Dc,G9,Bool.and_eq_true,decide_eq_true_eq]
structure Qr (d:Desc):Prop where
 fin:F9 d
 rg:∀ r ∈ d.rules,r.guards.length ≤ 9223372036854775807
 fg:∀ f ∈ d.finals,f.guards.length ≤ 9223372036854775807
structure Hold (p:Prop):Prop where
 get:p
theorem share {P Q:Prop} (main:Hold P→Q) (k:Hold P):Q:=main k
set_option maxHeartbeats 4000000 in
set_option maxRecDepth 8000 in
theorem z1c (d:Desc) (hs:Qr d):PC Tryz.prog 29 [B8 d] (.tup [.int .i64 (Ed d).1,.int .i64 (Ed d).2]):=by
 have hPr:=Bu d.rules
 have hPf:=Bp d.finals
 have hhi:=@zh1 d
 refine A9 Ug ?_
 unfold Kh
 cases hh:P7 d with
 | false =>
   rw [Ed,if_pos hh]
   have hno:¬ ((d.in_=1 ∨ d.in_=2)∧(d.out=1 ∨ d.out=2)∧(1 ≤ d.states∧d.states ≤ 1024)∧(0 ≤ d.start∧d.start < d.states)∧d.rules.length ≤ 4096∧d.finals.length ≤ 4096):=fun h=>by rw [hhi.2 h] at hh;cases hh
   clear hhi
   (repeat' (first|(simp (disch:=omega) only [push_cast,↓zz,seval])|(with_reducible first|refine And.intro ?_ ?_|(first|refine Ab ?_ ?_|refine Aa ?_ ?_)<;>intro hc<;>(try simp only [push_cast] at hc))|omega|with_reducible intro _))
   all_goals first
     | (exfalso;omega)
     | ((repeat' (first|(simp (disch:=omega) only [push_cast,↓zz,seval,Bm])|omega|(with_reducible refine And.intro ?_ ?_)));done)
     | trace_state
 | true =>
 obtain ⟨i1,i2,i3,i4,i5,i6⟩:=hhi.1 hh
 clear hhi
 have hW:Ed d=match Eu (Er d) d.rules 0 with
   | some i=>(2,(i:Int))
   | none=>match Eu (Dc d) d.finals 0 with
     | some i=>(3,(i:Int))
     | none=>if (@decide (cycP d.rules d.states.toNat) (Classical.propDecidable _))=true then (4,0) else (0,0):=by
   rw [Ed,if_neg (by simp [hh])]
   cases Eu (Er d) d.rules 0 with
   | some i=>rfl
   | none =>
     cases Eu (Dc d) d.finals 0 with
     | some i=>rfl
     | none =>
       by_cases hc:cycP d.rules d.states.toNat
       · simp only [if_pos hc,@decide_eq_true _ (Classical.propDecidable _) hc,if_true]
       · simp only [if_neg hc,@decide_eq_false _ (Classical.propDecidable _) hc,Bool.false_eq_true,if_false]
 apply share
 · intro key
   (repeat' (first|(simp (disch:=omega) only [push_cast,↓zz,seval])|(with_reducible first|refine And.intro ?_ ?_|(first|refine Ab ?_ ?_|refine Aa ?_ ?_)<;>intro hc<;>(try simp only [push_cast] at hc))|omega|with_reducible intro _))
   all_goals first
     | (exfalso;omega)
     | skip
   all_goals
     refine Ao (Aq (fun (k:Nat)=>k ≤ d.rules.length∧Eu (Er d) d.rules 0=Eu (Er d) (d.rules.drop k) k) (fun k=>d.rules.length - k)
       (fun k=>[(1,.ptr 0 1 0 0),(4,.int .i64 k)]) (fun k=>[⟨6,1,true,[B8 d]⟩]) (fun env _=>[Ay 1 (env 1)]) 0 ⟨by simp,rfl⟩ ?_ ?_)
     · (repeat' (first|(simp (disch:=omega) only [push_cast,↓zz,seval,hPr,hPf])|(with_reducible first|refine And.intro ?_ ?_|(first|refine Ab ?_ ?_|refine Aa ?_ ?_)<;>intro hc<;>(try simp only [push_cast] at hc))|omega|with_reducible intro _))
     exact key.get
 refine ⟨?_⟩
 rintro k ⟨k1,k2⟩
 rcases Nat.lt_or_ge k d.rules.length with hk|hk
 · have hrm:=Aw hk
   have hrf:=hs.fin.1 _ hrm
   have hrg:=hs.rg _ hrm
   rw [Ns hk] at k2
   have hiff:=@zh2 d (nth d.rules k)
   have hG:=Nc d.in_ (nth d.rules k).guards hrg
   generalize hre:nth d.rules k=r at *
   have hpg:=Ag r.guards
   have hpt:=Bh r.out
   have hbad:¬ Qq d r→Ed d=(2,(k:Int)):=fun hA=>by
     have hb:Er d r=false:=by
       cases h:Er d r with
       | false=>rfl
       | true=>exact absurd (hiff.1 h).1 hA
     rw [hb] at k2
     simp only [Bool.false_eq_true,if_false] at k2
     rw [hW,k2]
   refine W_T ?_
   by_cases f1:r.from_ < 0
   · rw [hbad fun hA=>by unfold Qq at hA;omega]
     have g1:=eq_true f1
     clear hiff hbad hW
     (repeat' (first|(simp (disch:=omega) only [push_cast,↓zz,seval,hPr,hPf,hre,hpg,hpt,g1])|(with_reducible first|refine And.intro ?_ ?_|(first|refine Ab ?_ ?_|refine Aa ?_ ?_)<;>intro hc<;>(try simp only [push_cast] at hc))|omega|with_reducible intro _))
   by_cases f2:d.states ≤ r.from_
   · rw [hbad fun hA=>by unfold Qq at hA;omega]
     have g1:=eq_false f1
     have g2:=eq_true f2
     clear hiff hbad hW
     (repeat' (first|(simp (disch:=omega) only [push_cast,↓zz,seval,hPr,hPf,hre,hpg,hpt,g1,g2])|(with_reducible first|refine And.intro ?_ ?_|(first|refine Ab ?_ ?_|refine Aa ?_ ?_)<;>intro hc<;>(try simp only [push_cast] at hc))|omega|with_reducible intro _))
   by_cases f3:r.to_ < 0
   · rw [hbad fun hA=>by unfold Qq at hA;omega]
     have g1:=eq_false f1
     have g2:=eq_false f2
     have g3:=eq_true f3
     clear hiff hbad hW
     (repeat' (first|(simp (disch:=omega) only [push_cast,↓zz,seval,hPr,hPf,hre,hpg,hpt,g1,g2,g3])|(with_reducible first|refine And.intro ?_ ?_|(first|refine Ab ?_ ?_|refine Aa ?_ ?_)<;>intro hc<;>(try simp only [push_cast] at hc))|omega|with_reducible intro _))
   by_cases f4:d.states ≤ r.to_
   · rw [hbad fun hA=>by unfold Qq at hA;omega]
     have g1:=eq_false f1
     have g2:=eq_false f2
     have g3:=eq_false f3
     have g4:=eq_true f4
     clear hiff hbad hW
     (repeat' (first|(simp (disch:=omega) only [push_cast,↓zz,seval,hPr,hPf,hre,hpg,hpt,g1,g2,g3,g4])|(with_reducible first|refine And.intro ?_ ?_|(first|refine Ab ?_ ?_|refine Aa ?_ ?_)<;>intro hc<;>(try simp only [push_cast] at hc))|omega|with_reducible intro _))
   have g1:=eq_false f1
   have g2:=eq_false f2
   have g3:=eq_false f3
   have g4:=eq_false f4
   have hE:(((r.guards.length:Int)=0)=True∧(r.eat=0)=True∧(1 ≤ r.eat)=False) ∨ (((r.guards.length:Int)=0)=False∧(1 ≤ r.eat)=True∧(r.eat ≤ (r.guards.length:Int))=True) ∨
       ¬ Qq d r∧(((r.guards.length:Int)=0)=True∧(r.eat=0)=False∧(1 ≤ r.eat)=False ∨ ((r.guards.length:Int)=0)=True∧(r.eat=0)=False∧(1 ≤ r.eat)=True∧(r.eat ≤ (r.guards.length:Int))=False ∨
         ((r.guards.length:Int)=0)=False∧(1 ≤ r.eat)=False ∨ ((r.guards.length:Int)=0)=False∧(1 ≤ r.eat)=True∧(r.eat ≤ (r.guards.length:Int))=False):=by
     simp only [eq_iff_iff,iff_true,iff_false,Qq]
     omega
   have hgood:((((r.guards.length:Int)=0)=True∧(r.eat=0)=True∧(1 ≤ r.eat)=False) ∨ (((r.guards.length:Int)=0)=False∧(1 ≤ r.eat)=True∧(r.eat ≤ (r.guards.length:Int))=True))→Qq d r:=by
     simp only [eq_iff_iff,iff_true,iff_false,Qq]
     omega
   rcases hE with hE|hE|⟨hA,hE⟩
   · have hA:=hgood (.inl hE)
     obtain ⟨e1,e2,e3⟩:=hE
     clear hbad hgood
     cases hg:Cz d.in_ r.guards with
     | false =>
       rw [hg] at hG
       have hb:Er d r=false:=by
         cases h:Er d r with
         | false=>rfl
         | true=>have:=(hiff.1 h).2.1;rw [hg] at this;cases this
       rw [hb] at k2
       simp only [Bool.false_eq_true,if_false] at k2
       rw [hW,k2]
       clear hiff hW hA
       (repeat' (first|(simp (disch:=omega) only [push_cast,↓zz,seval,hPr,hPf,hre,hpg,hpt,g1,g2,g3,g4,e1,e2,e3])|(with_reducible first|refine And.intro ?_ ?_|(first|refine Ab ?_ ?_|refine Aa ?_ ?_)<;>intro hc<;>(try simp only [push_cast] at hc)|refine eK hG ?_|refine eQ hG ?_|refine eG hG ?_)|((with_reducible first|refine cK hG ?_|refine cQ hG ?_|refine cG hG ?_);(simp (disch:=omega) only [push_cast,↓zz,seval,hPr,hPf,hre,hpg,hpt,g1,g2,g3,g4,e1,e2,e3]);(fail_if_success with_reducible change False))|omega|with_reducible intro _))
     | true =>
       rw [hg] at hG
       have hWr:=H5 d r.out r.guards hrf (Qp hg)
       have hb:Er d r=Dl d r.out r.guards:=by
         rw [Bool.eq_iff_iff,hiff]
         exact ⟨fun h=>h.2.2,fun h=>⟨hA,hg,h⟩⟩
       rw [hb] at k2
       cases hw:Dl d r.out r.guards with
       | false =>
         rw [hw] at hWr k2
         simp only [Bool.false_eq_true,if_false] at k2
         rw [hW,k2]
         clear hiff hW hA
         (repeat' (first|(simp (disch:=omega) only [push_cast,↓zz,seval,hPr,hPf,hre,hpg,hpt,g1,g2,g3,g4,e1,e2,e3])|(with_reducible first|refine And.intro ?_ ?_|(first|refine Ab ?_ ?_|refine Aa ?_ ?_)<;>intro hc<;>(try simp only [push_cast] at hc)|refine eK hG ?_|refine eQ hG ?_|refine eG hG ?_|refine eK hWr ?_|refine eQ hWr ?_|refine eG hWr ?_)|((with_reducible first|refine cK hG ?_|refine cQ hG ?_|refine cG hG ?_);(simp (disch:=omega) only [push_cast,↓zz,seval,hPr,hPf,hre,hpg,hpt,g1,g2,g3,g4,e1,e2,e3]);(fail_if_success with_reducible change False))|((with_reducible first|refine cK hWr ?_|refine cQ hWr ?_|refine cG hWr ?_);(simp (disch:=omega) only [push_cast,↓zz,seval,hPr,hPf,hre,hpg,hpt,g1,g2,g3,g4,e1,e2,e3]);(fail_if_success with_reducible change False))|omega|with_reducible intro _))
       | true =>
         rw [hw] at hWr k2
         simp only [if_true] at k2
         clear hiff hA
         (repeat' (first|(simp (disch:=omega) only [push_cast,↓zz,seval,hPr,hPf,hre,hpg,hpt,g1,g2,g3,g4,e1,e2,e3])|(with_reducible first|refine And.intro ?_ ?_|(first|refine Ab ?_ ?_|refine Aa ?_ ?_)<;>intro hc<;>(try simp only [push_cast] at hc)|refine eK hG ?_|refine eQ hG ?_|refine eG hG ?_|refine eK hWr ?_|refine eQ hWr ?_|refine eG hWr ?_)|((with_reducible first|refine cK hG ?_|refine cQ hG ?_|refine cG hG ?_);(simp (disch:=omega) only [push_cast,↓zz,seval,hPr,hPf,hre,hpg,hpt,g1,g2,g3,g4,e1,e2,e3]);(fail_if_success with_reducible change False))|((with_reducible first|refine cK hWr ?_|refine cQ hWr ?_|refine cG hWr ?_);(simp (disch:=omega) only [push_cast,↓zz,seval,hPr,hPf,hre,hpg,hpt,g1,g2,g3,g4,e1,e2,e3]);(fail_if_success with_reducible change False))|omega|with_reducible intro _))
         all_goals first
           | exact ⟨k + 1,by push_cast,⟨by omega,k2⟩,by omega⟩
           | trace_state
   · have hA:=hgood (.inr hE)
     obtain ⟨e1,e2,e3⟩:=hE
     clear hbad hgood
     cases hg:Cz d.in_ r.guards with
     | false =>
       rw [hg] at hG
       have hb:Er d r=false:=by
         cases h:Er d r with
         | false=>rfl
         | true=>have:=(hiff.1 h).2.1;rw [hg] at this;cases this
       rw [hb] at k2
       simp only [Bool.false_eq_true,if_false] at k2
       rw [hW,k2]
       clear hiff hW hA
       (repeat' (first|(simp (disch:=omega) only [push_cast,↓zz,seval,hPr,hPf,hre,hpg,hpt,g1,g2,g3,g4,e1,e2,e3])|(with_reducible first|refine And.intro ?_ ?_|(first|refine Ab ?_ ?_|refine Aa ?_ ?_)<;>intro hc<;>(try simp only [push_cast] at hc)|refine eK hG ?_|refine eQ hG ?_|refine eG hG ?_)|((with_reducible first|refine cK hG ?_|refine cQ hG ?_|refine cG hG ?_);(simp (disch:=omega) only [push_cast,↓zz,seval,hPr,hPf,hre,hpg,hpt,g1,g2,g3,g4,e1,e2,e3]);(fail_if_success with_reducible change False))|omega|with_reducible intro _))
     | true =>
       rw [hg] at hG
       have hWr:=H5 d r.out r.guards hrf (Qp hg)
       have hb:Er d r=Dl d r.out r.guards:=by
         rw [Bool.eq_iff_iff,hiff]
         exact ⟨fun h=>h.2.2,fun h=>⟨hA,hg,h⟩⟩
       rw [hb] at k2
       cases hw:Dl d r.out r.guards with
       | false =>
         rw [hw] at hWr k2
         simp only [Bool.false_eq_true,if_false] at k2
         rw [hW,k2]
         clear hiff hW hA
         (repeat' (first|(simp (disch:=omega) only [push_cast,↓zz,seval,hPr,hPf,hre,hpg,hpt,g1,g2,g3,g4,e1,e2,e3])|(with_reducible first|refine And.intro ?_ ?_|(first|refine Ab ?_ ?_|refine Aa ?_ ?_)<;>intro hc<;>(try simp only [push_cast] at hc)|refine eK hG ?_|refine eQ hG ?_|refine eG hG ?_|refine eK hWr ?_|refine eQ hWr ?_|refine eG hWr ?_)|((with_reducible first|refine cK hG ?_|refine cQ hG ?_|refine cG hG ?_);(simp (disch:=omega) only [push_cast,↓zz,seval,hPr,hPf,hre,hpg,hpt,g1,g2,g3,g4,e1,e2,e3]);(fail_if_success with_reducible change False))|((with_reducible first|refine cK hWr ?_|refine cQ hWr ?_|refine cG hWr ?_);(simp (disch:=omega) only [push_cast,↓zz,seval,hPr,hPf,hre,hpg,hpt,g1,g2,g3,g4,e1,e2,e3]);(fail_if_success with_reducible change False))|omega|with_reducible intro _))
       | true =>
         rw [hw] at hWr k2
         simp only [if_true] at k2
         clear hiff hA
         (repeat' (first|(simp (disch:=omega) only [push_cast,↓zz,seval,hPr,hPf,hre,hpg,hpt,g1,g2,g3,g4,e1,e2,e3])|(with_reducible first|refine And.intro ?_ ?_|(first|refine Ab ?_ ?_|refine Aa ?_ ?_)<;>intro hc<;>(try simp only [push_cast] at hc)|refine eK hG ?_|refine eQ hG ?_|refine eG hG ?_|refine eK hWr ?_|refine eQ hWr ?_|refine eG hWr ?_)|((with_reducible first|refine cK hG ?_|refine cQ hG ?_|refine cG hG ?_);(simp (disch:=omega) only [push_cast,↓zz,seval,hPr,hPf,hre,hpg,hpt,g1,g2,g3,g4,e1,e2,e3]);(fail_if_success with_reducible change False))|((with_reducible first|refine cK hWr ?_|refine cQ hWr ?_|refine cG hWr ?_);(simp (disch:=omega) only [push_cast,↓zz,seval,hPr,hPf,hre,hpg,hpt,g1,g2,g3,g4,e1,e2,e3]);(fail_if_success with_reducible change False))|omega|with_reducible intro _))
         all_goals first
           | exact ⟨k + 1,by push_cast,⟨by omega,k2⟩,by omega⟩
           | trace_state
   · rw [hbad hA]
     clear hiff hW hA hbad hgood
     rcases hE with ⟨e1,e2,e3⟩|⟨e1,e2,e3,e4⟩|⟨e1,e2⟩|⟨e1,e2,e3⟩
     · (repeat' (first|(simp (disch:=omega) only [push_cast,↓zz,seval,hPr,hPf,hre,hpg,hpt,g1,g2,g3,g4,e1,e2,e3])|(with_reducible first|refine And.intro ?_ ?_|(first|refine Ab ?_ ?_|refine Aa ?_ ?_)<;>intro hc<;>(try simp only [push_cast] at hc))|omega|with_reducible intro _))
     · (repeat' (first|(simp (disch:=omega) only [push_cast,↓zz,seval,hPr,hPf,hre,hpg,hpt,g1,g2,g3,g4,e1,e2,e3,e4])|(with_reducible first|refine And.intro ?_ ?_|(first|refine Ab ?_ ?_|refine Aa ?_ ?_)<;>intro hc<;>(try simp only [push_cast] at hc))|omega|with_reducible intro _))
     · (repeat' (first|(simp (disch:=omega) only [push_cast,↓zz,seval,hPr,hPf,hre,hpg,hpt,g1,g2,g3,g4,e1,e2])|(with_reducible first|refine And.intro ?_ ?_|(first|refine Ab ?_ ?_|refine Aa ?_ ?_)<;>intro hc<;>(try simp only [push_cast] at hc))|omega|with_reducible intro _))
     · (repeat' (first|(simp (disch:=omega) only [push_cast,↓zz,seval,hPr,hPf,hre,hpg,hpt,g1,g2,g3,g4,e1,e2,e3])|(with_reducible first|refine And.intro ?_ ?_|(first|refine Ab ?_ ?_|refine Aa ?_ ?_)<;>intro hc<;>(try simp only [push_cast] at hc))|omega|with_reducible intro _))
 · rw [List.drop_of_length_le hk,Eu] at k2
   have hall:=Gn k2
   have hC:=z0v d ⟨i3,i5,fun r hr=>Vp (hall r hr)⟩
   have hcs:=zfk (l:=d.rules) (n:=d.states.toNat) fun r hr=>by
     have:=Vp (hall r hr)
     omega
   rw [k2] at hW
   simp only at hW
   refine W_T ?_
   (repeat' (first|(simp (disch:=omega) only [push_cast,↓zz,seval,hPr,hPf])|(with_reducible first|refine And.intro ?_ ?_|(first|refine Ab ?_ ?_|refine Aa ?_ ?_)<;>intro hc<;>(try simp only [push_cast] at hc))|omega|with_reducible intro _))
   refine Ao (Aq (fun (k:Nat)=>k ≤ d.finals.length∧Eu (Dc d) d.finals 0=Eu (Dc d) (d.finals.drop k) k) (fun k=>d.finals.length - k)
     (fun k=>[(1,.ptr 0 1 0 0),(8,.int .i64 k)]) (fun k=>[⟨6,1,true,[B8 d]⟩]) (fun env _=>[Ay 1 (env 1)]) 0 ⟨by simp,rfl⟩ ?_ ?_)
   · (repeat' (first|(simp (disch:=omega) only [push_cast,↓zz,seval,hPr,hPf])|(with_reducible first|refine And.intro ?_ ?_|(first|refine Ab ?_ ?_|refine Aa ?_ ?_)<;>intro hc<;>(try simp only [push_cast] at hc))|omega|with_reducible intro _))
   rintro j ⟨j1,j2⟩
   rcases Nat.lt_or_ge j d.finals.length with hj|hj
   · have hfm:=Aw hj
     have hff:=hs.fin.2 _ hfm
     have hfg:=hs.fg _ hfm
     rw [Ns hj] at j2
     have hiff:=@zcu d (nth d.finals j)
     have hG:=Nc d.in_ (nth d.finals j).guards hfg
     generalize hfe:nth d.finals j=f at *
     have hpg:=Ag f.guards
     have hpt:=Bh f.out
     have hbad:Dc d f=false→Ed d=(3,(j:Int)):=fun hb=>by
       rw [hb] at j2
       simp only [Bool.false_eq_true,if_false] at j2
       rw [hW,j2]
     have hno:¬ (0 ≤ f.from_∧f.from_ < d.states)→Dc d f=false:=fun hA=>by
       cases h:Dc d f with
       | false=>rfl
       | true=>exact absurd (hiff.1 h).1 hA
     refine W_T ?_
     by_cases f1:f.from_ < 0
     · rw [hbad (hno (by omega))]
       have g1:=eq_true f1
       clear hiff hbad hW hno
       (repeat' (first|(simp (disch:=omega) only [push_cast,↓zz,seval,hPr,hPf,hfe,hpg,hpt,g1])|(with_reducible first|refine And.intro ?_ ?_|(first|refine Ab ?_ ?_|refine Aa ?_ ?_)<;>intro hc<;>(try simp only [push_cast] at hc))|omega|with_reducible intro _))
     by_cases f2:d.states ≤ f.from_
     · rw [hbad (hno (by omega))]
       have g1:=eq_false f1
       have g2:=eq_true f2
       clear hiff hbad hW hno
       (repeat' (first|(simp (disch:=omega) only [push_cast,↓zz,seval,hPr,hPf,hfe,hpg,hpt,g1,g2])|(with_reducible first|refine And.intro ?_ ?_|(first|refine Ab ?_ ?_|refine Aa ?_ ?_)<;>intro hc<;>(try simp only [push_cast] at hc))|omega|with_reducible intro _))
     have g1:=eq_false f1
     have g2:=eq_false f2
     cases hg:Cz d.in_ f.guards with
     | false =>
       rw [hg] at hG
       have hb:Dc d f=false:=by
         cases h:Dc d f with
         | false=>rfl
         | true=>have:=(hiff.1 h).2.1;rw [hg] at this;cases this
       rw [hbad hb]
       clear hiff hbad hW hno
       (repeat' (first|(simp (disch:=omega) only [push_cast,↓zz,seval,hPr,hPf,hfe,hpg,hpt,g1,g2])|(with_reducible first|refine And.intro ?_ ?_|(first|refine Ab ?_ ?_|refine Aa ?_ ?_)<;>intro hc<;>(try simp only [push_cast] at hc)|refine eK hG ?_|refine eQ hG ?_|refine eG hG ?_)|((with_reducible first|refine cK hG ?_|refine cQ hG ?_|refine cG hG ?_);(simp (disch:=omega) only [push_cast,↓zz,seval,hPr,hPf,hfe,hpg,hpt,g1,g2]);(fail_if_success with_reducible change False))|omega|with_reducible intro _))
     | true =>
       rw [hg] at hG
       have hWr:=H5 d f.out f.guards hff (Qp hg)
       have hb:Dc d f=Dl d f.out f.guards:=by
         rw [Bool.eq_iff_iff,hiff]
         exact ⟨fun h=>h.2.2,fun h=>⟨by omega,hg,h⟩⟩
       rw [hb] at j2 hbad
       cases hw:Dl d f.out f.guards with
       | false =>
         rw [hw] at hWr
         rw [hbad hw]
         clear hiff hbad hW hno
         (repeat' (first|(simp (disch:=omega) only [push_cast,↓zz,seval,hPr,hPf,hfe,hpg,hpt,g1,g2])|(with_reducible first|refine And.intro ?_ ?_|(first|refine Ab ?_ ?_|refine Aa ?_ ?_)<;>intro hc<;>(try simp only [push_cast] at hc)|refine eK hG ?_|refine eQ hG ?_|refine eG hG ?_|refine eK hWr ?_|refine eQ hWr ?_|refine eG hWr ?_)|((with_reducible first|refine cK hG ?_|refine cQ hG ?_|refine cG hG ?_);(simp (disch:=omega) only [push_cast,↓zz,seval,hPr,hPf,hfe,hpg,hpt,g1,g2]);(fail_if_success with_reducible change False))|((with_reducible first|refine cK hWr ?_|refine cQ hWr ?_|refine cG hWr ?_);(simp (disch:=omega) only [push_cast,↓zz,seval,hPr,hPf,hfe,hpg,hpt,g1,g2]);(fail_if_success with_reducible change False))|omega|with_reducible intro _))
       | true =>
         rw [hw] at hWr j2
         simp only [if_true] at j2
         clear hiff hbad hno
         (repeat' (first|(simp (disch:=omega) only [push_cast,↓zz,seval,hPr,hPf,hfe,hpg,hpt,g1,g2])|(with_reducible first|refine And.intro ?_ ?_|(first|refine Ab ?_ ?_|refine Aa ?_ ?_)<;>intro hc<;>(try simp only [push_cast] at hc)|refine eK hG ?_|refine eQ hG ?_|refine eG hG ?_|refine eK hWr ?_|refine eQ hWr ?_|refine eG hWr ?_)|((with_reducible first|refine cK hG ?_|refine cQ hG ?_|refine cG hG ?_);(simp (disch:=omega) only [push_cast,↓zz,seval,hPr,hPf,hfe,hpg,hpt,g1,g2]);(fail_if_success with_reducible change False))|((with_reducible first|refine cK hWr ?_|refine cQ hWr ?_|refine cG hWr ?_);(simp (disch:=omega) only [push_cast,↓zz,seval,hPr,hPf,hfe,hpg,hpt,g1,g2]);(fail_if_success with_reducible change False))|omega|with_reducible intro _))
         all_goals first
           | exact ⟨j + 1,by push_cast,⟨by omega,j2⟩,by omega⟩
           | trace_state
   · rw [List.drop_of_length_le hj,Eu] at j2
     rw [j2] at hW
     simp only at hW
     have hdc:@decide (cycP d.rules d.states.toNat) (Classical.propDecidable _)=cycR d.rules d.states.toNat:=by
       rw [Bool.eq_iff_iff,hcs]
       exact @decide_eq_true_iff _ (Classical.propDecidable _)
     rw [hdc] at hW
     clear hcs hdc
     generalize cycR d.rules d.states.toNat=c at *
     refine W_T ?_
     rw [hW]
     cases c
     · (repeat' (first|(simp (disch:=omega) only [push_cast,↓zz,seval,hPr,hPf])|(with_reducible first|refine And.intro ?_ ?_|(first|refine Ab ?_ ?_|refine Aa ?_ ?_)<;>intro hc<;>(try simp only [push_cast] at hc)|refine eK hC ?_|refine eQ hC ?_|refine eG hC ?_)|((with_reducible first|refine cK hC ?_|refine cQ hC ?_|refine cG hC ?_);(simp (disch:=omega) only [push_cast,↓zz,seval,hPr,hPf]);(fail_if_success with_reducible change False))|omega|with_reducible intro _))
     · (repeat' (first|(simp (disch:=omega) only [push_cast,↓zz,seval,hPr,hPf])|(with_reducible first|refine And.intro ?_ ?_|(first|refine Ab ?_ ?_|refine Aa ?_ ?_)<;>intro hc<;>(try simp only [push_cast] at hc)|refine eK hC ?_|refine eQ hC ?_|refine eG hC ?_)|((with_reducible first|refine cK hC ?_|refine cQ hC ?_|refine cG hC ?_);(simp (disch:=omega) only [push_cast,↓zz,seval,hPr,hPf]);(fail_if_success with_reducible change False))|omega|with_reducible intro _))
       all_goals trace_state
structure zi2 (gs:List (List Span)) (out:List Term):Prop where
 g:gs.length ≤ 1000000000000
 gl:∀ l ∈ gs,l.length ≤ 1000000000000
 o:out.length ≤ 1000000000000
 ol:∀ t ∈ out,t.parts.length ≤ 1000000000000
structure zpz (d:Desc):Prop where
 r:d.rules.length ≤ 1000000000000
 rs:∀ r ∈ d.rules,zi2 r.guards r.out
 f:d.finals.length ≤ 1000000000000
 fs:∀ f ∈ d.finals,zi2 f.guards f.out
end Go.Proofs.YticodgjinajkpaaGreat
namespace Go.Proofs.YticodgjinajkpaaGreat
open Abs
theorem Qs {gs:List (List Span)} {out:List Term} (h:Hc gs out ≤ 1500):gs.length ≤ 100:=by
 unfold Hc at h
 split at h
 · omega
 · omega
theorem z1d {d:Desc} (h:Nf d=true):Qr d:=by
 refine ⟨zct h,?_,?_⟩
 all_goals
   simp only [Nf,Bool.and_eq_true,decide_eq_true_eq] at h
   have sR:∀ r,0 ≤ szR r∧szR r ≤ 2000000:=fun r=>Mb _ _
   have sF:∀ f,0 ≤ szF f∧szF f ≤ 2000000:=fun r=>Mb _ _
   have a1:=(E6 sR d.rules).1
   have a2:=(E6 sF d.finals).1
 · intro r hr
   have h1:=Iy (fun r=>(sR r).1) hr
   have h2:szR r=Hc r.guards r.out:=rfl
   have:=Qs (gs:=r.guards) (out:=r.out) (by omega)
   omega
 · intro f hf
   have h1:=Iy (fun r=>(sF r).1) hf
   have h2:szF f=Hc f.guards f.out:=rfl
   have:=Qs (gs:=f.guards) (out:=f.out) (by omega)
   omega
theorem z1e (c:Desc) (hc:Qr c):PC Tryz.prog 10 [B8 c] (.bool (decide (D7 c=0))):=by
 have hW:=z1c c hc
 have e:decide (D7 c=0)=decide ((Ed c).1=0):=by
   unfold D7
   split
   · simp [*]
   · simp [*]
 rw [e]
 generalize Ed c=w at *
 refine A9 Ud ?_
 unfold Kd
 (repeat' (first|(simp (disch:=omega) only [push_cast,↓zz,seval])|(with_reducible first|refine And.intro ?_ ?_|(first|refine Ab ?_ ?_|refine Aa ?_ ?_)<;>intro hc<;>(try simp only [push_cast] at hc)|refine eK hW ?_|refine eQ hW ?_|refine eG hW ?_)|((with_reducible first|refine cK hW ?_|refine cQ hW ?_|refine cG hW ?_);(simp (disch:=omega) only [push_cast,↓zz,seval]);(fail_if_success with_reducible change False))|omega|with_reducible intro _))
 all_goals trace_state
section
variable {d:Desc}
end
structure Trimmed (c:Desc):Prop where
 check:D7 c=0
 again:zc6 c=c
 all:((Jd c).length=c.states.toNat∧(Q5 c).length=c.states.toNat) ∨ (c.states=1∧c.rules=[]∧c.finals=[])
theorem Y1 {u v:Nat→Bool}:∀ {n:Nat},(∀ i,i < n→u i=v i)→cntB u n=cntB v n
 | 0,_=>rfl
 | n + 1,h=>by rw [Hz,Hz,h n (by omega),Y1 fun i hi=>h i (by omega)]
theorem z4q {on:Nat→Bool} {s:Nat} (ho:on s=false):∀ {n:Nat},s < n→cntB (setB on s) n=cntB on n + 1
 | n + 1,h=>by
   rw [Hz,Hz]
   by_cases hs:s=n
   · subst hs
     rw [if_pos (by simp [setB]),if_neg (by simp [ho]),Y1 (u:=setB on s) (v:=on) fun i hi=>by simp [setB];omega]
   · have:=z4q ho (n:=n) (by omega)
     have e:setB on s n=on n:=by simp [setB];omega
     rw [e]
     split<;>omega
structure RInv (n:Nat) (F:List Int) (E:List (Int × Int)) (on:Nat→Bool):Prop where
 sound:∀ i:Nat,on i=true→Reach E F i
 base:∀ s ∈ F,on s.toNat=true
theorem RInv.set {n:Nat} {F:List Int} {E:List (Int × Int)} {on:Nat→Bool} (h:RInv n F E on) {x y:Nat} (hx:on x=true) (he:((x:Int),(y:Int)) ∈ E):RInv n F E (setB on y) where
 sound i hi:=by
   unfold setB at hi
   split at hi
   · rename_i e;subst e;exact .step (h.sound x hx) he
   · exact h.sound i hi
 base s hs:=by
  unfold setB
  split
  · rfl
  · exact h.base s hs
structure RIn (n:Nat) (F:List Int) (E:List (Int × Int)) (on0 on:Nat→Bool) (more:Bool) (i:Nat):Prop where
 inv:RInv n F E on
 no:more=false→on=on0∧∀ j,j < i→on (nth E j).1.toNat=true→on (nth E j).2.toNat=true
 yes:more=true→cntB on0 n < cntB on n
theorem RIn.start {n:Nat} {F:List Int} {E:List (Int × Int)} {on:Nat→Bool} (h:RInv n F E on):RIn n F E on on false 0 :=
 ⟨h,fun _=>⟨rfl,fun j hj=>absurd hj (Nat.not_lt_zero j)⟩,fun h=>by cases h⟩
theorem RIn.skip {n i:Nat} {F:List Int} {E:List (Int × Int)} {on0 on:Nat→Bool} {more:Bool} (h:RIn n F E on0 on more i) {x y:Nat} (he:nth E i=((x:Int),(y:Int))) (hs:on x=true→on y=true):RIn n F E on0 on more (i + 1):=by
 refine ⟨h.inv,fun hm=>⟨(h.no hm).1,fun j hj=>?_⟩,h.yes⟩
 by_cases e:j=i
 · subst e;rw [he];simpa using hs
 · exact (h.no hm).2 j (by omega)
theorem RIn.take {n i:Nat} {F:List Int} {E:List (Int × Int)} {on0 on:Nat→Bool} {more:Bool} (h:RIn n F E on0 on more i) {x y:Nat} (he:((x:Int),(y:Int)) ∈ E) (hx:on x=true) (hy:on y=false) (hyn:y < n):RIn n F E on0 (setB on y) true (i + 1):=by
 refine ⟨h.inv.set hx he,fun hm=>(by cases hm),fun _=>?_⟩
 have h1:=z4q hy hyn
 cases more with
 | true=>have:=h.yes rfl;omega
 | false=>have:=(h.no rfl).1;subst this;omega
theorem RIn.done {n:Nat} {F:List Int} {E:List (Int × Int)} {on0 on:Nat→Bool} (h:RIn n F E on0 on false E.length):∀ e ∈ E,on e.1.toNat=true→on e.2.toNat=true:=fun e he=>by
 obtain ⟨j,hj,rfl⟩:=List.getElem_of_mem he
 have:=(h.no rfl).2 j hj
 have e:nth E j=E[j]:=by simp [nth,List.getD,hj]
 rwa [e] at this
theorem zpx {d:Desc} {i x y:Nat} (h:i < d.rules.length) (hx:(nth d.rules i).from_=x) (hy:(nth d.rules i).to_=y):nth (fwdE d) i=((x:Int),(y:Int))∧((x:Int),(y:Int)) ∈ fwdE d:=by
 have e:nth (fwdE d) i=((nth d.rules i).from_,(nth d.rules i).to_):=by simp [fwdE,nth,List.getD,h]
 rw [hx,hy] at e
 exact ⟨e,by rw [← e];exact Aw (by simpa [fwdE] using h)⟩
theorem zpy {d:Desc} {i x y:Nat} (h:i < d.rules.length) (hx:(nth d.rules i).from_=x) (hy:(nth d.rules i).to_=y):nth (bwdE d) i=((y:Int),(x:Int))∧((y:Int),(x:Int)) ∈ bwdE d:=by
 have e:nth (bwdE d) i=((nth d.rules i).to_,(nth d.rules i).from_):=by simp [bwdE,nth,List.getD,h]
 rw [hx,hy] at e
 exact ⟨e,by rw [← e];exact Aw (by simpa [bwdE] using h)⟩
theorem z4r (n:Nat):List.replicate n (AV.bool false)=spB n fun _=>false:=by
 refine List.ext_getElem (by simp [spB]) fun i h1 h2=>?_
 simp [spB]
theorem z4s (n:Nat) (on:Nat→Bool):Ax (spB n on)=true:=Cc.2 fun x hx=>by
 obtain ⟨i,_,rfl⟩:=List.mem_map.1 hx
 rfl
theorem Y2 {n:Nat} {F:List Int} {E:List (Int × Int)} {on:Nat→Bool} (h:∀ i,on i=Ec E F i):spB n on=(Cn n F E).map AV.bool:=by
 simp only [spB,Cn,List.map_map]
 exact List.map_congr_left fun i _=>by simp [h i]
theorem z1f (d:Desc) (h:Wf d):PC Tryz.prog 17 [B8 d] (G8 (Fp d)):=by
 obtain ⟨n,hn,hn1,hn2⟩:=h.n
 have hr:=h.fwd hn
 have hrl:=h.rl
 have hst:=h.start
 have pR:=Bu d.rules
 have pF:=Bp d.finals
 obtain ⟨s,hs⟩:∃ s:Nat,d.start=s:=⟨d.start.toNat,by omega⟩
 have hsn:s < n:=by omega
 have hel:(fwdE d).length=d.rules.length:=by simp [fwdE]
 have ec:Fp d=Cn n [d.start] (fwdE d):=by rw [Fp,hn];rfl
 rw [ec]
 have fB:=z4r n
 have lB:∀ on,(spB n on).length=n:=fun on=>by simp [spB]
 have pB:=z4s n
 have f0:=Qa (on:=fun _=>false) hsn
 have aB:∀ on i,i < n→(spB n on).getD i .any=.bool (on i):=fun on i hi=>Bo hi
 have inv0:RInv n [d.start] (fwdE d) (setB (fun _=>false) s):=⟨fun i hi=>by
     have:i=s:=by
       unfold setB at hi
       split at hi
       · assumption
       · cases hi
     subst this
     exact .base (by simp [hs]),fun x hx=>by simp only [List.mem_singleton] at hx;subst hx;simp [setB,hs]⟩
 refine A9 Uf ?_
 unfold Kg
 (repeat' (first|(simp (disch:=omega) only [push_cast,↓zz,seval,pR,pF,hn,hs,fB,lB,pB,f0])|(with_reducible first|refine And.intro ?_ ?_|(first|refine Ab ?_ ?_|refine Aa ?_ ?_)<;>intro hc<;>(try simp only [push_cast] at hc))|omega|with_reducible intro _))
 refine Ao (Aq (fun (q:(Nat→Bool) × Bool)=>RInv n [d.start] (fwdE d) q.1∧(q.2=false→∀ e ∈ fwdE d,q.1 e.1.toNat=true→q.1 e.2.toNat=true)) (fun q=>2 * (n - cntB q.1 n) + if q.2 then 1 else 0)
   (fun q=>[(1,.ptr 0 1 0 0),(3,.ref 1 1 0 n),(4,.bool q.2)]) (fun q=>[⟨6,1,true,[B8 d]⟩,⟨1,1,true,spB n q.1⟩]) (fun env _=>[Ay 6 (env 1),Ay 1 (env 3)]) (setB (fun _=>false) s,true) ⟨inv0,fun h=>(by cases h)⟩ ?_ ?_)
 · (repeat' (first|(simp (disch:=omega) only [push_cast,↓zz,seval,pR,pF,pB,hn,hs])|(with_reducible first|refine And.intro ?_ ?_|(first|refine Ab ?_ ?_|refine Aa ?_ ?_)<;>intro hc<;>(try simp only [push_cast] at hc))|omega|with_reducible intro _))
 rintro ⟨on,more⟩ ⟨h1,h2⟩
 simp only at h1 h2
 cases more with
 | false =>
   have hreach:=Lg hr h1.sound h1.base (h2 rfl)
   have hB:=Y2 (n:=n) (F:=[d.start]) (E:=fwdE d) (on:=on) fun i=>(hreach i).symm
   have rl:=Em n [d.start] (fwdE d)
   have rt:List.take n (Cn n [d.start] (fwdE d))=Cn n [d.start] (fwdE d):=List.take_of_length_le (by rw [rl];exact Nat.le_refl _)
   have pb:=Do (Cn n [d.start] (fwdE d))
   refine W_T ?_
   (repeat' (first|(simp (disch:=omega) only [push_cast,↓zz,seval,pR,pF,lB,pB,hB,rl,rt,pb])|(with_reducible first|refine And.intro ?_ ?_|(first|refine Ab ?_ ?_|refine Aa ?_ ?_)<;>intro hc<;>(try simp only [push_cast] at hc))|omega|with_reducible intro _))
 | true =>
   clear h2
   refine W_T ?_
   (repeat' (first|(simp (disch:=omega) only [push_cast,↓zz,seval,pR,pF,lB,pB,hn])|(with_reducible first|refine And.intro ?_ ?_|(first|refine Ab ?_ ?_|refine Aa ?_ ?_)<;>intro hc<;>(try simp only [push_cast] at hc))|omega|with_reducible intro _))
   refine Ao (Aq (fun (q:(Nat→Bool) × Bool × Nat)=>q.2.2 ≤ d.rules.length∧RIn n [d.start] (fwdE d) on q.1 q.2.1 q.2.2) (fun q=>d.rules.length - q.2.2)
     (fun q=>[(1,.ptr 0 1 0 0),(3,.ref 1 1 0 n),(4,.bool q.2.1),(5,.int .i64 q.2.2)]) (fun q=>[⟨6,1,true,[B8 d]⟩,⟨1,1,true,spB n q.1⟩]) (fun env _=>[Ay 6 (env 1),Ay 1 (env 3)]) (on,false,0) ⟨by simp,RIn.start h1⟩ ?_ ?_)
   · (repeat' (first|(simp (disch:=omega) only [push_cast,↓zz,seval,pR,pF,pB,hn])|(with_reducible first|refine And.intro ?_ ?_|(first|refine Ab ?_ ?_|refine Aa ?_ ?_)<;>intro hc<;>(try simp only [push_cast] at hc))|omega|with_reducible intro _))
   rintro ⟨o,mo,i⟩ ⟨g1,g2⟩
   simp only at g1 g2
   rcases Nat.lt_or_ge i d.rules.length with hil|hil
   · have hrr:=h.r _ (Aw hil)
     have hat:=fun x y=>zpx (d:=d) (i:=i) (x:=x) (y:=y) hil
     generalize hre:nth d.rules i=r at *
     have hgr:=Ag r.guards
     have hot:=Bh r.out
     obtain ⟨x,hx⟩:∃ x:Nat,r.from_=x:=⟨r.from_.toNat,by omega⟩
     obtain ⟨y,hy⟩:∃ y:Nat,r.to_=y:=⟨r.to_.toNat,by omega⟩
     have hxn:x < n:=by omega
     have hyn:y < n:=by omega
     obtain ⟨e1,e2⟩:=hat x y hx hy
     have aX:=aB o x hxn
     have aY:=aB o y hyn
     have fY:=Qa (on:=o) hyn
     cases hox:o x with
     | false =>
       rw [hox] at aX
       have nx:=g2.skip e1 (by simp [hox])
       refine W_T ?_
       (repeat' (first|(simp (disch:=omega) only [push_cast,↓zz,seval,pR,pF,lB,pB,hn,hre,hx,hy,hgr,hot,aX])|(with_reducible first|refine And.intro ?_ ?_|(first|refine Ab ?_ ?_|refine Aa ?_ ?_)<;>intro hc<;>(try simp only [push_cast] at hc))|omega|with_reducible intro _))
       all_goals
         refine ⟨(o,mo,i + 1),?_⟩
         (repeat' (first|(simp (disch:=omega) only [push_cast,↓zz,seval,pB])|(with_reducible first|refine And.intro ?_ ?_|(first|refine Ab ?_ ?_|refine Aa ?_ ?_)<;>intro hc<;>(try simp only [push_cast] at hc))|omega|with_reducible intro _))
         try exact nx
     | true =>
       rw [hox] at aX
       cases hoy:o y with
       | true =>
         rw [hoy] at aY
         have nx:=g2.skip e1 (by simp [hoy])
         refine W_T ?_
         (repeat' (first|(simp (disch:=omega) only [push_cast,↓zz,seval,pR,pF,lB,pB,hn,hre,hx,hy,hgr,hot,aX,aY])|(with_reducible first|refine And.intro ?_ ?_|(first|refine Ab ?_ ?_|refine Aa ?_ ?_)<;>intro hc<;>(try simp only [push_cast] at hc))|omega|with_reducible intro _))
         all_goals
           refine ⟨(o,mo,i + 1),?_⟩
           (repeat' (first|(simp (disch:=omega) only [push_cast,↓zz,seval,pB])|(with_reducible first|refine And.intro ?_ ?_|(first|refine Ab ?_ ?_|refine Aa ?_ ?_)<;>intro hc<;>(try simp only [push_cast] at hc))|omega|with_reducible intro _))
           try exact nx
       | false =>
         rw [hoy] at aY
         have nx:=g2.take e2 hox hoy hyn
         refine W_T ?_
         (repeat' (first|(simp (disch:=omega) only [push_cast,↓zz,seval,pR,pF,lB,pB,hn,hre,hx,hy,hgr,hot,aX,aY,fY])|(with_reducible first|refine And.intro ?_ ?_|(first|refine Ab ?_ ?_|refine Aa ?_ ?_)<;>intro hc<;>(try simp only [push_cast] at hc))|omega|with_reducible intro _))
         all_goals
           refine ⟨(setB o y,true,i + 1),?_⟩
           (repeat' (first|(simp (disch:=omega) only [push_cast,↓zz,seval,pB])|(with_reducible first|refine And.intro ?_ ?_|(first|refine Ab ?_ ?_|refine Aa ?_ ?_)<;>intro hc<;>(try simp only [push_cast] at hc))|omega|with_reducible intro _))
           try exact nx
   · obtain rfl:i=d.rules.length:=by omega
     have hc:=Ma o n
     refine W_T ?_
     (repeat' (first|(simp (disch:=omega) only [push_cast,↓zz,seval,pR,pF,lB,pB,hn])|(with_reducible first|refine And.intro ?_ ?_|(first|refine Ab ?_ ?_|refine Aa ?_ ?_)<;>intro hc<;>(try simp only [push_cast] at hc))|omega|with_reducible intro _))
     refine ⟨(o,mo),?_⟩
     cases mo with
     | false =>
       have hd:=g2.no rfl
       rw [← hel] at g2
       have hdn:=g2.done
       have hin:=g2.inv
       obtain ⟨rfl,_⟩:=hd
       (repeat' (first|(simp (disch:=omega) only [push_cast,↓zz,seval,pB])|(with_reducible first|refine And.intro ?_ ?_|(first|refine Ab ?_ ?_|refine Aa ?_ ?_)<;>intro hc<;>(try simp only [push_cast] at hc))|omega|with_reducible intro _))
       all_goals first|assumption|(simp only;omega)|trace_state
     | true =>
       have hy:=g2.yes rfl
       have hin:=g2.inv
       (repeat' (first|(simp (disch:=omega) only [push_cast,↓zz,seval,pB])|(with_reducible first|refine And.intro ?_ ?_|(first|refine Ab ?_ ?_|refine Aa ?_ ?_)<;>intro hc<;>(try simp only [push_cast] at hc))|omega|with_reducible intro _))
       all_goals first|assumption|(simp only;omega)|trace_state
def memB (F:List Int) (k i:Nat):Bool:=decide ((i:Int) ∈ F.take k)
theorem zh3 {n k x:Nat} {F:List Int} (hk:k < F.length) (hx:nth F k=x) (hxn:x < n):(spB n (memB F k)).set x (.bool true)=spB n (memB F (k + 1)):=by
 rw [Qa hxn,spB,spB]
 refine List.map_congr_left fun i _=>?_
 congr 1
 unfold setB memB
 rw [take_at hk,hx]
 by_cases e:i=x
 · subst e;simp
 · rw [if_neg e]
   have:¬ (i:Int)=(x:Int):=by omega
   simp [this]
theorem Y3 (d:Desc) (h:Wf d):PC Tryz.prog 18 [B8 d] (G8 (goL d)):=by
 obtain ⟨n,hn,hn1,hn2⟩:=h.n
 have hr:=h.bwd hn
 have hrl:=h.rl
 have hfl:=h.fl
 have pR:=Bu d.rules
 have pF:=Bp d.finals
 have hel:(bwdE d).length=d.rules.length:=by simp [bwdE]
 have hfe:(endE d).length=d.finals.length:=by simp [endE]
 have ec:goL d=Cn n (endE d) (bwdE d):=by rw [goL,hn];rfl
 rw [ec]
 have fB:=z4r n
 have lB:∀ on,(spB n on).length=n:=fun on=>by simp [spB]
 have pB:=z4s n
 have aB:∀ on i,i < n→(spB n on).getD i .any=.bool (on i):=fun on i hi=>Bo hi
 refine A9 Qz ?_
 unfold I4
 (repeat' (first|(simp (disch:=omega) only [push_cast,↓zz,seval,pR,pF,hn,fB,lB,pB])|(with_reducible first|refine And.intro ?_ ?_|(first|refine Ab ?_ ?_|refine Aa ?_ ?_)<;>intro hc<;>(try simp only [push_cast] at hc))|omega|with_reducible intro _))
 refine Ao (Aq (fun (k:Nat)=>k ≤ d.finals.length) (fun k=>d.finals.length - k)
   (fun k=>[(1,.ptr 0 1 0 0),(3,.ref 1 1 0 n),(4,.int .i64 k)]) (fun k=>[⟨6,1,true,[B8 d]⟩,⟨1,1,true,spB n (memB (endE d) k)⟩]) (fun env _=>[Ay 6 (env 1),Ay 1 (env 3)]) 0 (by simp) ?_ ?_)
 · have e0:memB (endE d) 0=fun _=>false:=funext fun i=>by simp [memB]
   (repeat' (first|(simp (disch:=omega) only [push_cast,↓zz,seval,pR,pF,pB,hn,e0])|(with_reducible first|refine And.intro ?_ ?_|(first|refine Ab ?_ ?_|refine Aa ?_ ?_)<;>intro hc<;>(try simp only [push_cast] at hc))|omega|with_reducible intro _))
 intro k hk
 rcases Nat.lt_or_ge k d.finals.length with hkl|hkl
 · have hrr:=h.f _ (Aw hkl)
   have hee:nth (endE d) k=(nth d.finals k).from_:=z7h hkl
   have hms:=fun x=>zh3 (n:=n) (k:=k) (x:=x) (F:=endE d) (by omega)
   generalize hre:nth d.finals k=r at *
   have hgr:=Ag r.guards
   have hot:=Bh r.out
   obtain ⟨x,hx⟩:∃ x:Nat,r.from_=x:=⟨r.from_.toNat,by omega⟩
   have hm:=hms x (by rw [hee,hx]) (by omega)
   have hxn:x < n:=by omega
   refine W_T ?_
   (repeat' (first|(simp (disch:=omega) only [push_cast,↓zz,seval,pR,pF,lB,pB,hn,hre,hx,hgr,hot,hm])|(with_reducible first|refine And.intro ?_ ?_|(first|refine Ab ?_ ?_|refine Aa ?_ ?_)<;>intro hc<;>(try simp only [push_cast] at hc))|omega|with_reducible intro _))
   all_goals
     refine ⟨k + 1,?_⟩
     (repeat' (first|(simp (disch:=omega) only [push_cast,↓zz,seval,pB])|(with_reducible first|refine And.intro ?_ ?_|(first|refine Ab ?_ ?_|refine Aa ?_ ?_)<;>intro hc<;>(try simp only [push_cast] at hc))|omega|with_reducible intro _))
 obtain rfl:k=d.finals.length:=by omega
 have inv0:RInv n (endE d) (bwdE d) (memB (endE d) d.finals.length):=⟨fun i hi=>.base (by
     have:=of_decide_eq_true hi
     exact List.mem_of_mem_take this),fun x hx=>by
     have hx2:=hr.f x hx
     have e:((x.toNat:Nat):Int)=x:=by omega
     simp only [memB,e,← hfe,List.take_length,decide_eq_true_eq]
     exact hx⟩
 generalize memB (endE d) d.finals.length=on0 at *
 refine W_T ?_
 (repeat' (first|(simp (disch:=omega) only [push_cast,↓zz,seval,pR,pF,lB,pB,hn])|(with_reducible first|refine And.intro ?_ ?_|(first|refine Ab ?_ ?_|refine Aa ?_ ?_)<;>intro hc<;>(try simp only [push_cast] at hc))|omega|with_reducible intro _))
 refine Ao (Aq (fun (q:(Nat→Bool) × Bool)=>RInv n (endE d) (bwdE d) q.1∧(q.2=false→∀ e ∈ bwdE d,q.1 e.1.toNat=true→q.1 e.2.toNat=true)) (fun q=>2 * (n - cntB q.1 n) + if q.2 then 1 else 0)
   (fun q=>[(1,.ptr 0 1 0 0),(3,.ref 1 1 0 n),(5,.bool q.2)]) (fun q=>[⟨6,1,true,[B8 d]⟩,⟨1,1,true,spB n q.1⟩]) (fun env _=>[Ay 6 (env 1),Ay 1 (env 3)]) (on0,true) ⟨inv0,fun h=>(by cases h)⟩ ?_ ?_)
 · (repeat' (first|(simp (disch:=omega) only [push_cast,↓zz,seval,pR,pF,pB,hn])|(with_reducible first|refine And.intro ?_ ?_|(first|refine Ab ?_ ?_|refine Aa ?_ ?_)<;>intro hc<;>(try simp only [push_cast] at hc))|omega|with_reducible intro _))
 rintro ⟨on,more⟩ ⟨h1,h2⟩
 simp only at h1 h2
 cases more with
 | false =>
   have hreach:=Lg hr h1.sound h1.base (h2 rfl)
   have hB:=Y2 (n:=n) (F:=endE d) (E:=bwdE d) (on:=on) fun i=>(hreach i).symm
   have rl:=Em n (endE d) (bwdE d)
   have rt:List.take n (Cn n (endE d) (bwdE d))=Cn n (endE d) (bwdE d):=List.take_of_length_le (by rw [rl];exact Nat.le_refl _)
   have pb:=Do (Cn n (endE d) (bwdE d))
   refine W_T ?_
   (repeat' (first|(simp (disch:=omega) only [push_cast,↓zz,seval,pR,pF,lB,pB,hB,rl,rt,pb])|(with_reducible first|refine And.intro ?_ ?_|(first|refine Ab ?_ ?_|refine Aa ?_ ?_)<;>intro hc<;>(try simp only [push_cast] at hc))|omega|with_reducible intro _))
 | true =>
   clear h2
   refine W_T ?_
   (repeat' (first|(simp (disch:=omega) only [push_cast,↓zz,seval,pR,pF,lB,pB,hn])|(with_reducible first|refine And.intro ?_ ?_|(first|refine Ab ?_ ?_|refine Aa ?_ ?_)<;>intro hc<;>(try simp only [push_cast] at hc))|omega|with_reducible intro _))
   refine Ao (Aq (fun (q:(Nat→Bool) × Bool × Nat)=>q.2.2 ≤ d.rules.length∧RIn n (endE d) (bwdE d) on q.1 q.2.1 q.2.2) (fun q=>d.rules.length - q.2.2)
     (fun q=>[(1,.ptr 0 1 0 0),(3,.ref 1 1 0 n),(5,.bool q.2.1),(6,.int .i64 q.2.2)]) (fun q=>[⟨6,1,true,[B8 d]⟩,⟨1,1,true,spB n q.1⟩]) (fun env _=>[Ay 6 (env 1),Ay 1 (env 3)]) (on,false,0) ⟨by simp,RIn.start h1⟩ ?_ ?_)
   · (repeat' (first|(simp (disch:=omega) only [push_cast,↓zz,seval,pR,pF,pB,hn])|(with_reducible first|refine And.intro ?_ ?_|(first|refine Ab ?_ ?_|refine Aa ?_ ?_)<;>intro hc<;>(try simp only [push_cast] at hc))|omega|with_reducible intro _))
   rintro ⟨o,mo,i⟩ ⟨g1,g2⟩
   simp only at g1 g2
   rcases Nat.lt_or_ge i d.rules.length with hil|hil
   · have hrr:=h.r _ (Aw hil)
     have hat:=fun x y=>zpy (d:=d) (i:=i) (x:=x) (y:=y) hil
     generalize hre:nth d.rules i=r at *
     have hgr:=Ag r.guards
     have hot:=Bh r.out
     obtain ⟨y,hy⟩:∃ y:Nat,r.from_=y:=⟨r.from_.toNat,by omega⟩
     obtain ⟨x,hx⟩:∃ x:Nat,r.to_=x:=⟨r.to_.toNat,by omega⟩
     have hxn:x < n:=by omega
     have hyn:y < n:=by omega
     obtain ⟨e1,e2⟩:=hat y x hy hx
     have aX:=aB o x hxn
     have aY:=aB o y hyn
     have fY:=Qa (on:=o) hyn
     cases hox:o x with
     | false =>
       rw [hox] at aX
       have nx:=g2.skip e1 (by simp [hox])
       refine W_T ?_
       (repeat' (first|(simp (disch:=omega) only [push_cast,↓zz,seval,pR,pF,lB,pB,hn,hre,hx,hy,hgr,hot,aX])|(with_reducible first|refine And.intro ?_ ?_|(first|refine Ab ?_ ?_|refine Aa ?_ ?_)<;>intro hc<;>(try simp only [push_cast] at hc))|omega|with_reducible intro _))
       all_goals
         refine ⟨(o,mo,i + 1),?_⟩
         (repeat' (first|(simp (disch:=omega) only [push_cast,↓zz,seval,pB])|(with_reducible first|refine And.intro ?_ ?_|(first|refine Ab ?_ ?_|refine Aa ?_ ?_)<;>intro hc<;>(try simp only [push_cast] at hc))|omega|with_reducible intro _))
         try exact nx
     | true =>
       rw [hox] at aX
       cases hoy:o y with
       | true =>
         rw [hoy] at aY
         have nx:=g2.skip e1 (by simp [hoy])
         refine W_T ?_
         (repeat' (first|(simp (disch:=omega) only [push_cast,↓zz,seval,pR,pF,lB,pB,hn,hre,hx,hy,hgr,hot,aX,aY])|(with_reducible first|refine And.intro ?_ ?_|(first|refine Ab ?_ ?_|refine Aa ?_ ?_)<;>intro hc<;>(try simp only [push_cast] at hc))|omega|with_reducible intro _))
         all_goals
           refine ⟨(o,mo,i + 1),?_⟩
           (repeat' (first|(simp (disch:=omega) only [push_cast,↓zz,seval,pB])|(with_reducible first|refine And.intro ?_ ?_|(first|refine Ab ?_ ?_|refine Aa ?_ ?_)<;>intro hc<;>(try simp only [push_cast] at hc))|omega|with_reducible intro _))
           try exact nx
       | false =>
         rw [hoy] at aY
         have nx:=g2.take e2 hox hoy hyn
         refine W_T ?_
         (repeat' (first|(simp (disch:=omega) only [push_cast,↓zz,seval,pR,pF,lB,pB,hn,hre,hx,hy,hgr,hot,aX,aY,fY])|(with_reducible first|refine And.intro ?_ ?_|(first|refine Ab ?_ ?_|refine Aa ?_ ?_)<;>intro hc<;>(try simp only [push_cast] at hc))|omega|with_reducible intro _))
         all_goals
           refine ⟨(setB o y,true,i + 1),?_⟩
           (repeat' (first|(simp (disch:=omega) only [push_cast,↓zz,seval,pB])|(with_reducible first|refine And.intro ?_ ?_|(first|refine Ab ?_ ?_|refine Aa ?_ ?_)<;>intro hc<;>(try simp only [push_cast] at hc))|omega|with_reducible intro _))
           try exact nx
   · obtain rfl:i=d.rules.length:=by omega
     have hc:=Ma o n
     refine W_T ?_
     (repeat' (first|(simp (disch:=omega) only [push_cast,↓zz,seval,pR,pF,lB,pB,hn])|(with_reducible first|refine And.intro ?_ ?_|(first|refine Ab ?_ ?_|refine Aa ?_ ?_)<;>intro hc<;>(try simp only [push_cast] at hc))|omega|with_reducible intro _))
     refine ⟨(o,mo),?_⟩
     cases mo with
     | false =>
       have hd:=g2.no rfl
       rw [← hel] at g2
       have hdn:=g2.done
       have hin:=g2.inv
       obtain ⟨rfl,_⟩:=hd
       (repeat' (first|(simp (disch:=omega) only [push_cast,↓zz,seval,pB])|(with_reducible first|refine And.intro ?_ ?_|(first|refine Ab ?_ ?_|refine Aa ?_ ?_)<;>intro hc<;>(try simp only [push_cast] at hc))|omega|with_reducible intro _))
       all_goals first|assumption|(simp only;omega)|trace_state
     | true =>
       have hy:=g2.yes rfl
       have hin:=g2.inv
       (repeat' (first|(simp (disch:=omega) only [push_cast,↓zz,seval,pB])|(with_reducible first|refine And.intro ?_ ?_|(first|refine Ab ?_ ?_|refine Aa ?_ ?_)<;>intro hc<;>(try simp only [push_cast] at hc))|omega|with_reducible intro _))
       all_goals first|assumption|(simp only;omega)|trace_state
theorem Ng (l:List Bool) {s:Nat}:∀ {n:Nat},s ≤ n→∃ rest,Eo l n=Eo l s ++ rest
 | 0,h=>by
  obtain rfl:s=0:=by omega
  exact ⟨[],by simp⟩
 | n + 1,h=>by
   by_cases e:s=n + 1
   · subst e;exact ⟨[],by simp⟩
   · obtain ⟨r,hr⟩:=Ng l (s:=s) (n:=n) (by omega)
     rw [Iw,hr]
     split
     · exact ⟨r ++ [(n:Int)],by simp⟩
     · exact ⟨r,rfl⟩
theorem zh4 (l:List Bool) {s n:Nat} (h:s < n) (hs:nth l s=true):nth (Eo l n) (Eo l s).length=s∧(Eo l s).length < (Eo l n).length:=by
 obtain ⟨r,hr⟩:=Ng l (s:=s + 1) (n:=n) (by omega)
 rw [Iw,if_pos hs] at hr
 rw [hr]
 constructor
 · simp [nth,List.getD]
 · simp
theorem Tf (l:List Bool) (hl:l.length ≤ 1000000):PC Tryz.prog 16 [Cv (Eo l l.length),G8 l] (.bool true):=by
 have pB:=Do l
 have pI:Ax ((Eo l l.length).map (AV.int .i64))=true:=Cj .i64 _
 have hml:=Qi l l.length
 refine A9 Xb ?_
 unfold Mh
 (repeat' (first|(simp (disch:=omega) only [push_cast,↓zz,seval,pB,pI])|(with_reducible first|refine And.intro ?_ ?_|(first|refine Ab ?_ ?_|refine Aa ?_ ?_)<;>intro hc<;>(try simp only [push_cast] at hc))|omega|with_reducible intro _))
 refine Ao (Aq (fun (s:Nat)=>s ≤ l.length) (fun s=>l.length - s)
   (fun s=>[(0,Cv (Eo l l.length)),(1,G8 l),(5,.int .i64 (Eo l s).length),(6,.int .i64 s)]) (fun _=>[]) (fun _ _=>[]) 0 (by simp) ?_ ?_)
 · have e0:(Eo l 0).length=0:=rfl
   (repeat' (first|(simp (disch:=omega) only [push_cast,↓zz,seval,pB,pI,e0])|(with_reducible first|refine And.intro ?_ ?_|(first|refine Ab ?_ ?_|refine Aa ?_ ?_)<;>intro hc<;>(try simp only [push_cast] at hc))|omega|with_reducible intro _))
 intro s hs
 have hms:=Qi l s
 rcases Nat.lt_or_ge s l.length with hsl|hsl
 · have hst:=Iw l s
   have hat:=fun h=>zh4 l (s:=s) (n:=l.length) hsl h
   cases hx:nth l s with
   | true =>
     obtain ⟨a1,a2⟩:=hat hx
     rw [hx,if_pos rfl] at hst
     have e1:(Eo l (s + 1)).length=(Eo l s).length + 1:=by rw [hst];simp
     generalize Eo l l.length=M at *
     generalize (Eo l s).length=k at *
     have aM:(M.map (AV.int .i64)).getD k .any=.int .i64 s:=by
       rw [List.getD_eq_getElem?_getD,List.getElem?_map]
       simp only [nth,List.getD] at a1
       rw [List.getElem?_eq_getElem a2] at a1 ⊢
       simpa using a1
     refine W_T ?_
     (repeat' (first|(simp (disch:=omega) only [push_cast,↓zz,seval,pB,pI,hx,a1])|(with_reducible first|refine And.intro ?_ ?_|(first|refine Ab ?_ ?_|refine Aa ?_ ?_)<;>intro hc<;>(try simp only [push_cast] at hc))|omega|with_reducible intro _))
     all_goals
       refine ⟨s + 1,?_⟩
       (repeat' (first|(simp (disch:=omega) only [push_cast,↓zz,seval,e1])|(with_reducible first|refine And.intro ?_ ?_|(first|refine Ab ?_ ?_|refine Aa ?_ ?_)<;>intro hc<;>(try simp only [push_cast] at hc))|omega|with_reducible intro _))
   | false =>
     rw [hx,if_neg (by simp)] at hst
     refine W_T ?_
     (repeat' (first|(simp (disch:=omega) only [push_cast,↓zz,seval,pB,pI,hx])|(with_reducible first|refine And.intro ?_ ?_|(first|refine Ab ?_ ?_|refine Aa ?_ ?_)<;>intro hc<;>(try simp only [push_cast] at hc))|omega|with_reducible intro _))
     all_goals
       refine ⟨s + 1,?_⟩
       (repeat' (first|(simp (disch:=omega) only [push_cast,↓zz,seval,hst])|(with_reducible first|refine And.intro ?_ ?_|(first|refine Ab ?_ ?_|refine Aa ?_ ?_)<;>intro hc<;>(try simp only [push_cast] at hc))|omega|with_reducible intro _))
 · obtain rfl:s=l.length:=by omega
   refine W_T ?_
   (repeat' (first|(simp (disch:=omega) only [push_cast,↓zz,seval,pB,pI])|(with_reducible first|refine And.intro ?_ ?_|(first|refine Ab ?_ ?_|refine Aa ?_ ?_)<;>intro hc<;>(try simp only [push_cast] at hc))|omega|with_reducible intro _))
   all_goals trace_state
theorem Q8 (d:Desc):PC Tryz.prog 4 [B8 d] (.bool true):=by
 have hA:=z0u
 have hS:=z1b d
 have pR:=Bu d.rules
 have pF:=Bp d.finals
 refine A9 Kb ?_
 unfold Fw
 cases hsm:Nf d with
 | false =>
   rw [hsm] at hS
   (repeat' (first|(simp (disch:=omega) only [push_cast,↓zz,seval,pR,pF])|(with_reducible first|refine And.intro ?_ ?_|(first|refine Ab ?_ ?_|refine Aa ?_ ?_)<;>intro hc<;>(try simp only [push_cast] at hc)|refine eK hS ?_|refine eQ hS ?_|refine eG hS ?_|refine eK hA ?_|refine eQ hA ?_|refine eG hA ?_)|((with_reducible first|refine cK hS ?_|refine cQ hS ?_|refine cG hS ?_);(simp (disch:=omega) only [push_cast,↓zz,seval,pR,pF]);(fail_if_success with_reducible change False))|((with_reducible first|refine cK hA ?_|refine cQ hA ?_|refine cG hA ?_);(simp (disch:=omega) only [push_cast,↓zz,seval,pR,pF]);(fail_if_success with_reducible change False))|omega|with_reducible intro _))
 | true =>
 rw [hsm] at hS
 have hsh:=z1d hsm
 have hRt:=z1e d hsh
 by_cases h:D7 d=0
 · rw [decide_eq_true h] at hRt
   have hw:=z7g h
   obtain ⟨n,hn,hn1,hn2⟩:=hw.n
   have hC:=Sw d hsh.fin h
   have hG:=Qj d hsh.fin h
   have hC2:=z1f d hw
   have hG2:=Y3 d hw
   have hs1:=Tf (Fp d) (by rw [Ld];omega)
   have hs2:=Tf (goL d) (by rw [Vr];omega)
   rw [Ld] at hs1
   rw [Vr] at hs2
   change PC _ _ [Cv (Jd d),_] _ at hs1
   change PC _ _ [Cv (Q5 d),_] _ at hs2
   have pI:Ax ((Jd d).map (AV.int .i64))=true:=Cj .i64 _
   have pJ:Ax ((Q5 d).map (AV.int .i64))=true:=Cj .i64 _
   have pC:=Do (Fp d)
   have pG:=Do (goL d)
   generalize Jd d=L at *
   generalize Q5 d=M at *
   generalize Fp d=CL at *
   generalize goL d=GL at *
   (repeat' (first|(simp (disch:=omega) only [push_cast,↓zz,seval,pR,pF,pI,pJ,pC,pG])|(with_reducible first|refine And.intro ?_ ?_|(first|refine Ab ?_ ?_|refine Aa ?_ ?_)<;>intro hc<;>(try simp only [push_cast] at hc)|refine eK hS ?_|refine eQ hS ?_|refine eK hRt ?_|refine eQ hRt ?_|refine eK hC ?_|refine eQ hC ?_|refine eK hG ?_|refine eQ hG ?_|refine eK hC2 ?_|refine eQ hC2 ?_|refine eK hG2 ?_|refine eQ hG2 ?_|refine eK hs1 ?_|refine eQ hs1 ?_|refine eK hs2 ?_|refine eQ hs2 ?_|refine eK hA ?_|refine eQ hA ?_|refine eG hA ?_)|((with_reducible first|refine cK hA ?_|refine cQ hA ?_|refine cG hA ?_);(simp (disch:=omega) only [push_cast,↓zz,seval,pR,pF,pI,pJ,pC,pG]);(fail_if_success with_reducible change False))|omega|with_reducible intro _))
   all_goals first|(exfalso;revert hc;decide)|trace_state
 · rw [decide_eq_false h] at hRt
   have hC:=Vs d hsh.fin h
   have hG:=Q6 d hsh.fin h
   (repeat' (first|(simp (disch:=omega) only [push_cast,↓zz,seval,pR,pF])|(with_reducible first|refine And.intro ?_ ?_|(first|refine Ab ?_ ?_|refine Aa ?_ ?_)<;>intro hc<;>(try simp only [push_cast] at hc)|refine eK hS ?_|refine eQ hS ?_|refine eG hS ?_|refine eK hRt ?_|refine eQ hRt ?_|refine eG hRt ?_|refine eK hC ?_|refine eQ hC ?_|refine eG hC ?_|refine eK hG ?_|refine eQ hG ?_|refine eG hG ?_|refine eK hA ?_|refine eQ hA ?_|refine eG hA ?_)|((with_reducible first|refine cK hS ?_|refine cQ hS ?_|refine cG hS ?_);(simp (disch:=omega) only [push_cast,↓zz,seval,pR,pF]);(fail_if_success with_reducible change False))|((with_reducible first|refine cK hRt ?_|refine cQ hRt ?_|refine cG hRt ?_);(simp (disch:=omega) only [push_cast,↓zz,seval,pR,pF]);(fail_if_success with_reducible change False))|((with_reducible first|refine cK hC ?_|refine cQ hC ?_|refine cG hC ?_);(simp (disch:=omega) only [push_cast,↓zz,seval,pR,pF]);(fail_if_success with_reducible change False))|((with_reducible first|refine cK hG ?_|refine cQ hG ?_|refine cG hG ?_);(simp (disch:=omega) only [push_cast,↓zz,seval,pR,pF]);(fail_if_success with_reducible change False))|((with_reducible first|refine cK hA ?_|refine cQ hA ?_|refine cG hA ?_);(simp (disch:=omega) only [push_cast,↓zz,seval,pR,pF]);(fail_if_success with_reducible change False))|omega|with_reducible intro _))
   all_goals first|(exfalso;revert hc;decide)|trace_state
end Go.Proofs.YticodgjinajkpaaGreat
