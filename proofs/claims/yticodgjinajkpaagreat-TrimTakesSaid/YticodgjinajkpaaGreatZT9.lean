/-
  Parts of the proof that the law holds whatever the input; without conditions.
-/
import Derived.Test.YticodgjinajkpaaGreatZT8
set_option linter.unusedSimpArgs false
set_option linter.unusedVariables false
namespace Go.Proofs.YticodgjinajkpaaGreat
open Abs
theorem znt {α:Type} [Inhabited α] {p:α→Bool} {l:List α} {k:Nat} (h:k < l.length):(l.drop k).all p=(p (nth l k) && (l.drop (k + 1)).all p):=by rw [drop_at h,List.all_cons]
theorem N5 (i:Int) (gs:List (List Span)) (hl:gs.length ≤ 9223372036854775807):PC Tryz.prog 53 [.int .i64 i,Ak gs] (.bool (Cy i gs)):=by
 have hP:=Ae gs
 have hD:=N4 i
 refine A9 Rv ?_
 unfold Jl
 (repeat' (first|(simp (disch:=omega) only [push_cast,↓zz,seval])|(with_reducible first|refine And.intro ?_ ?_|(first|refine Ab ?_ ?_|refine Aa ?_ ?_)<;>intro hc<;>(try simp only [push_cast] at hc))|omega|with_reducible intro _))
 refine Ao (Ap (fun (k:Nat)=>k ≤ gs.length∧gs.all (Ib i)=(gs.drop k).all (Ib i)) (fun k=>gs.length - k)
   (fun k=>[(0,.int .i64 i),(1,Ak gs),(5,.int .i64 k)]) (fun k=>[]) (fun _ _=>[]) 0 ⟨by simp,rfl⟩ ?_ ?_)
 · (repeat' (first|(simp (disch:=omega) only [push_cast,↓zz,seval,hP])|(with_reducible first|refine And.intro ?_ ?_|(first|refine Ab ?_ ?_|refine Aa ?_ ?_)<;>intro hc<;>(try simp only [push_cast] at hc))|omega|with_reducible intro _))
 rintro k ⟨k1,k2⟩
 rcases Nat.lt_or_ge k gs.length with hk|hk
 · rw [znt hk,← T8,z63] at k2
   generalize hge:nth gs k=g at *
   have hpg:=Cf g
   have hno:Cy i gs=(decide ((gs.length:Int) ≤ 4) && gs.all (Ib i)):=rfl
   rw [hno]
   refine W_T ?_
   by_cases g1:g.length ≠ 0∧g.length ≤ 64
   · rw [decide_eq_true g1.1,decide_eq_true g1.2,Bool.true_and,Bool.true_and] at k2
     have hN:=I3 g (by omega)
     have hS:=Mq g (Ar g) (by omega)
     have hM:=Mp g (domL i) 2 (by omega) (by have:=Wd i;omega)
     rw [Tm] at hM
     have hlen:(Ej g (domL i)).length ≤ 9223372036854775807 ∨ True:=.inr trivial
     by_cases h2:g=Ar g
     · rw [decide_eq_true h2] at hS
       rw [decide_eq_true h2,Bool.true_and] at k2
       by_cases h3:Ej g (domL i)=[]
       · rw [h3] at hM
         rw [decide_eq_true h3,Bool.true_and] at k2
         (repeat' (first|(simp (disch:=omega) only [push_cast,↓zz,seval,hP,hge,hpg])|(with_reducible first|refine And.intro ?_ ?_|(first|refine Ab ?_ ?_|refine Aa ?_ ?_)<;>intro hc<;>(try simp only [push_cast] at hc)|refine eK hN ?_|refine eQ hN ?_|refine eG hN ?_|refine eK hS ?_|refine eQ hS ?_|refine eG hS ?_|refine eK hD ?_|refine eQ hD ?_|refine eG hD ?_|refine eK hM ?_|refine eQ hM ?_|refine eG hM ?_)|((with_reducible first|refine cK hN ?_|refine cQ hN ?_|refine cG hN ?_);(simp (disch:=omega) only [push_cast,↓zz,seval,hP,hge,hpg]);(fail_if_success with_reducible change False))|((with_reducible first|refine cK hS ?_|refine cQ hS ?_|refine cG hS ?_);(simp (disch:=omega) only [push_cast,↓zz,seval,hP,hge,hpg]);(fail_if_success with_reducible change False))|((with_reducible first|refine cK hD ?_|refine cQ hD ?_|refine cG hD ?_);(simp (disch:=omega) only [push_cast,↓zz,seval,hP,hge,hpg]);(fail_if_success with_reducible change False))|((with_reducible first|refine cK hM ?_|refine cQ hM ?_|refine cG hM ?_);(simp (disch:=omega) only [push_cast,↓zz,seval,hP,hge,hpg]);(fail_if_success with_reducible change False))|omega|with_reducible intro _))
         all_goals first
           | exact ⟨k + 1,by push_cast,⟨by omega,k2⟩,by omega⟩
           | trace_state
       · have hpos:=List.length_pos_iff.2 h3
         rw [decide_eq_false h3,Bool.false_and] at k2
         rw [k2,Bool.and_false]
         generalize Ej g (domL i)=m at *
         (repeat' (first|(simp (disch:=omega) only [push_cast,↓zz,seval,hP,hge,hpg])|(with_reducible first|refine And.intro ?_ ?_|(first|refine Ab ?_ ?_|refine Aa ?_ ?_)<;>intro hc<;>(try simp only [push_cast] at hc)|refine eK hN ?_|refine eQ hN ?_|refine eG hN ?_|refine eK hS ?_|refine eQ hS ?_|refine eG hS ?_|refine eK hD ?_|refine eQ hD ?_|refine eG hD ?_|refine eK hM ?_|refine eQ hM ?_|refine eG hM ?_)|((with_reducible first|refine cK hN ?_|refine cQ hN ?_|refine cG hN ?_);(simp (disch:=omega) only [push_cast,↓zz,seval,hP,hge,hpg]);(fail_if_success with_reducible change False))|((with_reducible first|refine cK hS ?_|refine cQ hS ?_|refine cG hS ?_);(simp (disch:=omega) only [push_cast,↓zz,seval,hP,hge,hpg]);(fail_if_success with_reducible change False))|((with_reducible first|refine cK hD ?_|refine cQ hD ?_|refine cG hD ?_);(simp (disch:=omega) only [push_cast,↓zz,seval,hP,hge,hpg]);(fail_if_success with_reducible change False))|((with_reducible first|refine cK hM ?_|refine cQ hM ?_|refine cG hM ?_);(simp (disch:=omega) only [push_cast,↓zz,seval,hP,hge,hpg]);(fail_if_success with_reducible change False))|omega|with_reducible intro _))
     · rw [decide_eq_false h2] at hS
       rw [decide_eq_false h2,Bool.false_and,Bool.false_and] at k2
       rw [k2,Bool.and_false]
       (repeat' (first|(simp (disch:=omega) only [push_cast,↓zz,seval,hP,hge,hpg])|(with_reducible first|refine And.intro ?_ ?_|(first|refine Ab ?_ ?_|refine Aa ?_ ?_)<;>intro hc<;>(try simp only [push_cast] at hc)|refine eK hN ?_|refine eQ hN ?_|refine eG hN ?_|refine eK hS ?_|refine eQ hS ?_|refine eG hS ?_)|((with_reducible first|refine cK hN ?_|refine cQ hN ?_|refine cG hN ?_);(simp (disch:=omega) only [push_cast,↓zz,seval,hP,hge,hpg]);(fail_if_success with_reducible change False))|((with_reducible first|refine cK hS ?_|refine cQ hS ?_|refine cG hS ?_);(simp (disch:=omega) only [push_cast,↓zz,seval,hP,hge,hpg]);(fail_if_success with_reducible change False))|omega|with_reducible intro _))
   · have:(decide (g.length ≠ 0) && (decide (g.length ≤ 64) && (decide (g=Ar g) && decide (Ej g (domL i)=[]))))=false:=by
       by_cases h:g.length ≠ 0
       · rw [decide_eq_false (p:=g.length ≤ 64) (by omega),Bool.false_and,Bool.and_false]
       · rw [decide_eq_false h,Bool.false_and]
     rw [this,Bool.false_and] at k2
     rw [k2,Bool.and_false]
     (repeat' (first|(simp (disch:=omega) only [push_cast,↓zz,seval,hP,hge,hpg])|(with_reducible first|refine And.intro ?_ ?_|(first|refine Ab ?_ ?_|refine Aa ?_ ?_)<;>intro hc<;>(try simp only [push_cast] at hc))|omega|with_reducible intro _))
 · rw [List.drop_of_length_le hk,List.all_nil] at k2
   have hno:Cy i gs=decide ((gs.length:Int) ≤ 4):=by rw [Cy,k2,Bool.and_true]
   rw [hno]
   refine W_T ?_
   (repeat' (first|(simp (disch:=omega) only [push_cast,↓zz,seval,hP])|(with_reducible first|refine And.intro ?_ ?_|(first|refine Ab ?_ ?_|refine Aa ?_ ?_)<;>intro hc<;>(try simp only [push_cast] at hc))|omega|with_reducible intro _))
   all_goals trace_state
theorem Ig (d:Desc) (out:List Term) (gs:List (List Span)) (ho:∀ t ∈ out,t.parts.length < 1000000000000) (hG:GOk d.in_ gs) :
   PC Tryz.prog 54 [By d,Cz out,Ak gs] (.bool (De d out gs)):=by
 have hP:=Ae gs
 have hT:=Bb out
 refine A9 Rw ?_
 unfold Jm
 by_cases h4:64 < out.length
 · rw [De,decide_eq_false (by omega),Bool.false_and]
   (repeat' (first|(simp (disch:=omega) only [push_cast,↓zz,seval])|(with_reducible first|refine And.intro ?_ ?_|(first|refine Ab ?_ ?_|refine Aa ?_ ?_)<;>intro hc<;>(try simp only [push_cast] at hc))|omega|with_reducible intro _))
   refine Ao (Ap (fun (k:Nat)=>k=0) (fun k=>0)
     (fun k=>[(1,Cz out),(2,Ak gs),(3,.ptr 0 1 0 0),(7,.int .i64 k)]) (fun s=>[⟨6,1,true,[By d]⟩]) (fun env _=>[Aw 1 (env 3)]) 0 rfl ?_ ?_)
   · (repeat' (first|(simp (disch:=omega) only [push_cast,↓zz,seval,hP,hT])|(with_reducible first|refine And.intro ?_ ?_|(first|refine Ab ?_ ?_|refine Aa ?_ ?_)<;>intro hc<;>(try simp only [push_cast] at hc))|omega|with_reducible intro _))
   rintro k rfl
   refine W_T ?_
   (repeat' (first|(simp (disch:=omega) only [push_cast,↓zz,seval,hP,hT])|(with_reducible first|refine And.intro ?_ ?_|(first|refine Ab ?_ ?_|refine Aa ?_ ?_)<;>intro hc<;>(try simp only [push_cast] at hc))|omega|with_reducible intro _))
 rw [De,decide_eq_true (by omega),Bool.true_and]
 (repeat' (first|(simp (disch:=omega) only [push_cast,↓zz,seval])|(with_reducible first|refine And.intro ?_ ?_|(first|refine Ab ?_ ?_|refine Aa ?_ ?_)<;>intro hc<;>(try simp only [push_cast] at hc))|omega|with_reducible intro _))
 refine Ao (Ap (fun (k:Nat)=>k ≤ out.length∧(out.all fun t=>Qu t d.in_ d.out gs)=(out.drop k).all fun t=>Qu t d.in_ d.out gs) (fun k=>out.length - k)
   (fun k=>[(1,Cz out),(2,Ak gs),(3,.ptr 0 1 0 0),(7,.int .i64 k)]) (fun s=>[⟨6,1,true,[By d]⟩]) (fun env _=>[Aw 1 (env 3)]) 0 ⟨by simp,rfl⟩ ?_ ?_)
 · (repeat' (first|(simp (disch:=omega) only [push_cast,↓zz,seval,hP,hT])|(with_reducible first|refine And.intro ?_ ?_|(first|refine Ab ?_ ?_|refine Aa ?_ ?_)<;>intro hc<;>(try simp only [push_cast] at hc))|omega|with_reducible intro _))
 rintro k ⟨h1,h2⟩
 rcases Nat.lt_or_ge k out.length with hk|hk
 · rw [drop_at hk,List.all_cons] at h2
   have hF:=z94 (nth out k) d.in_ d.out gs (ho _ (Au hk)) hG
   rw [ze1 hG] at hF
   refine W_T ?_
   (repeat' (first|(simp (disch:=omega) only [push_cast,↓zz,seval,hP,hT])|(with_reducible first|refine And.intro ?_ ?_|(first|refine Ab ?_ ?_|refine Aa ?_ ?_)<;>intro hc<;>(try simp only [push_cast] at hc)|refine eK hF ?_|refine eQ hF ?_|refine eG hF ?_)|((with_reducible first|refine cK hF ?_|refine cQ hF ?_|refine cG hF ?_);(simp (disch:=omega) only [push_cast,↓zz,seval,hP,hT]);(fail_if_success with_reducible change False))|omega|with_reducible intro _))
   all_goals first
     | (rw [h2];simp [*];done)
     | exact ⟨k + 1,by push_cast,⟨by omega,by rw [h2];simp [*]⟩,by omega⟩
 · rw [List.drop_of_length_le hk,List.all_nil] at h2
   refine W_T ?_
   (repeat' (first|(simp (disch:=omega) only [push_cast,↓zz,seval,hP,hT,h2])|(with_reducible first|refine And.intro ?_ ?_|(first|refine Ab ?_ ?_|refine Aa ?_ ?_)<;>intro hc<;>(try simp only [push_cast] at hc))|omega|with_reducible intro _))
   all_goals trace_state
def sumT {α:Type} (f:α→Int) (l:List α):Int:=(l.map f).sum
theorem Wr {α:Type} [Inhabited α] {f:α→Int} {l:List α} {k:Nat} (h:k < l.length):sumT f (l.take (k + 1))=sumT f (l.take k) + f (nth l k):=by rw [take_at h];simp [sumT]
theorem Ff {α:Type} {f:α→Int} {B:Int} (hf:∀ x,0 ≤ f x∧f x ≤ B):∀ l:List α,0 ≤ sumT f l∧sumT f l ≤ l.length * B
 | []=>by simp [sumT]
 | x :: l=>by
   have h1:=Ff hf l
   have h2:=hf x
   have e:sumT f (x :: l)=f x + sumT f l:=by simp [sumT]
   have e2:((x :: l).length:Int) * B=l.length * B + B:=by push_cast [List.length_cons];rw [Int.add_mul,Int.one_mul]
   omega
theorem Ja {α:Type} {f:α→Int} (hf:∀ x,0 ≤ f x):∀ {l:List α} {x:α},x ∈ l→f x ≤ sumT f l
 | y :: l,x,h=>by
   have e:sumT f (y :: l)=f y + sumT f l:=by simp [sumT]
   have hn:∀ m:List α,0 ≤ sumT f m:=fun m=>by
     induction m with
     | nil=>simp [sumT]
     | cons z m ih =>
       have e:sumT f (z :: m)=f z + sumT f m:=by simp [sumT]
       have:=hf z
       omega
   have h1:=hf y
   have h2:=hn l
   rcases List.mem_cons.1 h with rfl|h
   · omega
   · have:=Ja hf h
     omega
def szG (g:List Span):Int:=min (g.length:Int) 4000
def szT (t:Term):Int:=1 + min (t.parts.length:Int) 4000
theorem z64 (g:List Span):0 ≤ szG g∧szG g ≤ 4000:=by unfold szG;omega
theorem z65 (t:Term):0 ≤ szT t∧szT t ≤ 4001:=by unfold szT;omega
def Hn (gs:List (List Span)) (out:List Term):Int:=if 100 < gs.length ∨ 200 < out.length then 4000 else 1 + sumT szG gs + sumT szT out
theorem T9 (gs:List (List Span)) (out:List Term):PC Tryz.prog 24 [Ak gs,Cz out] (.int .i64 (Hn gs out)):=by
 have hP:=Ae gs
 have hT:=Bb out
 refine A9 Yb ?_
 unfold M7
 by_cases hb:100 < gs.length ∨ 200 < out.length
 · rw [Hn,if_pos hb]
   (repeat' (first|(simp (disch:=omega) only [push_cast,↓zz,seval,hP,hT])|(with_reducible first|refine And.intro ?_ ?_|(first|refine Ab ?_ ?_|refine Aa ?_ ?_)<;>intro hc<;>(try simp only [push_cast] at hc))|omega|with_reducible intro _))
 rw [Hn,if_neg hb]
 (repeat' (first|(simp (disch:=omega) only [push_cast,↓zz,seval,hP,hT])|(with_reducible first|refine And.intro ?_ ?_|(first|refine Ab ?_ ?_|refine Aa ?_ ?_)<;>intro hc<;>(try simp only [push_cast] at hc))|omega|with_reducible intro _))
 refine Ao (Ap (fun (k:Nat)=>k ≤ gs.length) (fun k=>gs.length - k)
   (fun k=>[(0,Ak gs),(1,Cz out),(5,.int .i64 (1 + sumT szG (gs.take k))),(6,.int .i64 k)]) (fun k=>[]) (fun _ _=>[]) 0 (by simp) ?_ ?_)
 · have e0:sumT szG ([]:List (List Span))=0:=rfl
   (repeat' (first|(simp (disch:=omega) only [push_cast,↓zz,seval,hP,hT,e0])|(with_reducible first|refine And.intro ?_ ?_|(first|refine Ab ?_ ?_|refine Aa ?_ ?_)<;>intro hc<;>(try simp only [push_cast] at hc))|omega|with_reducible intro _))
 intro k hk
 have hb1:=Ff z64 (gs.take k)
 have hb2:((gs.take k).length:Int) * 4000 ≤ 100 * 4000:=Int.mul_le_mul_of_nonneg_right (by simp;omega) (by omega)
 rcases Nat.lt_or_ge k gs.length with hkl|hkl
 · have hst:=Wr (f:=szG) hkl
   have hx:=z64 (nth gs k)
   have hsz:min ((nth gs k).length:Int) 4000=szG (nth gs k):=rfl
   generalize hge:nth gs k=g at *
   generalize sumT szG (gs.take k)=n at *
   have hw:IntKind.i64.wrap (1 + n + szG g)=1 + n + szG g:=IntWalk.i64_in _ (by omega)
   refine W_T ?_
   (repeat' (first|(simp (disch:=omega) only [push_cast,↓zz,seval,hP,hT,hge,hsz,hw])|(with_reducible first|refine And.intro ?_ ?_|(first|refine Ab ?_ ?_|refine Aa ?_ ?_)<;>intro hc<;>(try simp only [push_cast] at hc))|omega|with_reducible intro _))
   all_goals
     refine ⟨k + 1,?_⟩
     (repeat' (first|(simp (disch:=omega) only [push_cast,↓zz,seval,hst])|(with_reducible first|refine And.intro ?_ ?_|(first|refine Ab ?_ ?_|refine Aa ?_ ?_)<;>intro hc<;>(try simp only [push_cast] at hc))|omega|with_reducible intro _))
   all_goals first
     | omega
     | trace_state
 · have hkt:gs.take k=gs:=List.take_of_length_le hkl
   rw [hkt] at hb1 hb2 ⊢
   generalize sumT szG gs=n at *
   refine W_T ?_
   (repeat' (first|(simp (disch:=omega) only [push_cast,↓zz,seval,hP,hT])|(with_reducible first|refine And.intro ?_ ?_|(first|refine Ab ?_ ?_|refine Aa ?_ ?_)<;>intro hc<;>(try simp only [push_cast] at hc))|omega|with_reducible intro _))
   refine Ao (Ap (fun (k:Nat)=>k ≤ out.length) (fun k=>out.length - k)
     (fun k=>[(1,Cz out),(5,.int .i64 (1 + n + sumT szT (out.take k))),(7,.int .i64 k)]) (fun k=>[]) (fun _ _=>[]) 0 (by simp) ?_ ?_)
   · have e0:sumT szT ([]:List Term)=0:=rfl
     (repeat' (first|(simp (disch:=omega) only [push_cast,↓zz,seval,hP,hT,e0,Int.add_zero])|(with_reducible first|refine And.intro ?_ ?_|(first|refine Ab ?_ ?_|refine Aa ?_ ?_)<;>intro hc<;>(try simp only [push_cast] at hc))|omega|with_reducible intro _))
   intro j hj
   have hb3:=Ff z65 (out.take j)
   have hb4:((out.take j).length:Int) * 4001 ≤ 200 * 4001:=Int.mul_le_mul_of_nonneg_right (by simp;omega) (by omega)
   rcases Nat.lt_or_ge j out.length with hjl|hjl
   · have hst:=Wr (f:=szT) hjl
     have hx:=z65 (nth out j)
     have hsz:szT (nth out j)=1 + min ((nth out j).parts.length:Int) 4000:=rfl
     generalize hge:nth out j=t at *
     generalize sumT szT (out.take j)=m at *
     generalize hze:min (t.parts.length:Int) 4000=z at *
     have hw:IntKind.i64.wrap (1 + n + m + 1)=1 + n + m + 1:=IntWalk.i64_in _ (by omega)
     have hw2:IntKind.i64.wrap (1 + n + m + 1 + z)=1 + n + m + 1 + z:=IntWalk.i64_in _ (by omega)
     refine W_T ?_
     (repeat' (first|(simp (disch:=omega) only [push_cast,↓zz,seval,hP,hT,hge,hze,hw,hw2])|(with_reducible first|refine And.intro ?_ ?_|(first|refine Ab ?_ ?_|refine Aa ?_ ?_)<;>intro hc<;>(try simp only [push_cast] at hc))|omega|with_reducible intro _))
     all_goals
       refine ⟨j + 1,?_⟩
       (repeat' (first|(simp (disch:=omega) only [push_cast,↓zz,seval,hst])|(with_reducible first|refine And.intro ?_ ?_|(first|refine Ab ?_ ?_|refine Aa ?_ ?_)<;>intro hc<;>(try simp only [push_cast] at hc))|omega|with_reducible intro _))
     all_goals first
       | omega
       | trace_state
   · have hjt:out.take j=out:=List.take_of_length_le hjl
     rw [hjt]
     refine W_T ?_
     (repeat' (first|(simp (disch:=omega) only [push_cast,↓zz,seval,hP,hT])|(with_reducible first|refine And.intro ?_ ?_|(first|refine Ab ?_ ?_|refine Aa ?_ ?_)<;>intro hc<;>(try simp only [push_cast] at hc))|omega|with_reducible intro _))
     all_goals trace_state
theorem My (gs:List (List Span)) (out:List Term):0 ≤ Hn gs out∧Hn gs out ≤ 2000000:=by
 unfold Hn
 have h1:=Ff z64 gs
 have h2:=Ff z65 out
 split
 · omega
 · omega
def szR (r:Rule):Int:=Hn r.guards r.out
def szF (f:Fc):Int:=Hn f.guards f.out
def N6 (d:Desc):Bool:=decide (d.rules.length ≤ 80∧d.finals.length ≤ 80) && decide (sumT szR d.rules + sumT szF d.finals ≤ 1500)
theorem z2t (d:Desc):PC Tryz.prog 7 [By d] (.bool (N6 d)):=by
 have hPr:=Bj d.rules
 have hPf:=Bg d.finals
 have sR:∀ r,0 ≤ szR r∧szR r ≤ 2000000:=fun r=>My _ _
 have sF:∀ f,0 ≤ szF f∧szF f ≤ 2000000:=fun r=>My _ _
 refine A9 U5 ?_
 unfold Ku
 by_cases hb:d.rules.length ≤ 80∧d.finals.length ≤ 80
 · rw [N6,decide_eq_true hb,Bool.true_and]
   (repeat' (first|(simp (disch:=omega) only [push_cast,↓zz,seval])|(with_reducible first|refine And.intro ?_ ?_|(first|refine Ab ?_ ?_|refine Aa ?_ ?_)<;>intro hc<;>(try simp only [push_cast] at hc))|omega|with_reducible intro _))
   refine Ao (Ap (fun (k:Nat)=>k ≤ d.rules.length) (fun k=>d.rules.length - k)
     (fun k=>[(1,.ptr 0 1 0 0),(3,.int .i64 (sumT szR (d.rules.take k))),(4,.int .i64 k)]) (fun k=>[⟨6,1,true,[By d]⟩]) (fun env _=>[Aw 1 (env 1)]) 0 (by simp) ?_ ?_)
   · have e0:sumT szR ([]:List Rule)=0:=rfl
     (repeat' (first|(simp (disch:=omega) only [push_cast,↓zz,seval,hPr,hPf,e0])|(with_reducible first|refine And.intro ?_ ?_|(first|refine Ab ?_ ?_|refine Aa ?_ ?_)<;>intro hc<;>(try simp only [push_cast] at hc))|omega|with_reducible intro _))
   intro k hk
   have hb1:=Ff sR (d.rules.take k)
   have hb2:((d.rules.take k).length:Int) * 2000000 ≤ 80 * 2000000:=Int.mul_le_mul_of_nonneg_right (by simp;omega) (by omega)
   rcases Nat.lt_or_ge k d.rules.length with hkl|hkl
   · have hst:=Wr (f:=szR) hkl
     have hx:=sR (nth d.rules k)
     have hS:=T9 (nth d.rules k).guards (nth d.rules k).out
     have hsz:Hn (nth d.rules k).guards (nth d.rules k).out=szR (nth d.rules k):=rfl
     rw [hsz] at hS
     generalize hge:nth d.rules k=r at *
     generalize sumT szR (d.rules.take k)=n at *
     have hw:IntKind.i64.wrap (n + szR r)=n + szR r:=IntWalk.i64_in _ (by omega)
     have hpg:=Ae r.guards
     have hpt:=Bb r.out
     refine W_T ?_
     (repeat' (first|(simp (disch:=omega) only [push_cast,↓zz,seval,hPr,hPf,hge,hw,hpg,hpt])|(with_reducible first|refine And.intro ?_ ?_|(first|refine Ab ?_ ?_|refine Aa ?_ ?_)<;>intro hc<;>(try simp only [push_cast] at hc)|refine eK hS ?_|refine eQ hS ?_|refine eG hS ?_)|((with_reducible first|refine cK hS ?_|refine cQ hS ?_|refine cG hS ?_);(simp (disch:=omega) only [push_cast,↓zz,seval,hPr,hPf,hge,hw,hpg,hpt]);(fail_if_success with_reducible change False))|omega|with_reducible intro _))
     all_goals
       refine ⟨k + 1,?_⟩
       (repeat' (first|(simp (disch:=omega) only [push_cast,↓zz,seval,hst])|(with_reducible first|refine And.intro ?_ ?_|(first|refine Ab ?_ ?_|refine Aa ?_ ?_)<;>intro hc<;>(try simp only [push_cast] at hc))|omega|with_reducible intro _))
   · have hkt:d.rules.take k=d.rules:=List.take_of_length_le hkl
     rw [hkt] at hb1 hb2 ⊢
     generalize sumT szR d.rules=n at *
     refine W_T ?_
     (repeat' (first|(simp (disch:=omega) only [push_cast,↓zz,seval,hPr,hPf])|(with_reducible first|refine And.intro ?_ ?_|(first|refine Ab ?_ ?_|refine Aa ?_ ?_)<;>intro hc<;>(try simp only [push_cast] at hc))|omega|with_reducible intro _))
     refine Ao (Ap (fun (k:Nat)=>k ≤ d.finals.length) (fun k=>d.finals.length - k)
       (fun k=>[(1,.ptr 0 1 0 0),(3,.int .i64 (n + sumT szF (d.finals.take k))),(5,.int .i64 k)]) (fun k=>[⟨6,1,true,[By d]⟩]) (fun env _=>[Aw 1 (env 1)]) 0 (by simp) ?_ ?_)
     · have e0:sumT szF ([]:List Fc)=0:=rfl
       (repeat' (first|(simp (disch:=omega) only [push_cast,↓zz,seval,hPr,hPf,e0,Int.add_zero])|(with_reducible first|refine And.intro ?_ ?_|(first|refine Ab ?_ ?_|refine Aa ?_ ?_)<;>intro hc<;>(try simp only [push_cast] at hc))|omega|with_reducible intro _))
     intro j hj
     have hb3:=Ff sF (d.finals.take j)
     have hb4:((d.finals.take j).length:Int) * 2000000 ≤ 80 * 2000000:=Int.mul_le_mul_of_nonneg_right (by simp;omega) (by omega)
     rcases Nat.lt_or_ge j d.finals.length with hjl|hjl
     · have hst:=Wr (f:=szF) hjl
       have hx:=sF (nth d.finals j)
       have hS:=T9 (nth d.finals j).guards (nth d.finals j).out
       have hsz:Hn (nth d.finals j).guards (nth d.finals j).out=szF (nth d.finals j):=rfl
       rw [hsz] at hS
       generalize hge:nth d.finals j=f at *
       generalize sumT szF (d.finals.take j)=m at *
       have hw:IntKind.i64.wrap (n + m + szF f)=n + m + szF f:=IntWalk.i64_in _ (by omega)
       have hpg:=Ae f.guards
       have hpt:=Bb f.out
       refine W_T ?_
       (repeat' (first|(simp (disch:=omega) only [push_cast,↓zz,seval,hPr,hPf,hge,hw,hpg,hpt])|(with_reducible first|refine And.intro ?_ ?_|(first|refine Ab ?_ ?_|refine Aa ?_ ?_)<;>intro hc<;>(try simp only [push_cast] at hc)|refine eK hS ?_|refine eQ hS ?_|refine eG hS ?_)|((with_reducible first|refine cK hS ?_|refine cQ hS ?_|refine cG hS ?_);(simp (disch:=omega) only [push_cast,↓zz,seval,hPr,hPf,hge,hw,hpg,hpt]);(fail_if_success with_reducible change False))|omega|with_reducible intro _))
       all_goals
         refine ⟨j + 1,?_⟩
         (repeat' (first|(simp (disch:=omega) only [push_cast,↓zz,seval,hst])|(with_reducible first|refine And.intro ?_ ?_|(first|refine Ab ?_ ?_|refine Aa ?_ ?_)<;>intro hc<;>(try simp only [push_cast] at hc))|omega|with_reducible intro _))
       all_goals first
         | omega
         | trace_state
     · have hjt:d.finals.take j=d.finals:=List.take_of_length_le hjl
       rw [hjt]
       refine W_T ?_
       (repeat' (first|(simp (disch:=omega) only [push_cast,↓zz,seval,hPr,hPf])|(with_reducible first|refine And.intro ?_ ?_|(first|refine Ab ?_ ?_|refine Aa ?_ ?_)<;>intro hc<;>(try simp only [push_cast] at hc))|omega|with_reducible intro _))
 · rw [N6,decide_eq_false hb,Bool.false_and]
   (repeat' (first|(simp (disch:=omega) only [push_cast,↓zz,seval])|(with_reducible first|refine And.intro ?_ ?_|(first|refine Ab ?_ ?_|refine Aa ?_ ?_)<;>intro hc<;>(try simp only [push_cast] at hc))|omega|with_reducible intro _))
   all_goals trace_state
theorem Ua {gs:List (List Span)} {out:List Term} (h:Hn gs out ≤ 1500):∀ t ∈ out,t.parts.length < 4000:=by
 unfold Hn at h
 split at h
 · omega
 · intro t ht
   have h1:=Ja (fun t=>(z65 t).1) ht
   have h2:=(Ff z64 gs).1
   have h3:szT t=1 + min (t.parts.length:Int) 4000:=rfl
   omega
theorem ze2 {d:Desc} (h:N6 d=true):Hh d:=by
 simp only [N6,Bool.and_eq_true,decide_eq_true_eq] at h
 have sR:∀ r,0 ≤ szR r∧szR r ≤ 2000000:=fun r=>My _ _
 have sF:∀ f,0 ≤ szF f∧szF f ≤ 2000000:=fun r=>My _ _
 have a1:=(Ff sR d.rules).1
 have a2:=(Ff sF d.finals).1
 refine ⟨fun r hr t ht=>?_,fun f hf t ht=>?_⟩
 · have h1:=Ja (fun r=>(sR r).1) hr
   have h2:szR r=Hn r.guards r.out:=rfl
   have:=Ua (gs:=r.guards) (out:=r.out) (by omega) t ht
   omega
 · have h1:=Ja (fun r=>(sF r).1) hf
   have h2:szF f=Hn f.guards f.out:=rfl
   have:=Ua (gs:=f.guards) (out:=f.out) (by omega) t ht
   omega
theorem znu {s:Int}:0 < ((domL s).length:Int) ↔ (s=1 ∨ s=2):=by
 unfold domL
 split
 · simp [*]
 · split
   · simp [*]
   · simp [*]
theorem zii {d:Desc}:Ms d=true ↔ (d.in_=1 ∨ d.in_=2)∧(d.out=1 ∨ d.out=2)∧(1 ≤ d.states∧d.states ≤ 1024)∧(0 ≤ d.start∧d.start < d.states)∧d.rules.length ≤ 4096∧d.finals.length ≤ 4096:=by
 simp only [Ms,Gw,Bool.and_eq_true,decide_eq_true_eq,znu]
 omega
def Rj (d:Desc) (r:Rule):Prop:=(0 ≤ r.from_∧r.from_ < d.states)∧(0 ≤ r.to_∧r.to_ < d.states)∧((r.guards.length:Int)=0∧r.eat=0 ∨ 1 ≤ r.eat∧r.eat ≤ r.guards.length)
theorem zij {d:Desc} {r:Rule}:Ek d r=true ↔ Rj d r∧Cy d.in_ r.guards=true∧De d r.out r.guards=true:=by
 simp only [Ek,Gw,eatB,Rj,Bool.and_eq_true,Bool.not_eq_true',decide_eq_true_eq,decide_eq_false_iff_not]
 constructor
 · rintro ⟨h1,h2,h3,h4,h5⟩
   exact ⟨⟨h1,h2,by omega⟩,h3,h5⟩
 · rintro ⟨⟨h1,h2,h4⟩,h3,h5⟩
   exact ⟨h1,h2,h3,by omega,h5⟩
theorem ze3 {d:Desc} {f:Fc}:C9 d f=true ↔ (0 ≤ f.from_∧f.from_ < d.states)∧Cy d.in_ f.guards=true∧De d f.out f.guards=true:=by
 simp only [C9,Gw,Bool.and_eq_true,decide_eq_true_eq]
structure Rk (d:Desc):Prop where
 fin:Hh d
 rg:∀ r ∈ d.rules,r.guards.length ≤ 9223372036854775807
 fg:∀ f ∈ d.finals,f.guards.length ≤ 9223372036854775807
structure Hold (p:Prop):Prop where
 get:p
theorem share {P Q:Prop} (main:Hold P→Q) (k:Hold P):Q:=main k
set_option maxHeartbeats 4000000 in
set_option maxRecDepth 8000 in
theorem z2u (d:Desc) (hs:Rk d):PC Tryz.prog 29 [By d] (.tup [.int .i64 (Dz d).1,.int .i64 (Dz d).2]):=by
 have hPr:=Bj d.rules
 have hPf:=Bg d.finals
 have hhi:=@zii d
 refine A9 Va ?_
 unfold Kz
 cases hh:Ms d with
 | false =>
   rw [Dz,if_pos hh]
   have hno:¬ ((d.in_=1 ∨ d.in_=2)∧(d.out=1 ∨ d.out=2)∧(1 ≤ d.states∧d.states ≤ 1024)∧(0 ≤ d.start∧d.start < d.states)∧d.rules.length ≤ 4096∧d.finals.length ≤ 4096):=fun h=>by rw [hhi.2 h] at hh;cases hh
   clear hhi
   (repeat' (first|(simp (disch:=omega) only [push_cast,↓zz,seval])|(with_reducible first|refine And.intro ?_ ?_|(first|refine Ab ?_ ?_|refine Aa ?_ ?_)<;>intro hc<;>(try simp only [push_cast] at hc))|omega|with_reducible intro _))
   all_goals first
     | (exfalso;omega)
     | ((repeat' (first|(simp (disch:=omega) only [push_cast,↓zz,seval,Bo])|omega|(with_reducible refine And.intro ?_ ?_)));done)
     | trace_state
 | true =>
 obtain ⟨i1,i2,i3,i4,i5,i6⟩:=hhi.1 hh
 clear hhi
 have hW:Dz d=match E0 (Ek d) d.rules 0 with
   | some i=>(2,(i:Int))
   | none=>match E0 (C9 d) d.finals 0 with
     | some i=>(3,(i:Int))
     | none=>if (@decide (cycP d.rules d.states.toNat) (Classical.propDecidable _))=true then (4,0) else (0,0):=by
   rw [Dz,if_neg (by simp [hh])]
   cases E0 (Ek d) d.rules 0 with
   | some i=>rfl
   | none =>
     cases E0 (C9 d) d.finals 0 with
     | some i=>rfl
     | none =>
       by_cases hc:cycP d.rules d.states.toNat
       · simp only [if_pos hc,@decide_eq_true _ (Classical.propDecidable _) hc,if_true]
       · simp only [if_neg hc,@decide_eq_false _ (Classical.propDecidable _) hc,Bool.false_eq_true,if_false]
 apply share
 · intro key
   (repeat' (first|(simp (disch:=omega) only [push_cast,↓zz,seval])|(with_reducible first|refine And.intro ?_ ?_|(first|refine Ab ?_ ?_|refine Aa ?_ ?_)<;>intro hc<;>(try simp only [push_cast] at hc))|omega|with_reducible intro _))
   all_goals first
     | (exfalso;omega)
     | skip
   all_goals
     refine Ao (Ap (fun (k:Nat)=>k ≤ d.rules.length∧E0 (Ek d) d.rules 0=E0 (Ek d) (d.rules.drop k) k) (fun k=>d.rules.length - k)
       (fun k=>[(1,.ptr 0 1 0 0),(4,.int .i64 k)]) (fun k=>[⟨6,1,true,[By d]⟩]) (fun env _=>[Aw 1 (env 1)]) 0 ⟨by simp,rfl⟩ ?_ ?_)
     · (repeat' (first|(simp (disch:=omega) only [push_cast,↓zz,seval,hPr,hPf])|(with_reducible first|refine And.intro ?_ ?_|(first|refine Ab ?_ ?_|refine Aa ?_ ?_)<;>intro hc<;>(try simp only [push_cast] at hc))|omega|with_reducible intro _))
     exact key.get
 refine ⟨?_⟩
 rintro k ⟨k1,k2⟩
 rcases Nat.lt_or_ge k d.rules.length with hk|hk
 · have hrm:=Au hk
   have hrf:=hs.fin.1 _ hrm
   have hrg:=hs.rg _ hrm
   rw [Oj hk] at k2
   have hiff:=@zij d (nth d.rules k)
   have hG:=N5 d.in_ (nth d.rules k).guards hrg
   generalize hre:nth d.rules k=r at *
   have hpg:=Ae r.guards
   have hpt:=Bb r.out
   have hbad:¬ Rj d r→Dz d=(2,(k:Int)):=fun hA=>by
     have hb:Ek d r=false:=by
       cases h:Ek d r with
       | false=>rfl
       | true=>exact absurd (hiff.1 h).1 hA
     rw [hb] at k2
     simp only [Bool.false_eq_true,if_false] at k2
     rw [hW,k2]
   refine W_T ?_
   by_cases f1:r.from_ < 0
   · rw [hbad fun hA=>by unfold Rj at hA;omega]
     have g1:=eq_true f1
     clear hiff hbad hW
     (repeat' (first|(simp (disch:=omega) only [push_cast,↓zz,seval,hPr,hPf,hre,hpg,hpt,g1])|(with_reducible first|refine And.intro ?_ ?_|(first|refine Ab ?_ ?_|refine Aa ?_ ?_)<;>intro hc<;>(try simp only [push_cast] at hc))|omega|with_reducible intro _))
   by_cases f2:d.states ≤ r.from_
   · rw [hbad fun hA=>by unfold Rj at hA;omega]
     have g1:=eq_false f1
     have g2:=eq_true f2
     clear hiff hbad hW
     (repeat' (first|(simp (disch:=omega) only [push_cast,↓zz,seval,hPr,hPf,hre,hpg,hpt,g1,g2])|(with_reducible first|refine And.intro ?_ ?_|(first|refine Ab ?_ ?_|refine Aa ?_ ?_)<;>intro hc<;>(try simp only [push_cast] at hc))|omega|with_reducible intro _))
   by_cases f3:r.to_ < 0
   · rw [hbad fun hA=>by unfold Rj at hA;omega]
     have g1:=eq_false f1
     have g2:=eq_false f2
     have g3:=eq_true f3
     clear hiff hbad hW
     (repeat' (first|(simp (disch:=omega) only [push_cast,↓zz,seval,hPr,hPf,hre,hpg,hpt,g1,g2,g3])|(with_reducible first|refine And.intro ?_ ?_|(first|refine Ab ?_ ?_|refine Aa ?_ ?_)<;>intro hc<;>(try simp only [push_cast] at hc))|omega|with_reducible intro _))
   by_cases f4:d.states ≤ r.to_
   · rw [hbad fun hA=>by unfold Rj at hA;omega]
     have g1:=eq_false f1
     have g2:=eq_false f2
     have g3:=eq_false f3
     have g4:=eq_true f4
     clear hiff hbad hW
     (repeat' (first|(simp (disch:=omega) only [push_cast,↓zz,seval,hPr,hPf,hre,hpg,hpt,g1,g2,g3,g4])|(with_reducible first|refine And.intro ?_ ?_|(first|refine Ab ?_ ?_|refine Aa ?_ ?_)<;>intro hc<;>(try simp only [push_cast] at hc))|omega|with_reducible intro _))
   have g1:=eq_false f1
   have g2:=eq_false f2
   have g3:=eq_false f3
   have g4:=eq_false f4
   have hE:(((r.guards.length:Int)=0)=True∧(r.eat=0)=True∧(1 ≤ r.eat)=False) ∨ (((r.guards.length:Int)=0)=False∧(1 ≤ r.eat)=True∧(r.eat ≤ (r.guards.length:Int))=True) ∨
       ¬ Rj d r∧(((r.guards.length:Int)=0)=True∧(r.eat=0)=False∧(1 ≤ r.eat)=False ∨ ((r.guards.length:Int)=0)=True∧(r.eat=0)=False∧(1 ≤ r.eat)=True∧(r.eat ≤ (r.guards.length:Int))=False ∨
         ((r.guards.length:Int)=0)=False∧(1 ≤ r.eat)=False ∨ ((r.guards.length:Int)=0)=False∧(1 ≤ r.eat)=True∧(r.eat ≤ (r.guards.length:Int))=False):=by
     simp only [eq_iff_iff,iff_true,iff_false,Rj]
     omega
   have hgood:((((r.guards.length:Int)=0)=True∧(r.eat=0)=True∧(1 ≤ r.eat)=False) ∨ (((r.guards.length:Int)=0)=False∧(1 ≤ r.eat)=True∧(r.eat ≤ (r.guards.length:Int))=True))→Rj d r:=by
     simp only [eq_iff_iff,iff_true,iff_false,Rj]
     omega
   rcases hE with hE|hE|⟨hA,hE⟩
   · have hA:=hgood (.inl hE)
     obtain ⟨e1,e2,e3⟩:=hE
     clear hbad hgood
     cases hg:Cy d.in_ r.guards with
     | false =>
       rw [hg] at hG
       have hb:Ek d r=false:=by
         cases h:Ek d r with
         | false=>rfl
         | true=>have:=(hiff.1 h).2.1;rw [hg] at this;cases this
       rw [hb] at k2
       simp only [Bool.false_eq_true,if_false] at k2
       rw [hW,k2]
       clear hiff hW hA
       (repeat' (first|(simp (disch:=omega) only [push_cast,↓zz,seval,hPr,hPf,hre,hpg,hpt,g1,g2,g3,g4,e1,e2,e3])|(with_reducible first|refine And.intro ?_ ?_|(first|refine Ab ?_ ?_|refine Aa ?_ ?_)<;>intro hc<;>(try simp only [push_cast] at hc)|refine eK hG ?_|refine eQ hG ?_|refine eG hG ?_)|((with_reducible first|refine cK hG ?_|refine cQ hG ?_|refine cG hG ?_);(simp (disch:=omega) only [push_cast,↓zz,seval,hPr,hPf,hre,hpg,hpt,g1,g2,g3,g4,e1,e2,e3]);(fail_if_success with_reducible change False))|omega|with_reducible intro _))
     | true =>
       rw [hg] at hG
       have hWr:=Ig d r.out r.guards hrf (Ri hg)
       have hb:Ek d r=De d r.out r.guards:=by
         rw [Bool.eq_iff_iff,hiff]
         exact ⟨fun h=>h.2.2,fun h=>⟨hA,hg,h⟩⟩
       rw [hb] at k2
       cases hw:De d r.out r.guards with
       | false =>
         rw [hw] at hWr k2
         simp only [Bool.false_eq_true,if_false] at k2
         rw [hW,k2]
         clear hiff hW hA
         (repeat' (first|(simp (disch:=omega) only [push_cast,↓zz,seval,hPr,hPf,hre,hpg,hpt,g1,g2,g3,g4,e1,e2,e3])|(with_reducible first|refine And.intro ?_ ?_|(first|refine Ab ?_ ?_|refine Aa ?_ ?_)<;>intro hc<;>(try simp only [push_cast] at hc)|refine eK hG ?_|refine eQ hG ?_|refine eG hG ?_|refine eK hWr ?_|refine eQ hWr ?_|refine eG hWr ?_)|((with_reducible first|refine cK hG ?_|refine cQ hG ?_|refine cG hG ?_);(simp (disch:=omega) only [push_cast,↓zz,seval,hPr,hPf,hre,hpg,hpt,g1,g2,g3,g4,e1,e2,e3]);(fail_if_success with_reducible change False))|((with_reducible first|refine cK hWr ?_|refine cQ hWr ?_|refine cG hWr ?_);(simp (disch:=omega) only [push_cast,↓zz,seval,hPr,hPf,hre,hpg,hpt,g1,g2,g3,g4,e1,e2,e3]);(fail_if_success with_reducible change False))|omega|with_reducible intro _))
       | true =>
         rw [hw] at hWr k2
         simp only [if_true] at k2
         clear hiff hA
         (repeat' (first|(simp (disch:=omega) only [push_cast,↓zz,seval,hPr,hPf,hre,hpg,hpt,g1,g2,g3,g4,e1,e2,e3])|(with_reducible first|refine And.intro ?_ ?_|(first|refine Ab ?_ ?_|refine Aa ?_ ?_)<;>intro hc<;>(try simp only [push_cast] at hc)|refine eK hG ?_|refine eQ hG ?_|refine eG hG ?_|refine eK hWr ?_|refine eQ hWr ?_|refine eG hWr ?_)|((with_reducible first|refine cK hG ?_|refine cQ hG ?_|refine cG hG ?_);(simp (disch:=omega) only [push_cast,↓zz,seval,hPr,hPf,hre,hpg,hpt,g1,g2,g3,g4,e1,e2,e3]);(fail_if_success with_reducible change False))|((with_reducible first|refine cK hWr ?_|refine cQ hWr ?_|refine cG hWr ?_);(simp (disch:=omega) only [push_cast,↓zz,seval,hPr,hPf,hre,hpg,hpt,g1,g2,g3,g4,e1,e2,e3]);(fail_if_success with_reducible change False))|omega|with_reducible intro _))
         all_goals first
           | exact ⟨k + 1,by push_cast,⟨by omega,k2⟩,by omega⟩
           | trace_state
   · have hA:=hgood (.inr hE)
     obtain ⟨e1,e2,e3⟩:=hE
     clear hbad hgood
     cases hg:Cy d.in_ r.guards with
     | false =>
       rw [hg] at hG
       have hb:Ek d r=false:=by
         cases h:Ek d r with
         | false=>rfl
         | true=>have:=(hiff.1 h).2.1;rw [hg] at this;cases this
       rw [hb] at k2
       simp only [Bool.false_eq_true,if_false] at k2
       rw [hW,k2]
       clear hiff hW hA
       (repeat' (first|(simp (disch:=omega) only [push_cast,↓zz,seval,hPr,hPf,hre,hpg,hpt,g1,g2,g3,g4,e1,e2,e3])|(with_reducible first|refine And.intro ?_ ?_|(first|refine Ab ?_ ?_|refine Aa ?_ ?_)<;>intro hc<;>(try simp only [push_cast] at hc)|refine eK hG ?_|refine eQ hG ?_|refine eG hG ?_)|((with_reducible first|refine cK hG ?_|refine cQ hG ?_|refine cG hG ?_);(simp (disch:=omega) only [push_cast,↓zz,seval,hPr,hPf,hre,hpg,hpt,g1,g2,g3,g4,e1,e2,e3]);(fail_if_success with_reducible change False))|omega|with_reducible intro _))
     | true =>
       rw [hg] at hG
       have hWr:=Ig d r.out r.guards hrf (Ri hg)
       have hb:Ek d r=De d r.out r.guards:=by
         rw [Bool.eq_iff_iff,hiff]
         exact ⟨fun h=>h.2.2,fun h=>⟨hA,hg,h⟩⟩
       rw [hb] at k2
       cases hw:De d r.out r.guards with
       | false =>
         rw [hw] at hWr k2
         simp only [Bool.false_eq_true,if_false] at k2
         rw [hW,k2]
         clear hiff hW hA
         (repeat' (first|(simp (disch:=omega) only [push_cast,↓zz,seval,hPr,hPf,hre,hpg,hpt,g1,g2,g3,g4,e1,e2,e3])|(with_reducible first|refine And.intro ?_ ?_|(first|refine Ab ?_ ?_|refine Aa ?_ ?_)<;>intro hc<;>(try simp only [push_cast] at hc)|refine eK hG ?_|refine eQ hG ?_|refine eG hG ?_|refine eK hWr ?_|refine eQ hWr ?_|refine eG hWr ?_)|((with_reducible first|refine cK hG ?_|refine cQ hG ?_|refine cG hG ?_);(simp (disch:=omega) only [push_cast,↓zz,seval,hPr,hPf,hre,hpg,hpt,g1,g2,g3,g4,e1,e2,e3]);(fail_if_success with_reducible change False))|((with_reducible first|refine cK hWr ?_|refine cQ hWr ?_|refine cG hWr ?_);(simp (disch:=omega) only [push_cast,↓zz,seval,hPr,hPf,hre,hpg,hpt,g1,g2,g3,g4,e1,e2,e3]);(fail_if_success with_reducible change False))|omega|with_reducible intro _))
       | true =>
         rw [hw] at hWr k2
         simp only [if_true] at k2
         clear hiff hA
         (repeat' (first|(simp (disch:=omega) only [push_cast,↓zz,seval,hPr,hPf,hre,hpg,hpt,g1,g2,g3,g4,e1,e2,e3])|(with_reducible first|refine And.intro ?_ ?_|(first|refine Ab ?_ ?_|refine Aa ?_ ?_)<;>intro hc<;>(try simp only [push_cast] at hc)|refine eK hG ?_|refine eQ hG ?_|refine eG hG ?_|refine eK hWr ?_|refine eQ hWr ?_|refine eG hWr ?_)|((with_reducible first|refine cK hG ?_|refine cQ hG ?_|refine cG hG ?_);(simp (disch:=omega) only [push_cast,↓zz,seval,hPr,hPf,hre,hpg,hpt,g1,g2,g3,g4,e1,e2,e3]);(fail_if_success with_reducible change False))|((with_reducible first|refine cK hWr ?_|refine cQ hWr ?_|refine cG hWr ?_);(simp (disch:=omega) only [push_cast,↓zz,seval,hPr,hPf,hre,hpg,hpt,g1,g2,g3,g4,e1,e2,e3]);(fail_if_success with_reducible change False))|omega|with_reducible intro _))
         all_goals first
           | exact ⟨k + 1,by push_cast,⟨by omega,k2⟩,by omega⟩
           | trace_state
   · rw [hbad hA]
     clear hiff hW hA hbad hgood
     rcases hE with ⟨e1,e2,e3⟩|⟨e1,e2,e3,e4⟩|⟨e1,e2⟩|⟨e1,e2,e3⟩
     · (repeat' (first|(simp (disch:=omega) only [push_cast,↓zz,seval,hPr,hPf,hre,hpg,hpt,g1,g2,g3,g4,e1,e2,e3])|(with_reducible first|refine And.intro ?_ ?_|(first|refine Ab ?_ ?_|refine Aa ?_ ?_)<;>intro hc<;>(try simp only [push_cast] at hc))|omega|with_reducible intro _))
     · (repeat' (first|(simp (disch:=omega) only [push_cast,↓zz,seval,hPr,hPf,hre,hpg,hpt,g1,g2,g3,g4,e1,e2,e3,e4])|(with_reducible first|refine And.intro ?_ ?_|(first|refine Ab ?_ ?_|refine Aa ?_ ?_)<;>intro hc<;>(try simp only [push_cast] at hc))|omega|with_reducible intro _))
     · (repeat' (first|(simp (disch:=omega) only [push_cast,↓zz,seval,hPr,hPf,hre,hpg,hpt,g1,g2,g3,g4,e1,e2])|(with_reducible first|refine And.intro ?_ ?_|(first|refine Ab ?_ ?_|refine Aa ?_ ?_)<;>intro hc<;>(try simp only [push_cast] at hc))|omega|with_reducible intro _))
     · (repeat' (first|(simp (disch:=omega) only [push_cast,↓zz,seval,hPr,hPf,hre,hpg,hpt,g1,g2,g3,g4,e1,e2,e3])|(with_reducible first|refine And.intro ?_ ?_|(first|refine Ab ?_ ?_|refine Aa ?_ ?_)<;>intro hc<;>(try simp only [push_cast] at hc))|omega|with_reducible intro _))
 · rw [List.drop_of_length_le hk,E0] at k2
   have hall:=Gz k2
   have hC:=z2n d ⟨i3,i5,fun r hr=>Wk (hall r hr)⟩
   have hcs:=zh1 (l:=d.rules) (n:=d.states.toNat) fun r hr=>by
     have:=Wk (hall r hr)
     omega
   rw [k2] at hW
   simp only at hW
   refine W_T ?_
   (repeat' (first|(simp (disch:=omega) only [push_cast,↓zz,seval,hPr,hPf])|(with_reducible first|refine And.intro ?_ ?_|(first|refine Ab ?_ ?_|refine Aa ?_ ?_)<;>intro hc<;>(try simp only [push_cast] at hc))|omega|with_reducible intro _))
   refine Ao (Ap (fun (k:Nat)=>k ≤ d.finals.length∧E0 (C9 d) d.finals 0=E0 (C9 d) (d.finals.drop k) k) (fun k=>d.finals.length - k)
     (fun k=>[(1,.ptr 0 1 0 0),(8,.int .i64 k)]) (fun k=>[⟨6,1,true,[By d]⟩]) (fun env _=>[Aw 1 (env 1)]) 0 ⟨by simp,rfl⟩ ?_ ?_)
   · (repeat' (first|(simp (disch:=omega) only [push_cast,↓zz,seval,hPr,hPf])|(with_reducible first|refine And.intro ?_ ?_|(first|refine Ab ?_ ?_|refine Aa ?_ ?_)<;>intro hc<;>(try simp only [push_cast] at hc))|omega|with_reducible intro _))
   rintro j ⟨j1,j2⟩
   rcases Nat.lt_or_ge j d.finals.length with hj|hj
   · have hfm:=Au hj
     have hff:=hs.fin.2 _ hfm
     have hfg:=hs.fg _ hfm
     rw [Oj hj] at j2
     have hiff:=@ze3 d (nth d.finals j)
     have hG:=N5 d.in_ (nth d.finals j).guards hfg
     generalize hfe:nth d.finals j=f at *
     have hpg:=Ae f.guards
     have hpt:=Bb f.out
     have hbad:C9 d f=false→Dz d=(3,(j:Int)):=fun hb=>by
       rw [hb] at j2
       simp only [Bool.false_eq_true,if_false] at j2
       rw [hW,j2]
     have hno:¬ (0 ≤ f.from_∧f.from_ < d.states)→C9 d f=false:=fun hA=>by
       cases h:C9 d f with
       | false=>rfl
       | true=>exact absurd (hiff.1 h).1 hA
     refine W_T ?_
     by_cases f1:f.from_ < 0
     · rw [hbad (hno (by omega))]
       have g1:=eq_true f1
       clear hiff hbad hW hno
       (repeat' (first|(simp (disch:=omega) only [push_cast,↓zz,seval,hPr,hPf,hfe,hpg,hpt,g1])|(with_reducible first|refine And.intro ?_ ?_|(first|refine Ab ?_ ?_|refine Aa ?_ ?_)<;>intro hc<;>(try simp only [push_cast] at hc))|omega|with_reducible intro _))
     by_cases f2:d.states ≤ f.from_
     · rw [hbad (hno (by omega))]
       have g1:=eq_false f1
       have g2:=eq_true f2
       clear hiff hbad hW hno
       (repeat' (first|(simp (disch:=omega) only [push_cast,↓zz,seval,hPr,hPf,hfe,hpg,hpt,g1,g2])|(with_reducible first|refine And.intro ?_ ?_|(first|refine Ab ?_ ?_|refine Aa ?_ ?_)<;>intro hc<;>(try simp only [push_cast] at hc))|omega|with_reducible intro _))
     have g1:=eq_false f1
     have g2:=eq_false f2
     cases hg:Cy d.in_ f.guards with
     | false =>
       rw [hg] at hG
       have hb:C9 d f=false:=by
         cases h:C9 d f with
         | false=>rfl
         | true=>have:=(hiff.1 h).2.1;rw [hg] at this;cases this
       rw [hbad hb]
       clear hiff hbad hW hno
       (repeat' (first|(simp (disch:=omega) only [push_cast,↓zz,seval,hPr,hPf,hfe,hpg,hpt,g1,g2])|(with_reducible first|refine And.intro ?_ ?_|(first|refine Ab ?_ ?_|refine Aa ?_ ?_)<;>intro hc<;>(try simp only [push_cast] at hc)|refine eK hG ?_|refine eQ hG ?_|refine eG hG ?_)|((with_reducible first|refine cK hG ?_|refine cQ hG ?_|refine cG hG ?_);(simp (disch:=omega) only [push_cast,↓zz,seval,hPr,hPf,hfe,hpg,hpt,g1,g2]);(fail_if_success with_reducible change False))|omega|with_reducible intro _))
     | true =>
       rw [hg] at hG
       have hWr:=Ig d f.out f.guards hff (Ri hg)
       have hb:C9 d f=De d f.out f.guards:=by
         rw [Bool.eq_iff_iff,hiff]
         exact ⟨fun h=>h.2.2,fun h=>⟨by omega,hg,h⟩⟩
       rw [hb] at j2 hbad
       cases hw:De d f.out f.guards with
       | false =>
         rw [hw] at hWr
         rw [hbad hw]
         clear hiff hbad hW hno
         (repeat' (first|(simp (disch:=omega) only [push_cast,↓zz,seval,hPr,hPf,hfe,hpg,hpt,g1,g2])|(with_reducible first|refine And.intro ?_ ?_|(first|refine Ab ?_ ?_|refine Aa ?_ ?_)<;>intro hc<;>(try simp only [push_cast] at hc)|refine eK hG ?_|refine eQ hG ?_|refine eG hG ?_|refine eK hWr ?_|refine eQ hWr ?_|refine eG hWr ?_)|((with_reducible first|refine cK hG ?_|refine cQ hG ?_|refine cG hG ?_);(simp (disch:=omega) only [push_cast,↓zz,seval,hPr,hPf,hfe,hpg,hpt,g1,g2]);(fail_if_success with_reducible change False))|((with_reducible first|refine cK hWr ?_|refine cQ hWr ?_|refine cG hWr ?_);(simp (disch:=omega) only [push_cast,↓zz,seval,hPr,hPf,hfe,hpg,hpt,g1,g2]);(fail_if_success with_reducible change False))|omega|with_reducible intro _))
       | true =>
         rw [hw] at hWr j2
         simp only [if_true] at j2
         clear hiff hbad hno
         (repeat' (first|(simp (disch:=omega) only [push_cast,↓zz,seval,hPr,hPf,hfe,hpg,hpt,g1,g2])|(with_reducible first|refine And.intro ?_ ?_|(first|refine Ab ?_ ?_|refine Aa ?_ ?_)<;>intro hc<;>(try simp only [push_cast] at hc)|refine eK hG ?_|refine eQ hG ?_|refine eG hG ?_|refine eK hWr ?_|refine eQ hWr ?_|refine eG hWr ?_)|((with_reducible first|refine cK hG ?_|refine cQ hG ?_|refine cG hG ?_);(simp (disch:=omega) only [push_cast,↓zz,seval,hPr,hPf,hfe,hpg,hpt,g1,g2]);(fail_if_success with_reducible change False))|((with_reducible first|refine cK hWr ?_|refine cQ hWr ?_|refine cG hWr ?_);(simp (disch:=omega) only [push_cast,↓zz,seval,hPr,hPf,hfe,hpg,hpt,g1,g2]);(fail_if_success with_reducible change False))|omega|with_reducible intro _))
         all_goals first
           | exact ⟨j + 1,by push_cast,⟨by omega,j2⟩,by omega⟩
           | trace_state
   · rw [List.drop_of_length_le hj,E0] at j2
     rw [j2] at hW
     simp only at hW
     have hdc:@decide (cycP d.rules d.states.toNat) (Classical.propDecidable _)=cycR d.rules d.states.toNat:=by
       rw [Bool.eq_iff_iff,hcs]
       exact @decide_eq_true_iff _ (Classical.propDecidable _)
     rw [hdc] at hW
     clear hcs hdc
     generalize cycR d.rules d.states.toNat=c at *
     refine W_T ?_
     rw [hW]
     cases c
     · (repeat' (first|(simp (disch:=omega) only [push_cast,↓zz,seval,hPr,hPf])|(with_reducible first|refine And.intro ?_ ?_|(first|refine Ab ?_ ?_|refine Aa ?_ ?_)<;>intro hc<;>(try simp only [push_cast] at hc)|refine eK hC ?_|refine eQ hC ?_|refine eG hC ?_)|((with_reducible first|refine cK hC ?_|refine cQ hC ?_|refine cG hC ?_);(simp (disch:=omega) only [push_cast,↓zz,seval,hPr,hPf]);(fail_if_success with_reducible change False))|omega|with_reducible intro _))
     · (repeat' (first|(simp (disch:=omega) only [push_cast,↓zz,seval,hPr,hPf])|(with_reducible first|refine And.intro ?_ ?_|(first|refine Ab ?_ ?_|refine Aa ?_ ?_)<;>intro hc<;>(try simp only [push_cast] at hc)|refine eK hC ?_|refine eQ hC ?_|refine eG hC ?_)|((with_reducible first|refine cK hC ?_|refine cQ hC ?_|refine cG hC ?_);(simp (disch:=omega) only [push_cast,↓zz,seval,hPr,hPf]);(fail_if_success with_reducible change False))|omega|with_reducible intro _))
       all_goals trace_state
theorem G5 {α:Type} [DecidableEq α] [Inhabited α] {l m:List α} {k:Nat} (h1:k < l.length) (h2:k < m.length):decide (l.drop k=m.drop k)=(decide (nth l k=nth m k) && decide (l.drop (k + 1)=m.drop (k + 1))):=by
 rw [drop_at h1,drop_at h2]
 simp
theorem Jv (a b:List (List Span)) (hl:a.length ≤ 1000000000000) (ha:∀ l ∈ a,l.length ≤ 1000000000000):PC Tryz.prog 31 [Ak a,Ak b] (.bool (decide (a=b))):=by
 refine A9 N9 ?_
 unfold Hl
 (repeat' (first|(simp (disch:=omega) only [push_cast,↓zz,seval])|(with_reducible first|refine And.intro ?_ ?_|(first|refine Ab ?_ ?_|refine Aa ?_ ?_)<;>intro hc<;>(try simp only [push_cast] at hc))|omega|with_reducible intro _))
 · have:a ≠ b:=by intro h;subst h;first|omega|simp_all
   simp [this]
 refine Ao (Ap (fun (k:Nat)=>k ≤ a.length∧decide (a=b)=decide (a.drop k=b.drop k)) (fun k=>a.length - k)
   (fun k=>[(0,Ak a),(1,Ak b),(5,.int .i64 k)]) (fun _=>[]) (fun _ _=>[]) 0 (by simp) ?_ ?_)
 · (repeat' (first|(simp (disch:=omega) only [push_cast,↓zz,seval])|(with_reducible first|refine And.intro ?_ ?_|(first|refine Ab ?_ ?_|refine Aa ?_ ?_)<;>intro hc<;>(try simp only [push_cast] at hc))|omega|with_reducible intro _))
 rintro k ⟨hk,hr⟩
 refine W_T ?_
 (repeat' (first|(simp (disch:=omega) only [push_cast,↓zz,seval])|(with_reducible first|refine And.intro ?_ ?_|(first|refine Ab ?_ ?_|refine Aa ?_ ?_)<;>intro hc<;>(try simp only [push_cast] at hc))|(have q_:=Mq (nth a k) (nth b k) (ha _ (Au (by omega)));(with_reducible first|refine eK q_ ?_|refine eQ q_ ?_|refine eG q_ ?_);clear q_)|(have q_:=Mq (nth a k) (nth b k) (ha _ (Au (by omega)));(with_reducible first|refine cK q_ ?_|refine cQ q_ ?_|refine cG q_ ?_);clear q_;(simp (disch:=omega) only [push_cast,↓zz,seval]);(fail_if_success with_reducible change False))|omega|with_reducible intro _))
 all_goals first
   | (rw [hr,List.drop_of_length_le (by omega),List.drop_of_length_le (by omega)];simp;done)
   | (rw [hr,G5 (by omega) (by omega)];simp_all;done)
   | (refine ⟨k + 1,?_⟩
      (repeat' (first|(simp (disch:=omega) only [push_cast,↓zz,seval])|(with_reducible first|refine And.intro ?_ ?_|(first|refine Ab ?_ ?_|refine Aa ?_ ?_)<;>intro hc<;>(try simp only [push_cast] at hc))|omega|with_reducible intro _))
      rw [hr,G5 (by omega) (by omega)];simp_all;done)
   | trace_state
theorem Ih (a b:List Term) (hl:a.length ≤ 1000000000000) (ha:∀ t ∈ a,t.parts.length ≤ 1000000000000):PC Tryz.prog 32 [Cz a,Cz b] (.bool (decide (a=b))):=by
 refine A9 Mf ?_
 unfold Gm
 (repeat' (first|(simp (disch:=omega) only [push_cast,↓zz,seval])|(with_reducible first|refine And.intro ?_ ?_|(first|refine Ab ?_ ?_|refine Aa ?_ ?_)<;>intro hc<;>(try simp only [push_cast] at hc))|omega|with_reducible intro _))
 · have:a ≠ b:=by intro h;subst h;first|omega|simp_all
   simp [this]
 refine Ao (Ap (fun (k:Nat)=>k ≤ a.length∧decide (a=b)=decide (a.drop k=b.drop k)) (fun k=>a.length - k)
   (fun k=>[(0,Cz a),(1,Cz b),(5,.int .i64 k)]) (fun _=>[]) (fun _ _=>[]) 0 (by simp) ?_ ?_)
 · (repeat' (first|(simp (disch:=omega) only [push_cast,↓zz,seval])|(with_reducible first|refine And.intro ?_ ?_|(first|refine Ab ?_ ?_|refine Aa ?_ ?_)<;>intro hc<;>(try simp only [push_cast] at hc))|omega|with_reducible intro _))
 rintro k ⟨hk,hr⟩
 refine W_T ?_
 (repeat' (first|(simp (disch:=omega) only [push_cast,↓zz,seval])|(with_reducible first|refine And.intro ?_ ?_|(first|refine Ab ?_ ?_|refine Aa ?_ ?_)<;>intro hc<;>(try simp only [push_cast] at hc))|(have q_:=z4z (nth a k) (nth b k) (ha _ (Au (by omega)));(with_reducible first|refine eK q_ ?_|refine eQ q_ ?_|refine eG q_ ?_);clear q_)|(have q_:=z4z (nth a k) (nth b k) (ha _ (Au (by omega)));(with_reducible first|refine cK q_ ?_|refine cQ q_ ?_|refine cG q_ ?_);clear q_;(simp (disch:=omega) only [push_cast,↓zz,seval]);(fail_if_success with_reducible change False))|omega|with_reducible intro _))
 all_goals first
   | (rw [hr,List.drop_of_length_le (by omega),List.drop_of_length_le (by omega)];simp;done)
   | (rw [hr,G5 (by omega) (by omega)];simp_all;done)
   | (refine ⟨k + 1,?_⟩
      (repeat' (first|(simp (disch:=omega) only [push_cast,↓zz,seval])|(with_reducible first|refine And.intro ?_ ?_|(first|refine Ab ?_ ?_|refine Aa ?_ ?_)<;>intro hc<;>(try simp only [push_cast] at hc))|omega|with_reducible intro _))
      rw [hr,G5 (by omega) (by omega)];simp_all;done)
   | trace_state
structure Ub (gs:List (List Span)) (out:List Term):Prop where
 g:gs.length ≤ 1000000000000
 gl:∀ l ∈ gs,l.length ≤ 1000000000000
 o:out.length ≤ 1000000000000
 ol:∀ t ∈ out,t.parts.length ≤ 1000000000000
theorem R0 (a b:Rule) (h:Ub a.guards a.out):PC Tryz.prog 30 [Md a,Md b] (.bool (decide (a=b))):=by
 have h1:=Jv a.guards b.guards h.g h.gl
 have h2:=Ih a.out b.out h.o h.ol
 have e:decide (a=b)=(decide (a.from_=b.from_) && (decide (a.to_=b.to_) && (decide (a.eat=b.eat) && (decide (a.guards=b.guards) && decide (a.out=b.out))))):=by
   cases a;cases b;simp only [Rule.mk.injEq];simp only [Bool.decide_and];ac_rfl
 have p1:=Ae a.guards
 have p2:=Ae b.guards
 have p3:=Bb a.out
 have p4:=Bb b.out
 refine A9 N8 ?_
 unfold Hk
 (repeat' (first|(simp (disch:=omega) only [push_cast,↓zz,seval,p1,p2,p3,p4])|(with_reducible first|refine And.intro ?_ ?_|(first|refine Ab ?_ ?_|refine Aa ?_ ?_)<;>intro hc<;>(try simp only [push_cast] at hc)|refine eK h1 ?_|refine eQ h1 ?_|refine eG h1 ?_|refine eK h2 ?_|refine eQ h2 ?_|refine eG h2 ?_)|((with_reducible first|refine cK h1 ?_|refine cQ h1 ?_|refine cG h1 ?_);(simp (disch:=omega) only [push_cast,↓zz,seval,p1,p2,p3,p4]);(fail_if_success with_reducible change False))|((with_reducible first|refine cK h2 ?_|refine cQ h2 ?_|refine cG h2 ?_);(simp (disch:=omega) only [push_cast,↓zz,seval,p1,p2,p3,p4]);(fail_if_success with_reducible change False))|omega|with_reducible intro _))
 all_goals rw [e];simp_all
structure z67 (d:Desc):Prop where
 r:d.rules.length ≤ 1000000000000
 rs:∀ r ∈ d.rules,Ub r.guards r.out
 f:d.finals.length ≤ 1000000000000
 fs:∀ f ∈ d.finals,Ub f.guards f.out
theorem z96 {a b:Desc} (h1:a.in_=b.in_) (h2:a.out=b.out) (h3:a.states=b.states) (h4:a.start=b.start):decide (a=b)=(decide (a.rules=b.rules) && decide (a.finals=b.finals)):=by
 cases a;cases b;simp only at h1 h2 h3 h4;subst h1 h2 h3 h4
 simp
theorem zik (x y:Fc):decide (x=y)=(decide (x.from_=y.from_) && (decide (x.guards=y.guards) && decide (x.out=y.out))):=by
 cases x;cases y;simp
theorem Uc (a b:Desc) (h:z67 a):PC Tryz.prog 11 [By a,By b] (.bool (decide (a=b))):=by
 have pa1:=Bj a.rules
 have pa2:=Bg a.finals
 have pb1:=Bj b.rules
 have pb2:=Bg b.finals
 have har:=h.r
 have haf:=h.f
 refine A9 X7 ?_
 unfold M3
 (repeat' (first|(simp (disch:=omega) only [push_cast,↓zz,seval,pa1,pa2,pb1,pb2])|(with_reducible first|refine And.intro ?_ ?_|(first|refine Ab ?_ ?_|refine Aa ?_ ?_)<;>intro hc<;>(try simp only [push_cast] at hc))|omega|with_reducible intro _))
 all_goals first
   | (have:a ≠ b:=by intro h;subst h;simp_all
      simp [this];done)
   | skip
 all_goals
   have hab:=z96 (a:=a) (b:=b) (by assumption) (by assumption) (by assumption) (by assumption)
   have hrl:a.rules.length=b.rules.length:=by omega
   have hfl:a.finals.length=b.finals.length:=by omega
   rw [hab]
   refine Ao (Ap (fun (k:Nat)=>k ≤ a.rules.length∧decide (a.rules=b.rules)=decide (a.rules.drop k=b.rules.drop k)) (fun k=>a.rules.length - k)
     (fun k=>[(2,.ptr 0 1 0 0),(3,.ptr 1 1 0 0),(5,.int .i64 k)]) (fun _=>[⟨6,1,true,[By a]⟩,⟨6,1,true,[By b]⟩]) (fun env _=>[Aw 6 (env 2),Aw 6 (env 3)]) 0 (by simp) ?_ ?_)
   · (repeat' (first|(simp (disch:=omega) only [push_cast,↓zz,seval,pa1,pa2,pb1,pb2])|(with_reducible first|refine And.intro ?_ ?_|(first|refine Ab ?_ ?_|refine Aa ?_ ?_)<;>intro hc<;>(try simp only [push_cast] at hc))|omega|with_reducible intro _))
   rintro k ⟨hk,hr⟩
   refine W_T ?_
   rcases Nat.lt_or_ge k a.rules.length with hkl|hkl
   · have hS:=R0 (nth a.rules k) (nth b.rules k) (h.rs _ (Au hkl))
     have hp1:=Bj a.rules
     rw [G5 hkl (by omega)] at hr
     generalize hx:nth a.rules k=x at *
     generalize hy:nth b.rules k=y at *
     (repeat' (first|(simp (disch:=omega) only [push_cast,↓zz,seval,pa1,pa2,pb1,pb2,hx,hy])|(with_reducible first|refine And.intro ?_ ?_|(first|refine Ab ?_ ?_|refine Aa ?_ ?_)<;>intro hc<;>(try simp only [push_cast] at hc)|refine eK hS ?_|refine eQ hS ?_|refine eG hS ?_)|((with_reducible first|refine cK hS ?_|refine cQ hS ?_|refine cG hS ?_);(simp (disch:=omega) only [push_cast,↓zz,seval,pa1,pa2,pb1,pb2,hx,hy]);(fail_if_success with_reducible change False))|omega|with_reducible intro _))
     all_goals first
       | (refine ⟨k + 1,?_⟩
          (repeat' (first|(simp (disch:=omega) only [push_cast,↓zz,seval])|(with_reducible first|refine And.intro ?_ ?_|(first|refine Ab ?_ ?_|refine Aa ?_ ?_)<;>intro hc<;>(try simp only [push_cast] at hc))|omega|with_reducible intro _))
          rw [hr];simp_all;done)
       | (simp_all;done)
       | trace_state
   · have hke:k=a.rules.length:=by omega
     subst hke
     have hre:decide (a.rules=b.rules)=true:=by rw [hr,List.drop_of_length_le (by omega),List.drop_of_length_le (by omega)];simp
     rw [hre,Bool.true_and]
     clear hr hre hab
     (repeat' (first|(simp (disch:=omega) only [push_cast,↓zz,seval,pa1,pa2,pb1,pb2])|(with_reducible first|refine And.intro ?_ ?_|(first|refine Ab ?_ ?_|refine Aa ?_ ?_)<;>intro hc<;>(try simp only [push_cast] at hc))|omega|with_reducible intro _))
     refine Ao (Ap (fun (k:Nat)=>k ≤ a.finals.length∧decide (a.finals=b.finals)=decide (a.finals.drop k=b.finals.drop k)) (fun k=>a.finals.length - k)
       (fun k=>[(2,.ptr 0 1 0 0),(3,.ptr 1 1 0 0),(6,.int .i64 k)]) (fun _=>[⟨6,1,true,[By a]⟩,⟨6,1,true,[By b]⟩]) (fun env _=>[Aw 6 (env 2),Aw 6 (env 3)]) 0 (by simp) ?_ ?_)
     · (repeat' (first|(simp (disch:=omega) only [push_cast,↓zz,seval,pa1,pa2,pb1,pb2])|(with_reducible first|refine And.intro ?_ ?_|(first|refine Ab ?_ ?_|refine Aa ?_ ?_)<;>intro hc<;>(try simp only [push_cast] at hc))|omega|with_reducible intro _))
     rintro k ⟨hk,hr⟩
     refine W_T ?_
     rcases Nat.lt_or_ge k a.finals.length with hkl|hkl
     · have hOk:=h.fs _ (Au hkl)
       rw [G5 hkl (by omega)] at hr
       generalize hx:nth a.finals k=x at *
       generalize hy:nth b.finals k=y at *
       have h1:=Jv x.guards y.guards hOk.g hOk.gl
       have h2:=Ih x.out y.out hOk.o hOk.ol
       have p1:=Ae x.guards
       have p2:=Ae y.guards
       have p3:=Bb x.out
       have p4:=Bb y.out
       have hxy:=zik x y
       (repeat' (first|(simp (disch:=omega) only [push_cast,↓zz,seval,yy,List.mem_cons,List.not_mem_nil,or_false,false_or,not_or,not_false_eq_true,true_or,or_true,pa1,pa2,pb1,pb2,hx,hy,p1,p2,p3,p4])|(with_reducible first|refine And.intro ?_ ?_|(first|refine Ab ?_ ?_|refine Aa ?_ ?_)<;>intro hc<;>(try simp only [push_cast] at hc))|((with_reducible refine U2 [2,3] [3,3] [none,none,none,none,none,none,none,none,none,none,some 2,some 3] (by decide) (by decide) ?_))|(with_reducible first|refine eK h1 ?_|refine eQ h1 ?_|refine eG h1 ?_|refine eK h2 ?_|refine eQ h2 ?_|refine eG h2 ?_)|((with_reducible first|refine cK h1 ?_|refine cQ h1 ?_|refine cG h1 ?_);(simp (disch:=omega) only [push_cast,↓zz,seval,yy,List.mem_cons,List.not_mem_nil,or_false,false_or,not_or,not_false_eq_true,true_or,or_true,pa1,pa2,pb1,pb2,hx,hy,p1,p2,p3,p4]);(fail_if_success with_reducible change False))|((with_reducible first|refine cK h2 ?_|refine cQ h2 ?_|refine cG h2 ?_);(simp (disch:=omega) only [push_cast,↓zz,seval,yy,List.mem_cons,List.not_mem_nil,or_false,false_or,not_or,not_false_eq_true,true_or,or_true,pa1,pa2,pb1,pb2,hx,hy,p1,p2,p3,p4]);(fail_if_success with_reducible change False))|omega|with_reducible intro _))
       all_goals first
         | (refine ⟨k + 1,?_⟩
            (repeat' (first|(simp (disch:=omega) only [push_cast,↓zz,seval])|(with_reducible first|refine And.intro ?_ ?_|(first|refine Ab ?_ ?_|refine Aa ?_ ?_)<;>intro hc<;>(try simp only [push_cast] at hc))|omega|with_reducible intro _))
            rw [hr];simp_all;done)
         | (simp_all;done)
         | trace_state
     · rw [hr,List.drop_of_length_le (by omega),List.drop_of_length_le (by omega)]
       (repeat' (first|(simp (disch:=omega) only [push_cast,↓zz,seval,pa1,pa2,pb1,pb2])|(with_reducible first|refine And.intro ?_ ?_|(first|refine Ab ?_ ?_|refine Aa ?_ ?_)<;>intro hc<;>(try simp only [push_cast] at hc))|omega|with_reducible intro _))
       all_goals simp
       all_goals trace_state
end Go.Proofs.YticodgjinajkpaaGreat
namespace Go.Proofs.YticodgjinajkpaaGreat
open Abs
theorem Rl {gs:List (List Span)} {out:List Term} (h:Hn gs out ≤ 1500):gs.length ≤ 100:=by
 unfold Hn at h
 split at h
 · omega
 · omega
theorem z2v {d:Desc} (h:N6 d=true):Rk d:=by
 refine ⟨ze2 h,?_,?_⟩
 all_goals
   simp only [N6,Bool.and_eq_true,decide_eq_true_eq] at h
   have sR:∀ r,0 ≤ szR r∧szR r ≤ 2000000:=fun r=>My _ _
   have sF:∀ f,0 ≤ szF f∧szF f ≤ 2000000:=fun r=>My _ _
   have a1:=(Ff sR d.rules).1
   have a2:=(Ff sF d.finals).1
 · intro r hr
   have h1:=Ja (fun r=>(sR r).1) hr
   have h2:szR r=Hn r.guards r.out:=rfl
   have:=Rl (gs:=r.guards) (out:=r.out) (by omega)
   omega
 · intro f hf
   have h1:=Ja (fun r=>(sF r).1) hf
   have h2:szF f=Hn f.guards f.out:=rfl
   have:=Rl (gs:=f.guards) (out:=f.out) (by omega)
   omega
abbrev ze4:AV:=.agg [.int .i64 0,.int .i64 0,.int .i64 0,.int .i64 0,.nilS,.nilS]
theorem z2w (c:Desc) (hc:Rk c):PC Tryz.prog 10 [By c] (.bool (decide (Cp c=0))):=by
 have hW:=z2u c hc
 have e:decide (Cp c=0)=decide ((Dz c).1=0):=by
   unfold Cp
   split
   · simp [*]
   · simp [*]
 rw [e]
 generalize Dz c=w at *
 refine A9 U6 ?_
 unfold Kv
 (repeat' (first|(simp (disch:=omega) only [push_cast,↓zz,seval])|(with_reducible first|refine And.intro ?_ ?_|(first|refine Ab ?_ ?_|refine Aa ?_ ?_)<;>intro hc<;>(try simp only [push_cast] at hc)|refine eK hW ?_|refine eQ hW ?_|refine eG hW ?_)|((with_reducible first|refine cK hW ?_|refine cQ hW ?_|refine cG hW ?_);(simp (disch:=omega) only [push_cast,↓zz,seval]);(fail_if_success with_reducible change False))|omega|with_reducible intro _))
 all_goals trace_state
theorem Z0 {i o:Int} {d:Desc} {gs:List (List Span)} {out:List Term} (hg:Cy d.in_ gs=true) (hw:De d out gs=true):Ub gs out:=by
 obtain ⟨g1,g2⟩:=Fb hg
 obtain ⟨w1,w2⟩:=N1 hw
 exact ⟨by omega,fun l hl=>by have:=g2 l hl;omega,by omega,fun t ht=>by have:=w2 t ht;omega⟩
theorem z2x {d:Desc} {r:Rule} (h:Ek d r=true):Ub r.guards r.out:=by
 simp only [Ek,Bool.and_eq_true] at h
 exact Z0 (i:=0) (o:=0) h.2.2.1 h.2.2.2.2
theorem Z1 {d:Desc} {f:Fc} (h:C9 d f=true):Ub f.guards f.out:=by
 simp only [C9,Bool.and_eq_true] at h
 exact Z0 (i:=0) (o:=0) h.2.1 h.2.2
theorem z2y {d:Desc} (h:Cp d=0):z67 d:=by
 obtain ⟨h1,h2,h3⟩:=G3 h
 have hw:=Lw h
 have h4:=hw.rl
 have h5:=hw.fl
 exact ⟨by omega,fun r hr=>z2x (h2 r hr),by omega,fun f hf=>Z1 (h3 f hf)⟩
theorem ze5:PC Tryz.prog 11 [ze4,ze4] (.bool true):=by
 have h:=Uc ⟨0,0,0,0,[],[]⟩ ⟨0,0,0,0,[],[]⟩ ⟨by simp,fun r hr=>(by cases hr),by simp,fun r hr=>(by cases hr)⟩
 rw [decide_eq_true rfl] at h
 have le:AV.le ze4 (By ⟨0,0,0,0,[],[]⟩):=AV.le_agg (Az (AV.le_refl _) (Az (AV.le_refl _) (Az (AV.le_refl _) (Az (AV.le_refl _) (Az (AV.le_nilS (by decide)) (Az (AV.le_nilS (by decide)) D4))))))
 exact Ht h (Az le (Az le D4))
theorem ze6 (u:Nat→Bool) {i j:Nat} (h:i ≤ j):cntB u i ≤ cntB u j:=by
 induction j with
 | zero=>
  have:i=0:=by omega
  subst this;exact Nat.le_refl _
 | succ j ih =>
   by_cases e:i=j + 1
   · subst e;exact Nat.le_refl _
   · have h1:=ih (by omega)
     have h2:=D8 u j
     split at h2<;>omega
theorem Ws {u:Nat→Bool} {i j:Nat} (hu:u i=true) (h:i < j):cntB u i < cntB u j:=by
 have h1:=D8 u i
 rw [if_pos hu] at h1
 have h2:=ze6 u (show i + 1 ≤ j by omega)
 omega
theorem zil {u:Nat→Bool} {i j:Nat} (hi:u i=true) (hj:u j=true) (h:cntB u i=cntB u j):i=j:=by
 rcases Nat.lt_trichotomy i j with h1|h1|h1
 · have:=Ws hi h1;omega
 · exact h1
 · have:=Ws hj h1;omega
theorem L2 {u:Nat→Bool}:∀ {n j:Nat},j < cntB u n→∃ i,i < n∧u i=true∧cntB u i=j
 | 0,j,h=>by simp [cntB] at h
 | n + 1,j,h=>by
   have h1:=D8 u n
   by_cases e:u n=true
   · rw [if_pos e] at h1
     by_cases e2:j=cntB u n
     · exact ⟨n,by omega,e,e2.symm⟩
     · obtain ⟨i,a,b,c⟩:=L2 (u:=u) (n:=n) (j:=j) (by omega)
       exact ⟨i,by omega,b,c⟩
   · rw [if_neg e] at h1
     obtain ⟨i,a,b,c⟩:=L2 (u:=u) (n:=n) (j:=j) (by omega)
     exact ⟨i,by omega,b,c⟩
theorem Wt (n:Nat) {u:Nat→Bool} (h:∀ i,i < n→u i=true):∀ k,k ≤ n→cntB u k=k
 | 0,_=>rfl
 | k + 1,hk=>by rw [D8,if_pos (h k (by omega)),Wt n h k (by omega)]
section
variable {d:Desc}
theorem Kh {s t:Int}:(s,t) ∈ fwdE d ↔ ∃ r ∈ d.rules,r.from_=s∧r.to_=t:=by simp [fwdE]
theorem z2z {s t:Int}:(t,s) ∈ bwdE d ↔ ∃ r ∈ d.rules,r.from_=s∧r.to_=t:=by
 simp only [bwdE,List.mem_map,Prod.mk.injEq]
 constructor
 · rintro ⟨r,hr,h1,h2⟩;exact ⟨r,hr,h2,h1⟩
 · rintro ⟨r,hr,h1,h2⟩;exact ⟨r,hr,h2,h1⟩
theorem ze7 {s:Int}:s ∈ endE d ↔ ∃ f ∈ d.finals,f.from_=s:=by simp [endE]
theorem L3 {s:Int} (hs:0 ≤ s):Cv d s.toNat=true ↔ Reach (fwdE d) [d.start] s∧Reach (bwdE d) (endE d) s:=by
 rw [Cv,Bool.and_eq_true,D7,D7,Int.toNat_of_nonneg hs]
noncomputable def Ji (d:Desc):Desc:=⟨d.in_,d.out,cntB (Cv d) d.states.toNat,numB (Cv d) d.start.toNat,Fl (Cv d) d.rules,F1 (Cv d) d.finals⟩
theorem Rm {u:Nat→Bool} {l:List Rule} {r':Rule}:r' ∈ Fl u l ↔ ∃ r ∈ l,(u r.from_.toNat=true∧u r.to_.toNat=true)∧(⟨numB u r.from_.toNat,numB u r.to_.toNat,r.guards,r.eat,r.out⟩:Rule)=r':=by
 simp only [Fl,List.mem_map,List.mem_filter,Bool.and_eq_true,and_assoc]
theorem Z2 {u:Nat→Bool} {l:List Fc} {f':Fc}:f' ∈ F1 u l ↔ ∃ f ∈ l,u f.from_.toNat=true∧(⟨numB u f.from_.toNat,f.guards,f.out⟩:Fc)=f':=by
 simp only [F1,List.mem_map,List.mem_filter,and_assoc]
theorem Ud (h:Cp d=0) (hg:Reach (bwdE d) (endE d) d.start):Cv d d.start.toNat=true:=(L3 (Lw h).start.1).2 ⟨.base (by simp),hg⟩
theorem Ii (h:Cp d=0) (hg:Reach (bwdE d) (endE d) d.start):numB (Cv d) d.start.toNat=cntB (Cv d) d.start.toNat∧cntB (Cv d) d.start.toNat < cntB (Cv d) d.states.toNat∧(cntB (Cv d) d.states.toNat:Int) ≤ d.states:=by
 have hw:=Lw h
 obtain ⟨n,hn,hn1,hn2⟩:=hw.n
 have hs:=hw.start
 have h1:=Ud h hg
 have h2:=Fe (Cv d) d.states.toNat
 exact ⟨Da h1,Ws h1 (by omega),by omega⟩
theorem z37 (h:Cp d=0) (hg:Reach (bwdE d) (endE d) d.start):Cp (Ji d)=0:=by
 have hw:=Lw h
 obtain ⟨w1,w2,w3⟩:=G3 h
 obtain ⟨n,hn,hn1,hn2⟩:=hw.n
 obtain ⟨s1,s2,s3⟩:=Ii h hg
 have l1:=Q9 (Cv d) d.rules
 have l2:=Ra (Cv d) d.finals
 have hrl:=hw.rl
 have hfl:=hw.fl
 have st:∀ x:Int,0 ≤ x∧x < d.states→Cv d x.toNat=true→Gw (Ji d) (numB (Cv d) x.toNat)=true:=fun x hx hu=>by
   rw [Da hu]
   have:=Ws hu (show x.toNat < d.states.toNat by omega)
   show (decide (0 ≤ ((cntB (Cv d) x.toNat:Nat):Int)) && decide (((cntB (Cv d) x.toNat:Nat):Int) < ((cntB (Cv d) d.states.toNat:Nat):Int)))=true
   rw [Bool.and_eq_true,decide_eq_true_eq,decide_eq_true_eq]
   omega
 refine (Kg ?_ (fun r' hr'=>?_) (fun f' hf'=>?_) ?_).2
 · have hst:=st d.start hw.start (Ud h hg)
   simp only [Ms,Bool.and_eq_true,decide_eq_true_eq] at w1 ⊢
   refine ⟨w1.1,w1.2.1,?_,?_,hst,?_,?_⟩<;>simp only [Ji]<;>omega
 · obtain ⟨r,hr,⟨u1,u2⟩,rfl⟩:=Rm.1 hr'
   have hb:=w2 r hr
   have hr2:=hw.r r hr
   simp only [Ek,Bool.and_eq_true] at hb ⊢
   exact ⟨st _ hr2.1 u1,st _ hr2.2 u2,hb.2.2.1,hb.2.2.2.1,hb.2.2.2.2⟩
 · obtain ⟨f,hf,u1,rfl⟩:=Z2.1 hf'
   have hb:=w3 f hf
   have hf2:=hw.f f hf
   simp only [C9,Bool.and_eq_true] at hb ⊢
   exact ⟨st _ hf2 u1,hb.2.1,hb.2.2⟩
 · have hcy:¬ cycP d.rules d.states.toNat:=by
     intro hc
     have e:Dz d=(4,0):=by
       rw [Dz,if_neg (by simp [w1]),Ly w2]
       simp only
       rw [Ly w3]
       simp only
       rw [if_pos hc]
     rw [Cp,e] at h
     simp at h
   rintro ⟨C,hC,j,hj⟩
   refine hcy ⟨fun x=>0 ≤ x∧x < d.states∧Cv d x.toNat=true∧C (cntB (Cv d) x.toNat:Nat),fun x hx=>?_,?_⟩
   · obtain ⟨x1,x2,x3,x4⟩:=hx
     refine ⟨by omega,?_⟩
     obtain ⟨_,r',hr',e1,e2,e3⟩:=hC _ x4
     obtain ⟨r,hr,⟨u1,u2⟩,rfl⟩:=Rm.1 hr'
     have hr2:=hw.r r hr
     simp only [Da u1,Da u2] at e2 e3
     have e4:=zil u2 x3 (by omega)
     exact ⟨r,hr,e1,by omega,by omega,by omega,u1,e3⟩
   · obtain ⟨hj2,_⟩:=hC j hj
     simp only [Ji,Int.toNat_natCast] at hj2
     obtain ⟨i,i1,i2,i3⟩:=L2 (u:=Cv d) (n:=d.states.toNat) (j:=j.toNat) (by omega)
     refine ⟨i,by omega,by omega,by simpa using i2,?_⟩
     rw [Int.toNat_natCast,i3,Int.toNat_of_nonneg hj2.1]
     exact hj
theorem Z3 (h:Cp d=0) (hg:Reach (bwdE d) (endE d) d.start) {s t:Int} (hst:(s,t) ∈ fwdE d) (ht:Reach (bwdE d) (endE d) t):Reach (bwdE d) (endE d) s:=by
 obtain ⟨r,hr,rfl,rfl⟩:=Kh.1 hst
 exact .step ht (z2z.2 ⟨r,hr,rfl,rfl⟩)
theorem Z4 (h:Cp d=0) (hg:Reach (bwdE d) (endE d) d.start) {r:Rule} (hr:r ∈ d.rules) (c1:Reach (fwdE d) [d.start] r.from_) (g2:Reach (bwdE d) (endE d) r.to_) :
   (((cntB (Cv d) r.from_.toNat:Nat):Int),((cntB (Cv d) r.to_.toNat:Nat):Int)) ∈ fwdE (Ji d):=by
 have hr2:=(Lw h).r r hr
 have c2:Reach (fwdE d) [d.start] r.to_:=.step c1 (Kh.2 ⟨r,hr,rfl,rfl⟩)
 have g1:=Z3 h hg (Kh.2 ⟨r,hr,rfl,rfl⟩) g2
 have u1:=(L3 hr2.1.1).2 ⟨c1,g1⟩
 have u2:=(L3 hr2.2.1).2 ⟨c2,g2⟩
 exact Kh.2 ⟨_,Rm.2 ⟨r,hr,⟨u1,u2⟩,rfl⟩,Da u1,Da u2⟩
theorem z97 (h:Cp d=0) (hg:Reach (bwdE d) (endE d) d.start) {s:Int} (hc:Reach (fwdE d) [d.start] s):Reach (bwdE d) (endE d) s→Reach (fwdE (Ji d)) [(Ji d).start] (cntB (Cv d) s.toNat:Nat):=by
 induction hc with
 | base hs =>
   intro _
   simp only [List.mem_singleton] at hs
   subst hs
   exact .base (by simp [Ji,(Ii h hg).1])
 | @step s t h1 h2 ih =>
   intro ht
   have hs:=Z3 h hg h2 ht
   obtain ⟨r,hr,rfl,rfl⟩:=Kh.1 h2
   exact .step (ih hs) (Z4 h hg hr h1 ht)
theorem ze8 (h:Cp d=0) (hg:Reach (bwdE d) (endE d) d.start) {s:Int} (hc:Reach (bwdE d) (endE d) s):Reach (fwdE d) [d.start] s→Reach (bwdE (Ji d)) (endE (Ji d)) (cntB (Cv d) s.toNat:Nat):=by
 induction hc with
 | @base s hs =>
   intro hcs
   obtain ⟨f,hf,rfl⟩:=ze7.1 hs
   have hf2:=(Lw h).f f hf
   have u1:=(L3 hf2.1).2 ⟨hcs,.base hs⟩
   exact .base (ze7.2 ⟨_,Z2.2 ⟨f,hf,u1,rfl⟩,Da u1⟩)
 | @step t s h1 h2 ih =>
   intro hs
   obtain ⟨r,hr,rfl,rfl⟩:=z2z.1 h2
   have ht:Reach (fwdE d) [d.start] r.to_:=.step hs (Kh.2 ⟨r,hr,rfl,rfl⟩)
   have hk:=Z4 h hg hr hs h1
   obtain ⟨r',hr',e1,e2⟩:=Kh.1 hk
   exact .step (ih ht) (z2z.2 ⟨r',hr',e1,e2⟩)
theorem ze9 (h:Cp d=0) (hg:Reach (bwdE d) (endE d) d.start) (j:Nat) (hj:j < (Ji d).states.toNat):C3 (fwdE (Ji d)) [(Ji d).start] j=true∧C3 (bwdE (Ji d)) (endE (Ji d)) j=true:=by
 simp only [Ji,Int.toNat_natCast] at hj
 obtain ⟨i,i1,i2,i3⟩:=L2 (u:=Cv d) (n:=d.states.toNat) (j:=j) hj
 have hu:=(L3 (d:=d) (s:=(i:Int)) (by omega)).1 (by simpa using i2)
 have a:=z97 h hg hu.1 hu.2
 have b:=ze8 h hg hu.2 hu.1
 rw [Int.toNat_natCast,i3] at a b
 exact ⟨D7.2 a,D7.2 b⟩
end
theorem Rn (l:List Bool):∀ k,k ≤ l.length→(∀ i,i < k→nth l i=true)→(Jf l k).length=k
 | 0,_,_=>rfl
 | k + 1,hk,h=>by rw [Tu,if_pos (h k (by omega)),List.length_append,Rn l k (by omega) fun i hi=>h i (by omega)];rfl
theorem zea {c:Desc} (h:Cp c=0) (ha:∀ j,j < c.states.toNat→C3 (fwdE c) [c.start] j=true∧C3 (bwdE c) (endE c) j=true):Jg c=c∧(N2 c).length=c.states.toNat∧(Zs c).length=c.states.toNat:=by
 have hw:=Lw h
 obtain ⟨n,hn,hn1,hn2⟩:=hw.n
 have hs:=hw.start
 have hst:c.states.toNat=n:=by omega
 have hu:∀ j,j < n→Cv c j=true:=fun j hj=>by
   obtain ⟨a,b⟩:=ha j (by omega)
   rw [Cv,a,b];rfl
 have hnum:∀ x:Int,0 ≤ x∧x < c.states→numB (Cv c) x.toNat=x∧Cv c x.toNat=true:=fun x hx=>by
   have h1:=hu x.toNat (by omega)
   rw [Da h1,Wt n hu x.toNat (by omega)]
   exact ⟨by omega,h1⟩
 have hR:Fl (Cv c) c.rules=c.rules:=by
   have e:(c.rules.filter fun r=>Cv c r.from_.toNat && Cv c r.to_.toNat)=c.rules:=List.filter_eq_self.2 fun r hr=>by
     have:=hw.r r hr
     rw [(hnum _ this.1).2,(hnum _ this.2).2];rfl
   rw [Fl,e]
   refine (List.map_congr_left fun r hr=>?_).trans (List.map_id _)
   have:=hw.r r hr
   rw [(hnum _ this.1).1,(hnum _ this.2).1];rfl
 have hF:F1 (Cv c) c.finals=c.finals:=by
   have e:(c.finals.filter fun r=>Cv c r.from_.toNat)=c.finals:=List.filter_eq_self.2 fun r hr=>(hnum _ (hw.f r hr)).2
   rw [F1,e]
   refine (List.map_congr_left fun r hr=>?_).trans (List.map_id _)
   rw [(hnum _ (hw.f r hr)).1];rfl
 refine ⟨?_,?_,?_⟩
 · unfold Jg
   rw [if_neg (by rw [(ha c.start.toNat (by omega)).2];simp),hR,hF,(hnum _ hs).1,hst,Wt n hu n (Nat.le_refl _),← hn]
 · exact Rn _ _ (by rw [Q8];exact Nat.le_refl _) fun i hi=>by rw [Ew,Fs hi];exact (ha i hi).1
 · exact Rn _ _ (by rw [z2h];exact Nat.le_refl _) fun i hi=>by rw [goL,Fs hi];exact (ha i hi).2
structure znv (c:Desc):Prop where
 check:Cp c=0
 again:Jg c=c
 all:((N2 c).length=c.states.toNat∧(Zs c).length=c.states.toNat) ∨ (c.states=1∧c.rules=[]∧c.finals=[])
theorem z68 {s:Int} (h:¬ (s=1 ∨ s=2)):domL s=[]:=by
 unfold domL
 rw [if_neg (by omega),if_neg (by omega)]
theorem zeb {d:Desc} (h:Cp d=0):(d.in_=1 ∨ d.in_=2)∧(d.out=1 ∨ d.out=2):=by
 obtain ⟨w1,_,_⟩:=G3 h
 simp only [Ms,Bool.and_eq_true,decide_eq_true_eq] at w1
 constructor
 · refine Classical.byContradiction fun hh=>?_
   have:=w1.1
   rw [z68 hh] at this
   simp at this
 · refine Classical.byContradiction fun hh=>?_
   have:=w1.2.1
   rw [z68 hh] at this
   simp at this
theorem Z5 {d:Desc} (h:Cp d=0):znv (Jg d)∧(Jg d).states ≤ d.states:=by
 have hw:=Lw h
 obtain ⟨n,hn,hn1,hn2⟩:=hw.n
 have hs:=hw.start
 unfold Jg
 split
 · have e2:=z2j (zeb h).1 (zeb h).2
   refine ⟨⟨e2.2,?_,.inr ⟨rfl,rfl,rfl⟩⟩,by simp [Jt];omega⟩
   unfold Jg
   rw [if_pos (by simp [C3,endE,Jt,Zp])]
   rfl
 · rename_i hb
   have hg:Reach (bwdE d) (endE d) d.start:=by
     have:C3 (bwdE d) (endE d) d.start.toNat=true:=by simpa using hb
     have:=D7.1 this
     rwa [Int.toNat_of_nonneg hs.1] at this
   have hc:=z37 h hg
   have ht:=zea hc (ze9 h hg)
   exact ⟨⟨hc,ht.1,.inl ht.2⟩,(Ii h hg).2.2⟩
theorem Z6 {u v:Nat→Bool}:∀ {n:Nat},(∀ i,i < n→u i=v i)→cntB u n=cntB v n
 | 0,_=>rfl
 | n + 1,h=>by rw [D8,D8,h n (by omega),Z6 fun i hi=>h i (by omega)]
theorem z69 {on:Nat→Bool} {s:Nat} (ho:on s=false):∀ {n:Nat},s < n→cntB (setB on s) n=cntB on n + 1
 | n + 1,h=>by
   rw [D8,D8]
   by_cases hs:s=n
   · subst hs
     rw [if_pos (by simp [setB]),if_neg (by simp [ho]),Z6 (u:=setB on s) (v:=on) fun i hi=>by simp [setB];omega]
   · have:=z69 ho (n:=n) (by omega)
     have e:setB on s n=on n:=by simp [setB];omega
     rw [e]
     split<;>omega
structure RInv (n:Nat) (F:List Int) (E:List (Int × Int)) (on:Nat→Bool):Prop where
 sound:∀ i:Nat,on i=true→Reach E F i
 base:∀ s ∈ F,on s.toNat=true
theorem RInv.set {n:Nat} {F:List Int} {E:List (Int × Int)} {on:Nat→Bool} (h:RInv n F E on) {x y:Nat} (hx:on x=true) (he:((x:Int),(y:Int)) ∈ E):RInv n F E (setB on y) where
 sound i hi:=by
   unfold setB at hi
   split at hi
   · rename_i e;subst e;exact .step (h.sound x hx) he
   · exact h.sound i hi
 base s hs:=by
  unfold setB
  split
  · rfl
  · exact h.base s hs
structure RIn (n:Nat) (F:List Int) (E:List (Int × Int)) (on0 on:Nat→Bool) (more:Bool) (i:Nat):Prop where
 inv:RInv n F E on
 no:more=false→on=on0∧∀ j,j < i→on (nth E j).1.toNat=true→on (nth E j).2.toNat=true
 yes:more=true→cntB on0 n < cntB on n
theorem RIn.start {n:Nat} {F:List Int} {E:List (Int × Int)} {on:Nat→Bool} (h:RInv n F E on):RIn n F E on on false 0 :=
 ⟨h,fun _=>⟨rfl,fun j hj=>absurd hj (Nat.not_lt_zero j)⟩,fun h=>by cases h⟩
theorem RIn.skip {n i:Nat} {F:List Int} {E:List (Int × Int)} {on0 on:Nat→Bool} {more:Bool} (h:RIn n F E on0 on more i) {x y:Nat} (he:nth E i=((x:Int),(y:Int))) (hs:on x=true→on y=true):RIn n F E on0 on more (i + 1):=by
 refine ⟨h.inv,fun hm=>⟨(h.no hm).1,fun j hj=>?_⟩,h.yes⟩
 by_cases e:j=i
 · subst e;rw [he];simpa using hs
 · exact (h.no hm).2 j (by omega)
theorem RIn.take {n i:Nat} {F:List Int} {E:List (Int × Int)} {on0 on:Nat→Bool} {more:Bool} (h:RIn n F E on0 on more i) {x y:Nat} (he:((x:Int),(y:Int)) ∈ E) (hx:on x=true) (hy:on y=false) (hyn:y < n):RIn n F E on0 (setB on y) true (i + 1):=by
 refine ⟨h.inv.set hx he,fun hm=>(by cases hm),fun _=>?_⟩
 have h1:=z69 hy hyn
 cases more with
 | true=>have:=h.yes rfl;omega
 | false=>have:=(h.no rfl).1;subst this;omega
theorem RIn.done {n:Nat} {F:List Int} {E:List (Int × Int)} {on0 on:Nat→Bool} (h:RIn n F E on0 on false E.length):∀ e ∈ E,on e.1.toNat=true→on e.2.toNat=true:=fun e he=>by
 obtain ⟨j,hj,rfl⟩:=List.getElem_of_mem he
 have:=(h.no rfl).2 j hj
 have e:nth E j=E[j]:=by simp [nth,List.getD,hj]
 rwa [e] at this
theorem zrf {d:Desc} {i x y:Nat} (h:i < d.rules.length) (hx:(nth d.rules i).from_=x) (hy:(nth d.rules i).to_=y):nth (fwdE d) i=((x:Int),(y:Int))∧((x:Int),(y:Int)) ∈ fwdE d:=by
 have e:nth (fwdE d) i=((nth d.rules i).from_,(nth d.rules i).to_):=by simp [fwdE,nth,List.getD,h]
 rw [hx,hy] at e
 exact ⟨e,by rw [← e];exact Au (by simpa [fwdE] using h)⟩
theorem zrg {d:Desc} {i x y:Nat} (h:i < d.rules.length) (hx:(nth d.rules i).from_=x) (hy:(nth d.rules i).to_=y):nth (bwdE d) i=((y:Int),(x:Int))∧((y:Int),(x:Int)) ∈ bwdE d:=by
 have e:nth (bwdE d) i=((nth d.rules i).to_,(nth d.rules i).from_):=by simp [bwdE,nth,List.getD,h]
 rw [hx,hy] at e
 exact ⟨e,by rw [← e];exact Au (by simpa [bwdE] using h)⟩
theorem z6a (n:Nat):List.replicate n (AV.bool false)=spB n fun _=>false:=by
 refine List.ext_getElem (by simp [spB]) fun i h1 h2=>?_
 simp [spB]
theorem z6b (n:Nat) (on:Nat→Bool):Ay (spB n on)=true:=Cc.2 fun x hx=>by
 obtain ⟨i,_,rfl⟩:=List.mem_map.1 hx
 rfl
theorem Z7 {n:Nat} {F:List Int} {E:List (Int × Int)} {on:Nat→Bool} (h:∀ i,on i=C3 E F i):spB n on=(Cj n F E).map AV.bool:=by
 simp only [spB,Cj,List.map_map]
 exact List.map_congr_left fun i _=>by simp [h i]
theorem z38 (d:Desc) (h:Wf d):PC Tryz.prog 17 [By d] (Eq (Ew d)):=by
 obtain ⟨n,hn,hn1,hn2⟩:=h.n
 have hr:=h.fwd hn
 have hrl:=h.rl
 have hst:=h.start
 have pR:=Bj d.rules
 have pF:=Bg d.finals
 obtain ⟨s,hs⟩:∃ s:Nat,d.start=s:=⟨d.start.toNat,by omega⟩
 have hsn:s < n:=by omega
 have hel:(fwdE d).length=d.rules.length:=by simp [fwdE]
 have ec:Ew d=Cj n [d.start] (fwdE d):=by rw [Ew,hn];rfl
 rw [ec]
 have fB:=z6a n
 have lB:∀ on,(spB n on).length=n:=fun on=>by simp [spB]
 have pB:=z6b n
 have f0:=Q0 (on:=fun _=>false) hsn
 have aB:∀ on i,i < n→(spB n on).getD i .any=.bool (on i):=fun on i hi=>Bq hi
 have inv0:RInv n [d.start] (fwdE d) (setB (fun _=>false) s):=⟨fun i hi=>by
     have:i=s:=by
       unfold setB at hi
       split at hi
       · assumption
       · cases hi
     subst this
     exact .base (by simp [hs]),fun x hx=>by simp only [List.mem_singleton] at hx;subst hx;simp [setB,hs]⟩
 refine A9 U9 ?_
 unfold Ky
 (repeat' (first|(simp (disch:=omega) only [push_cast,↓zz,seval,pR,pF,hn,hs,fB,lB,pB,f0])|(with_reducible first|refine And.intro ?_ ?_|(first|refine Ab ?_ ?_|refine Aa ?_ ?_)<;>intro hc<;>(try simp only [push_cast] at hc))|omega|with_reducible intro _))
 refine Ao (Ap (fun (q:(Nat→Bool) × Bool)=>RInv n [d.start] (fwdE d) q.1∧(q.2=false→∀ e ∈ fwdE d,q.1 e.1.toNat=true→q.1 e.2.toNat=true)) (fun q=>2 * (n - cntB q.1 n) + if q.2 then 1 else 0)
   (fun q=>[(1,.ptr 0 1 0 0),(3,.ref 1 1 0 n),(4,.bool q.2)]) (fun q=>[⟨6,1,true,[By d]⟩,⟨1,1,true,spB n q.1⟩]) (fun env _=>[Aw 6 (env 1),Aw 1 (env 3)]) (setB (fun _=>false) s,true) ⟨inv0,fun h=>(by cases h)⟩ ?_ ?_)
 · (repeat' (first|(simp (disch:=omega) only [push_cast,↓zz,seval,pR,pF,pB,hn,hs])|(with_reducible first|refine And.intro ?_ ?_|(first|refine Ab ?_ ?_|refine Aa ?_ ?_)<;>intro hc<;>(try simp only [push_cast] at hc))|omega|with_reducible intro _))
 rintro ⟨on,more⟩ ⟨h1,h2⟩
 simp only at h1 h2
 cases more with
 | false =>
   have hreach:=Lz hr h1.sound h1.base (h2 rfl)
   have hB:=Z7 (n:=n) (F:=[d.start]) (E:=fwdE d) (on:=on) fun i=>(hreach i).symm
   have rl:=Du n [d.start] (fwdE d)
   have rt:List.take n (Cj n [d.start] (fwdE d))=Cj n [d.start] (fwdE d):=List.take_of_length_le (by rw [rl];exact Nat.le_refl _)
   have pb:=Df (Cj n [d.start] (fwdE d))
   refine W_T ?_
   (repeat' (first|(simp (disch:=omega) only [push_cast,↓zz,seval,pR,pF,lB,pB,hB,rl,rt,pb])|(with_reducible first|refine And.intro ?_ ?_|(first|refine Ab ?_ ?_|refine Aa ?_ ?_)<;>intro hc<;>(try simp only [push_cast] at hc))|omega|with_reducible intro _))
 | true =>
   clear h2
   refine W_T ?_
   (repeat' (first|(simp (disch:=omega) only [push_cast,↓zz,seval,pR,pF,lB,pB,hn])|(with_reducible first|refine And.intro ?_ ?_|(first|refine Ab ?_ ?_|refine Aa ?_ ?_)<;>intro hc<;>(try simp only [push_cast] at hc))|omega|with_reducible intro _))
   refine Ao (Ap (fun (q:(Nat→Bool) × Bool × Nat)=>q.2.2 ≤ d.rules.length∧RIn n [d.start] (fwdE d) on q.1 q.2.1 q.2.2) (fun q=>d.rules.length - q.2.2)
     (fun q=>[(1,.ptr 0 1 0 0),(3,.ref 1 1 0 n),(4,.bool q.2.1),(5,.int .i64 q.2.2)]) (fun q=>[⟨6,1,true,[By d]⟩,⟨1,1,true,spB n q.1⟩]) (fun env _=>[Aw 6 (env 1),Aw 1 (env 3)]) (on,false,0) ⟨by simp,RIn.start h1⟩ ?_ ?_)
   · (repeat' (first|(simp (disch:=omega) only [push_cast,↓zz,seval,pR,pF,pB,hn])|(with_reducible first|refine And.intro ?_ ?_|(first|refine Ab ?_ ?_|refine Aa ?_ ?_)<;>intro hc<;>(try simp only [push_cast] at hc))|omega|with_reducible intro _))
   rintro ⟨o,mo,i⟩ ⟨g1,g2⟩
   simp only at g1 g2
   rcases Nat.lt_or_ge i d.rules.length with hil|hil
   · have hrr:=h.r _ (Au hil)
     have hat:=fun x y=>zrf (d:=d) (i:=i) (x:=x) (y:=y) hil
     generalize hre:nth d.rules i=r at *
     have hgr:=Ae r.guards
     have hot:=Bb r.out
     obtain ⟨x,hx⟩:∃ x:Nat,r.from_=x:=⟨r.from_.toNat,by omega⟩
     obtain ⟨y,hy⟩:∃ y:Nat,r.to_=y:=⟨r.to_.toNat,by omega⟩
     have hxn:x < n:=by omega
     have hyn:y < n:=by omega
     obtain ⟨e1,e2⟩:=hat x y hx hy
     have aX:=aB o x hxn
     have aY:=aB o y hyn
     have fY:=Q0 (on:=o) hyn
     cases hox:o x with
     | false =>
       rw [hox] at aX
       have nx:=g2.skip e1 (by simp [hox])
       refine W_T ?_
       (repeat' (first|(simp (disch:=omega) only [push_cast,↓zz,seval,pR,pF,lB,pB,hn,hre,hx,hy,hgr,hot,aX])|(with_reducible first|refine And.intro ?_ ?_|(first|refine Ab ?_ ?_|refine Aa ?_ ?_)<;>intro hc<;>(try simp only [push_cast] at hc))|omega|with_reducible intro _))
       all_goals
         refine ⟨(o,mo,i + 1),?_⟩
         (repeat' (first|(simp (disch:=omega) only [push_cast,↓zz,seval,pB])|(with_reducible first|refine And.intro ?_ ?_|(first|refine Ab ?_ ?_|refine Aa ?_ ?_)<;>intro hc<;>(try simp only [push_cast] at hc))|omega|with_reducible intro _))
         try exact nx
     | true =>
       rw [hox] at aX
       cases hoy:o y with
       | true =>
         rw [hoy] at aY
         have nx:=g2.skip e1 (by simp [hoy])
         refine W_T ?_
         (repeat' (first|(simp (disch:=omega) only [push_cast,↓zz,seval,pR,pF,lB,pB,hn,hre,hx,hy,hgr,hot,aX,aY])|(with_reducible first|refine And.intro ?_ ?_|(first|refine Ab ?_ ?_|refine Aa ?_ ?_)<;>intro hc<;>(try simp only [push_cast] at hc))|omega|with_reducible intro _))
         all_goals
           refine ⟨(o,mo,i + 1),?_⟩
           (repeat' (first|(simp (disch:=omega) only [push_cast,↓zz,seval,pB])|(with_reducible first|refine And.intro ?_ ?_|(first|refine Ab ?_ ?_|refine Aa ?_ ?_)<;>intro hc<;>(try simp only [push_cast] at hc))|omega|with_reducible intro _))
           try exact nx
       | false =>
         rw [hoy] at aY
         have nx:=g2.take e2 hox hoy hyn
         refine W_T ?_
         (repeat' (first|(simp (disch:=omega) only [push_cast,↓zz,seval,pR,pF,lB,pB,hn,hre,hx,hy,hgr,hot,aX,aY,fY])|(with_reducible first|refine And.intro ?_ ?_|(first|refine Ab ?_ ?_|refine Aa ?_ ?_)<;>intro hc<;>(try simp only [push_cast] at hc))|omega|with_reducible intro _))
         all_goals
           refine ⟨(setB o y,true,i + 1),?_⟩
           (repeat' (first|(simp (disch:=omega) only [push_cast,↓zz,seval,pB])|(with_reducible first|refine And.intro ?_ ?_|(first|refine Ab ?_ ?_|refine Aa ?_ ?_)<;>intro hc<;>(try simp only [push_cast] at hc))|omega|with_reducible intro _))
           try exact nx
   · obtain rfl:i=d.rules.length:=by omega
     have hc:=Fe o n
     refine W_T ?_
     (repeat' (first|(simp (disch:=omega) only [push_cast,↓zz,seval,pR,pF,lB,pB,hn])|(with_reducible first|refine And.intro ?_ ?_|(first|refine Ab ?_ ?_|refine Aa ?_ ?_)<;>intro hc<;>(try simp only [push_cast] at hc))|omega|with_reducible intro _))
     refine ⟨(o,mo),?_⟩
     cases mo with
     | false =>
       have hd:=g2.no rfl
       rw [← hel] at g2
       have hdn:=g2.done
       have hin:=g2.inv
       obtain ⟨rfl,_⟩:=hd
       (repeat' (first|(simp (disch:=omega) only [push_cast,↓zz,seval,pB])|(with_reducible first|refine And.intro ?_ ?_|(first|refine Ab ?_ ?_|refine Aa ?_ ?_)<;>intro hc<;>(try simp only [push_cast] at hc))|omega|with_reducible intro _))
       all_goals first|assumption|(simp only;omega)|trace_state
     | true =>
       have hy:=g2.yes rfl
       have hin:=g2.inv
       (repeat' (first|(simp (disch:=omega) only [push_cast,↓zz,seval,pB])|(with_reducible first|refine And.intro ?_ ?_|(first|refine Ab ?_ ?_|refine Aa ?_ ?_)<;>intro hc<;>(try simp only [push_cast] at hc))|omega|with_reducible intro _))
       all_goals first|assumption|(simp only;omega)|trace_state
def memB (F:List Int) (k i:Nat):Bool:=decide ((i:Int) ∈ F.take k)
theorem zim {n k x:Nat} {F:List Int} (hk:k < F.length) (hx:nth F k=x) (hxn:x < n):(spB n (memB F k)).set x (.bool true)=spB n (memB F (k + 1)):=by
 rw [Q0 hxn,spB,spB]
 refine List.map_congr_left fun i _=>?_
 congr 1
 unfold setB memB
 rw [take_at hk,hx]
 by_cases e:i=x
 · subst e;simp
 · rw [if_neg e]
   have:¬ (i:Int)=(x:Int):=by omega
   simp [this]
theorem Z8 (d:Desc) (h:Wf d):PC Tryz.prog 18 [By d] (Eq (goL d)):=by
 obtain ⟨n,hn,hn1,hn2⟩:=h.n
 have hr:=h.bwd hn
 have hrl:=h.rl
 have hfl:=h.fl
 have pR:=Bj d.rules
 have pF:=Bg d.finals
 have hel:(bwdE d).length=d.rules.length:=by simp [bwdE]
 have hfe:(endE d).length=d.finals.length:=by simp [endE]
 have ec:goL d=Cj n (endE d) (bwdE d):=by rw [goL,hn];rfl
 rw [ec]
 have fB:=z6a n
 have lB:∀ on,(spB n on).length=n:=fun on=>by simp [spB]
 have pB:=z6b n
 have aB:∀ on i,i < n→(spB n on).getD i .any=.bool (on i):=fun on i hi=>Bq hi
 refine A9 Rt ?_
 unfold Jj
 (repeat' (first|(simp (disch:=omega) only [push_cast,↓zz,seval,pR,pF,hn,fB,lB,pB])|(with_reducible first|refine And.intro ?_ ?_|(first|refine Ab ?_ ?_|refine Aa ?_ ?_)<;>intro hc<;>(try simp only [push_cast] at hc))|omega|with_reducible intro _))
 refine Ao (Ap (fun (k:Nat)=>k ≤ d.finals.length) (fun k=>d.finals.length - k)
   (fun k=>[(1,.ptr 0 1 0 0),(3,.ref 1 1 0 n),(4,.int .i64 k)]) (fun k=>[⟨6,1,true,[By d]⟩,⟨1,1,true,spB n (memB (endE d) k)⟩]) (fun env _=>[Aw 6 (env 1),Aw 1 (env 3)]) 0 (by simp) ?_ ?_)
 · have e0:memB (endE d) 0=fun _=>false:=funext fun i=>by simp [memB]
   (repeat' (first|(simp (disch:=omega) only [push_cast,↓zz,seval,pR,pF,pB,hn,e0])|(with_reducible first|refine And.intro ?_ ?_|(first|refine Ab ?_ ?_|refine Aa ?_ ?_)<;>intro hc<;>(try simp only [push_cast] at hc))|omega|with_reducible intro _))
 intro k hk
 rcases Nat.lt_or_ge k d.finals.length with hkl|hkl
 · have hrr:=h.f _ (Au hkl)
   have hee:nth (endE d) k=(nth d.finals k).from_:=z8u hkl
   have hms:=fun x=>zim (n:=n) (k:=k) (x:=x) (F:=endE d) (by omega)
   generalize hre:nth d.finals k=r at *
   have hgr:=Ae r.guards
   have hot:=Bb r.out
   obtain ⟨x,hx⟩:∃ x:Nat,r.from_=x:=⟨r.from_.toNat,by omega⟩
   have hm:=hms x (by rw [hee,hx]) (by omega)
   have hxn:x < n:=by omega
   refine W_T ?_
   (repeat' (first|(simp (disch:=omega) only [push_cast,↓zz,seval,pR,pF,lB,pB,hn,hre,hx,hgr,hot,hm])|(with_reducible first|refine And.intro ?_ ?_|(first|refine Ab ?_ ?_|refine Aa ?_ ?_)<;>intro hc<;>(try simp only [push_cast] at hc))|omega|with_reducible intro _))
   all_goals
     refine ⟨k + 1,?_⟩
     (repeat' (first|(simp (disch:=omega) only [push_cast,↓zz,seval,pB])|(with_reducible first|refine And.intro ?_ ?_|(first|refine Ab ?_ ?_|refine Aa ?_ ?_)<;>intro hc<;>(try simp only [push_cast] at hc))|omega|with_reducible intro _))
 obtain rfl:k=d.finals.length:=by omega
 have inv0:RInv n (endE d) (bwdE d) (memB (endE d) d.finals.length):=⟨fun i hi=>.base (by
     have:=of_decide_eq_true hi
     exact List.mem_of_mem_take this),fun x hx=>by
     have hx2:=hr.f x hx
     have e:((x.toNat:Nat):Int)=x:=by omega
     simp only [memB,e,← hfe,List.take_length,decide_eq_true_eq]
     exact hx⟩
 generalize memB (endE d) d.finals.length=on0 at *
 refine W_T ?_
 (repeat' (first|(simp (disch:=omega) only [push_cast,↓zz,seval,pR,pF,lB,pB,hn])|(with_reducible first|refine And.intro ?_ ?_|(first|refine Ab ?_ ?_|refine Aa ?_ ?_)<;>intro hc<;>(try simp only [push_cast] at hc))|omega|with_reducible intro _))
 refine Ao (Ap (fun (q:(Nat→Bool) × Bool)=>RInv n (endE d) (bwdE d) q.1∧(q.2=false→∀ e ∈ bwdE d,q.1 e.1.toNat=true→q.1 e.2.toNat=true)) (fun q=>2 * (n - cntB q.1 n) + if q.2 then 1 else 0)
   (fun q=>[(1,.ptr 0 1 0 0),(3,.ref 1 1 0 n),(5,.bool q.2)]) (fun q=>[⟨6,1,true,[By d]⟩,⟨1,1,true,spB n q.1⟩]) (fun env _=>[Aw 6 (env 1),Aw 1 (env 3)]) (on0,true) ⟨inv0,fun h=>(by cases h)⟩ ?_ ?_)
 · (repeat' (first|(simp (disch:=omega) only [push_cast,↓zz,seval,pR,pF,pB,hn])|(with_reducible first|refine And.intro ?_ ?_|(first|refine Ab ?_ ?_|refine Aa ?_ ?_)<;>intro hc<;>(try simp only [push_cast] at hc))|omega|with_reducible intro _))
 rintro ⟨on,more⟩ ⟨h1,h2⟩
 simp only at h1 h2
 cases more with
 | false =>
   have hreach:=Lz hr h1.sound h1.base (h2 rfl)
   have hB:=Z7 (n:=n) (F:=endE d) (E:=bwdE d) (on:=on) fun i=>(hreach i).symm
   have rl:=Du n (endE d) (bwdE d)
   have rt:List.take n (Cj n (endE d) (bwdE d))=Cj n (endE d) (bwdE d):=List.take_of_length_le (by rw [rl];exact Nat.le_refl _)
   have pb:=Df (Cj n (endE d) (bwdE d))
   refine W_T ?_
   (repeat' (first|(simp (disch:=omega) only [push_cast,↓zz,seval,pR,pF,lB,pB,hB,rl,rt,pb])|(with_reducible first|refine And.intro ?_ ?_|(first|refine Ab ?_ ?_|refine Aa ?_ ?_)<;>intro hc<;>(try simp only [push_cast] at hc))|omega|with_reducible intro _))
 | true =>
   clear h2
   refine W_T ?_
   (repeat' (first|(simp (disch:=omega) only [push_cast,↓zz,seval,pR,pF,lB,pB,hn])|(with_reducible first|refine And.intro ?_ ?_|(first|refine Ab ?_ ?_|refine Aa ?_ ?_)<;>intro hc<;>(try simp only [push_cast] at hc))|omega|with_reducible intro _))
   refine Ao (Ap (fun (q:(Nat→Bool) × Bool × Nat)=>q.2.2 ≤ d.rules.length∧RIn n (endE d) (bwdE d) on q.1 q.2.1 q.2.2) (fun q=>d.rules.length - q.2.2)
     (fun q=>[(1,.ptr 0 1 0 0),(3,.ref 1 1 0 n),(5,.bool q.2.1),(6,.int .i64 q.2.2)]) (fun q=>[⟨6,1,true,[By d]⟩,⟨1,1,true,spB n q.1⟩]) (fun env _=>[Aw 6 (env 1),Aw 1 (env 3)]) (on,false,0) ⟨by simp,RIn.start h1⟩ ?_ ?_)
   · (repeat' (first|(simp (disch:=omega) only [push_cast,↓zz,seval,pR,pF,pB,hn])|(with_reducible first|refine And.intro ?_ ?_|(first|refine Ab ?_ ?_|refine Aa ?_ ?_)<;>intro hc<;>(try simp only [push_cast] at hc))|omega|with_reducible intro _))
   rintro ⟨o,mo,i⟩ ⟨g1,g2⟩
   simp only at g1 g2
   rcases Nat.lt_or_ge i d.rules.length with hil|hil
   · have hrr:=h.r _ (Au hil)
     have hat:=fun x y=>zrg (d:=d) (i:=i) (x:=x) (y:=y) hil
     generalize hre:nth d.rules i=r at *
     have hgr:=Ae r.guards
     have hot:=Bb r.out
     obtain ⟨y,hy⟩:∃ y:Nat,r.from_=y:=⟨r.from_.toNat,by omega⟩
     obtain ⟨x,hx⟩:∃ x:Nat,r.to_=x:=⟨r.to_.toNat,by omega⟩
     have hxn:x < n:=by omega
     have hyn:y < n:=by omega
     obtain ⟨e1,e2⟩:=hat y x hy hx
     have aX:=aB o x hxn
     have aY:=aB o y hyn
     have fY:=Q0 (on:=o) hyn
     cases hox:o x with
     | false =>
       rw [hox] at aX
       have nx:=g2.skip e1 (by simp [hox])
       refine W_T ?_
       (repeat' (first|(simp (disch:=omega) only [push_cast,↓zz,seval,pR,pF,lB,pB,hn,hre,hx,hy,hgr,hot,aX])|(with_reducible first|refine And.intro ?_ ?_|(first|refine Ab ?_ ?_|refine Aa ?_ ?_)<;>intro hc<;>(try simp only [push_cast] at hc))|omega|with_reducible intro _))
       all_goals
         refine ⟨(o,mo,i + 1),?_⟩
         (repeat' (first|(simp (disch:=omega) only [push_cast,↓zz,seval,pB])|(with_reducible first|refine And.intro ?_ ?_|(first|refine Ab ?_ ?_|refine Aa ?_ ?_)<;>intro hc<;>(try simp only [push_cast] at hc))|omega|with_reducible intro _))
         try exact nx
     | true =>
       rw [hox] at aX
       cases hoy:o y with
       | true =>
         rw [hoy] at aY
         have nx:=g2.skip e1 (by simp [hoy])
         refine W_T ?_
         (repeat' (first|(simp (disch:=omega) only [push_cast,↓zz,seval,pR,pF,lB,pB,hn,hre,hx,hy,hgr,hot,aX,aY])|(with_reducible first|refine And.intro ?_ ?_|(first|refine Ab ?_ ?_|refine Aa ?_ ?_)<;>intro hc<;>(try simp only [push_cast] at hc))|omega|with_reducible intro _))
         all_goals
           refine ⟨(o,mo,i + 1),?_⟩
           (repeat' (first|(simp (disch:=omega) only [push_cast,↓zz,seval,pB])|(with_reducible first|refine And.intro ?_ ?_|(first|refine Ab ?_ ?_|refine Aa ?_ ?_)<;>intro hc<;>(try simp only [push_cast] at hc))|omega|with_reducible intro _))
           try exact nx
       | false =>
         rw [hoy] at aY
         have nx:=g2.take e2 hox hoy hyn
         refine W_T ?_
         (repeat' (first|(simp (disch:=omega) only [push_cast,↓zz,seval,pR,pF,lB,pB,hn,hre,hx,hy,hgr,hot,aX,aY,fY])|(with_reducible first|refine And.intro ?_ ?_|(first|refine Ab ?_ ?_|refine Aa ?_ ?_)<;>intro hc<;>(try simp only [push_cast] at hc))|omega|with_reducible intro _))
         all_goals
           refine ⟨(setB o y,true,i + 1),?_⟩
           (repeat' (first|(simp (disch:=omega) only [push_cast,↓zz,seval,pB])|(with_reducible first|refine And.intro ?_ ?_|(first|refine Ab ?_ ?_|refine Aa ?_ ?_)<;>intro hc<;>(try simp only [push_cast] at hc))|omega|with_reducible intro _))
           try exact nx
   · obtain rfl:i=d.rules.length:=by omega
     have hc:=Fe o n
     refine W_T ?_
     (repeat' (first|(simp (disch:=omega) only [push_cast,↓zz,seval,pR,pF,lB,pB,hn])|(with_reducible first|refine And.intro ?_ ?_|(first|refine Ab ?_ ?_|refine Aa ?_ ?_)<;>intro hc<;>(try simp only [push_cast] at hc))|omega|with_reducible intro _))
     refine ⟨(o,mo),?_⟩
     cases mo with
     | false =>
       have hd:=g2.no rfl
       rw [← hel] at g2
       have hdn:=g2.done
       have hin:=g2.inv
       obtain ⟨rfl,_⟩:=hd
       (repeat' (first|(simp (disch:=omega) only [push_cast,↓zz,seval,pB])|(with_reducible first|refine And.intro ?_ ?_|(first|refine Ab ?_ ?_|refine Aa ?_ ?_)<;>intro hc<;>(try simp only [push_cast] at hc))|omega|with_reducible intro _))
       all_goals first|assumption|(simp only;omega)|trace_state
     | true =>
       have hy:=g2.yes rfl
       have hin:=g2.inv
       (repeat' (first|(simp (disch:=omega) only [push_cast,↓zz,seval,pB])|(with_reducible first|refine And.intro ?_ ?_|(first|refine Ab ?_ ?_|refine Aa ?_ ?_)<;>intro hc<;>(try simp only [push_cast] at hc))|omega|with_reducible intro _))
       all_goals first|assumption|(simp only;omega)|trace_state
end Go.Proofs.YticodgjinajkpaaGreat
namespace Go.Proofs.YticodgjinajkpaaGreat
open Abs
theorem Z9 (A B:List Bool) (u:Nat→Bool) (n x:Nat) (hA:A.length=n) (hB:B.length=n) (hn:n ≤ 1024) (hu:∀ i,i < n→u i=(nth A i && nth B i)) (hx:x < n) :
   PC Tryz.prog 37 [Eq A,Eq B,.int .i64 x] (.int .i64 (numB u x)):=by
 have pA:=Df A
 have pB:=Df B
 refine A9 Ru ?_
 unfold Jk
 (repeat' (first|(simp (disch:=omega) only [push_cast,↓zz,seval,pA,pB])|(with_reducible first|refine And.intro ?_ ?_|(first|refine Ab ?_ ?_|refine Aa ?_ ?_)<;>intro hc<;>(try simp only [push_cast] at hc))|omega|with_reducible intro _))
 refine Ao (Ap (fun (k:Nat)=>k ≤ x) (fun k=>x - k)
   (fun k=>[(0,Eq A),(1,Eq B),(2,.int .i64 x),(7,.int .i64 (cntB u k:Nat)),(8,.int .i64 k)]) (fun _=>[]) (fun _ _=>[]) 0 (by simp) ?_ ?_)
 · have e0:cntB u 0=0:=rfl
   (repeat' (first|(simp (disch:=omega) only [push_cast,↓zz,seval,pA,pB,e0])|(with_reducible first|refine And.intro ?_ ?_|(first|refine Ab ?_ ?_|refine Aa ?_ ?_)<;>intro hc<;>(try simp only [push_cast] at hc))|omega|with_reducible intro _))
 intro k hk
 have hcs:=D8 u k
 have hcl:=Fe u k
 have huk:=hu k (by omega)
 rcases Nat.lt_or_ge k x with hkx|hkx
 · cases hck:nth A k with
   | true =>
     cases hgk:nth B k with
     | true =>
       rw [hck,hgk,Bool.and_self] at huk
       rw [if_pos huk] at hcs
       refine W_T ?_
       (repeat' (first|(simp (disch:=omega) only [push_cast,↓zz,seval,pA,pB,hck,hgk])|(with_reducible first|refine And.intro ?_ ?_|(first|refine Ab ?_ ?_|refine Aa ?_ ?_)<;>intro hc<;>(try simp only [push_cast] at hc))|omega|with_reducible intro _))
       all_goals
         refine ⟨k + 1,?_⟩
         (repeat' (first|(simp (disch:=omega) only [push_cast,↓zz,seval,hcs])|(with_reducible first|refine And.intro ?_ ?_|(first|refine Ab ?_ ?_|refine Aa ?_ ?_)<;>intro hc<;>(try simp only [push_cast] at hc))|omega|with_reducible intro _))
     | false =>
       rw [hck,hgk,Bool.and_false] at huk
       rw [if_neg (by simp [huk])] at hcs
       refine W_T ?_
       (repeat' (first|(simp (disch:=omega) only [push_cast,↓zz,seval,pA,pB,hck,hgk])|(with_reducible first|refine And.intro ?_ ?_|(first|refine Ab ?_ ?_|refine Aa ?_ ?_)<;>intro hc<;>(try simp only [push_cast] at hc))|omega|with_reducible intro _))
       all_goals
         refine ⟨k + 1,?_⟩
         (repeat' (first|(simp (disch:=omega) only [push_cast,↓zz,seval,hcs])|(with_reducible first|refine And.intro ?_ ?_|(first|refine Ab ?_ ?_|refine Aa ?_ ?_)<;>intro hc<;>(try simp only [push_cast] at hc))|omega|with_reducible intro _))
   | false =>
     rw [hck,Bool.false_and] at huk
     rw [if_neg (by simp [huk])] at hcs
     refine W_T ?_
     (repeat' (first|(simp (disch:=omega) only [push_cast,↓zz,seval,pA,pB,hck])|(with_reducible first|refine And.intro ?_ ?_|(first|refine Ab ?_ ?_|refine Aa ?_ ?_)<;>intro hc<;>(try simp only [push_cast] at hc))|omega|with_reducible intro _))
     all_goals
       refine ⟨k + 1,?_⟩
       (repeat' (first|(simp (disch:=omega) only [push_cast,↓zz,seval,hcs])|(with_reducible first|refine And.intro ?_ ?_|(first|refine Ab ?_ ?_|refine Aa ?_ ?_)<;>intro hc<;>(try simp only [push_cast] at hc))|omega|with_reducible intro _))
 · obtain rfl:k=x:=by omega
   cases hck:nth A k with
   | true =>
     cases hgk:nth B k with
     | true =>
       rw [hck,hgk,Bool.and_self] at huk
       rw [Da huk]
       refine W_T ?_
       (repeat' (first|(simp (disch:=omega) only [push_cast,↓zz,seval,pA,pB,hck,hgk])|(with_reducible first|refine And.intro ?_ ?_|(first|refine Ab ?_ ?_|refine Aa ?_ ?_)<;>intro hc<;>(try simp only [push_cast] at hc))|omega|with_reducible intro _))
     | false =>
       rw [hck,hgk,Bool.and_false] at huk
       rw [Gh huk]
       refine W_T ?_
       (repeat' (first|(simp (disch:=omega) only [push_cast,↓zz,seval,pA,pB,hck,hgk])|(with_reducible first|refine And.intro ?_ ?_|(first|refine Ab ?_ ?_|refine Aa ?_ ?_)<;>intro hc<;>(try simp only [push_cast] at hc))|omega|with_reducible intro _))
   | false =>
     rw [hck,Bool.false_and] at huk
     rw [Gh huk]
     refine W_T ?_
     (repeat' (first|(simp (disch:=omega) only [push_cast,↓zz,seval,pA,pB,hck])|(with_reducible first|refine And.intro ?_ ?_|(first|refine Ab ?_ ?_|refine Aa ?_ ?_)<;>intro hc<;>(try simp only [push_cast] at hc))|omega|with_reducible intro _))
     all_goals trace_state
theorem z98 (d:Desc) (hw:Wf d):PC Tryz.prog 20 [By d] (By (Jg d)):=by
 obtain ⟨n,hn,hn1,hn2⟩:=hw.n
 have h1:=z38 d hw
 have h2:=Z8 d hw
 have hst:=hw.start
 have hrl:=hw.rl
 have hfl:=hw.fl
 obtain ⟨s,hs⟩:∃ s:Nat,d.start=s:=⟨d.start.toNat,by omega⟩
 have hsn:s < n:=by omega
 have pR:=Bj d.rules
 have pF:=Bg d.finals
 have cL:Ew d=Cj n [d.start] (fwdE d):=by rw [Ew,hn];rfl
 have gL:goL d=Cj n (endE d) (bwdE d):=by rw [goL,hn];rfl
 have l1:(Ew d).length=n:=by rw [cL,Du]
 have l2:(goL d).length=n:=by rw [gL,Du]
 have a1:∀ i,i < n→nth (Ew d) i=C3 (fwdE d) [d.start] i:=fun i hi=>by rw [cL];exact Fs hi
 have a2:∀ i,i < n→nth (goL d) i=C3 (bwdE d) (endE d) i:=fun i hi=>by rw [gL];exact Fs hi
 have a3:=a2 s hsn
 have pC:=Df (Ew d)
 have pG:=Df (goL d)
 have hu:∀ i,i < n→Cv d i=(nth (Ew d) i && nth (goL d) i):=fun i hi=>by rw [a1 i hi,a2 i hi];rfl
 have hN:=fun x (hx:x < n)=>Z9 (Ew d) (goL d) (Cv d) n x l1 l2 hn2 hu hx
 have hst2:d.start.toNat=s:=by omega
 have hsT:d.states.toNat=n:=by omega
 unfold Jg
 rw [hst2,hsT]
 generalize Ew d=CL at *
 generalize goL d=GL at *
 generalize hu0:Cv d=u at *
 have hNs:=hN s hsn
 refine A9 X9 ?_
 unfold M5
 cases hb:C3 (bwdE d) (endE d) s with
 | false =>
   rw [hb] at a3
   rw [if_pos rfl]
   (repeat' (first|(simp (disch:=omega) only [push_cast,↓zz,seval,pR,pF,pC,pG,hs,hn,a3,Jt])|(with_reducible first|refine And.intro ?_ ?_|(first|refine Ab ?_ ?_|refine Aa ?_ ?_)<;>intro hc<;>(try simp only [push_cast] at hc)|refine eK h1 ?_|refine eQ h1 ?_|refine eG h1 ?_|refine eK h2 ?_|refine eQ h2 ?_|refine eG h2 ?_)|((with_reducible first|refine cK h1 ?_|refine cQ h1 ?_|refine cG h1 ?_);(simp (disch:=omega) only [push_cast,↓zz,seval,pR,pF,pC,pG,hs,hn,a3,Jt]);(fail_if_success with_reducible change False))|((with_reducible first|refine cK h2 ?_|refine cQ h2 ?_|refine cG h2 ?_);(simp (disch:=omega) only [push_cast,↓zz,seval,pR,pF,pC,pG,hs,hn,a3,Jt]);(fail_if_success with_reducible change False))|omega|with_reducible intro _))
 | true =>
   rw [hb] at a3
   rw [if_neg (by simp)]
   generalize numB u s=ns at *
   (repeat' (first|(simp (disch:=omega) only [push_cast,↓zz,seval,pR,pF,pC,pG,hs,hn,a3])|(with_reducible first|refine And.intro ?_ ?_|(first|refine Ab ?_ ?_|refine Aa ?_ ?_)<;>intro hc<;>(try simp only [push_cast] at hc)|refine eK h1 ?_|refine eQ h1 ?_|refine eG h1 ?_|refine eK h2 ?_|refine eQ h2 ?_|refine eG h2 ?_|refine eK hNs ?_|refine eQ hNs ?_|refine eG hNs ?_)|((with_reducible first|refine cK h1 ?_|refine cQ h1 ?_|refine cG h1 ?_);(simp (disch:=omega) only [push_cast,↓zz,seval,pR,pF,pC,pG,hs,hn,a3]);(fail_if_success with_reducible change False))|((with_reducible first|refine cK h2 ?_|refine cQ h2 ?_|refine cG h2 ?_);(simp (disch:=omega) only [push_cast,↓zz,seval,pR,pF,pC,pG,hs,hn,a3]);(fail_if_success with_reducible change False))|omega|with_reducible intro _))
   refine Ao (Ap (fun (k:Nat)=>k ≤ n) (fun k=>n - k)
     (fun k=>[(1,.ptr 0 1 0 0),(2,.ptr 1 1 0 0),(3,Eq CL),(4,Eq GL),(5,.ptr 2 1 0 0),(6,.int .i64 k)]) (fun k=>[⟨6,1,true,[By d]⟩,⟨6,1,true,[Rb]⟩,⟨6,1,true,[.agg [.int .i64 d.in_,.int .i64 d.out,.int .i64 (cntB u k:Nat),.int .i64 ns,.nilS,.nilS]]⟩]) (fun env _=>[Aw 6 (env 1),Aw 6 (env 2),Aw 6 (env 5)]) 0 (by simp) ?_ ?_)
   · have e1:cntB u 0=0:=rfl
     (repeat' (first|(simp (disch:=omega) only [push_cast,↓zz,seval,pR,pF,pC,pG,e1,hs])|(with_reducible first|refine And.intro ?_ ?_|(first|refine Ab ?_ ?_|refine Aa ?_ ?_)<;>intro hc<;>(try simp only [push_cast] at hc))|omega|with_reducible intro _))
   intro k hk
   rcases Nat.lt_or_ge k n with hkn|hkn
   · have huk:=hu k hkn
     have hcs:=D8 u k
     have hcl:=Fe u k
     cases hck:nth CL k with
     | true =>
       cases hgk:nth GL k with
       | true =>
         rw [hck,hgk,Bool.and_self] at huk
         rw [if_pos huk] at hcs
         refine W_T ?_
         (repeat' (first|(simp (disch:=omega) only [push_cast,↓zz,seval,pR,pF,pC,pG,hn,hck,hgk])|(with_reducible first|refine And.intro ?_ ?_|(first|refine Ab ?_ ?_|refine Aa ?_ ?_)<;>intro hc<;>(try simp only [push_cast] at hc))|omega|with_reducible intro _))
         all_goals
           refine ⟨k + 1,?_⟩
           (repeat' (first|(simp (disch:=omega) only [push_cast,↓zz,seval,hcs])|(with_reducible first|refine And.intro ?_ ?_|(first|refine Ab ?_ ?_|refine Aa ?_ ?_)<;>intro hc<;>(try simp only [push_cast] at hc))|omega|with_reducible intro _))
       | false =>
         rw [hck,hgk,Bool.and_false] at huk
         rw [if_neg (by simp [huk])] at hcs
         refine W_T ?_
         (repeat' (first|(simp (disch:=omega) only [push_cast,↓zz,seval,pR,pF,pC,pG,hn,hck,hgk])|(with_reducible first|refine And.intro ?_ ?_|(first|refine Ab ?_ ?_|refine Aa ?_ ?_)<;>intro hc<;>(try simp only [push_cast] at hc))|omega|with_reducible intro _))
         all_goals
           refine ⟨k + 1,?_⟩
           (repeat' (first|(simp (disch:=omega) only [push_cast,↓zz,seval,hcs])|(with_reducible first|refine And.intro ?_ ?_|(first|refine Ab ?_ ?_|refine Aa ?_ ?_)<;>intro hc<;>(try simp only [push_cast] at hc))|omega|with_reducible intro _))
     | false =>
       rw [hck,Bool.false_and] at huk
       rw [if_neg (by simp [huk])] at hcs
       refine W_T ?_
       (repeat' (first|(simp (disch:=omega) only [push_cast,↓zz,seval,pR,pF,pC,pG,hn,hck])|(with_reducible first|refine And.intro ?_ ?_|(first|refine Ab ?_ ?_|refine Aa ?_ ?_)<;>intro hc<;>(try simp only [push_cast] at hc))|omega|with_reducible intro _))
       all_goals
         refine ⟨k + 1,?_⟩
         (repeat' (first|(simp (disch:=omega) only [push_cast,↓zz,seval,hcs])|(with_reducible first|refine And.intro ?_ ?_|(first|refine Ab ?_ ?_|refine Aa ?_ ?_)<;>intro hc<;>(try simp only [push_cast] at hc))|omega|with_reducible intro _))
   have hkn2:k=n:=by omega
   subst hkn2
   refine W_T ?_
   (repeat' (first|(simp (disch:=omega) only [push_cast,↓zz,seval,pR,pF,pC,pG,hn])|(with_reducible first|refine And.intro ?_ ?_|(first|refine Ab ?_ ?_|refine Aa ?_ ?_)<;>intro hc<;>(try simp only [push_cast] at hc))|omega|with_reducible intro _))
   have hkR:=fun j (hj:j < d.rules.length)=>Tv u hj
   refine Ao (Ap (fun (j:Nat)=>j ≤ d.rules.length) (fun j=>d.rules.length - j)
     (fun j=>[(1,.ptr 0 1 0 0),(2,.ptr 1 1 0 0),(3,Eq CL),(4,Eq GL),(5,.ptr 2 1 0 0),(7,.int .i64 j)]) (fun j=>[⟨6,1,true,[By d]⟩,⟨6,1,true,[Rb]⟩,⟨6,1,true,[.agg [.int .i64 d.in_,.int .i64 d.out,.int .i64 (cntB u k:Nat),.int .i64 ns,.ref 3 1 0 (Fl u (d.rules.take j)).length,.ref 4 1 0 ([]:List Fc).length]]⟩,⟨5,1,false,(Fl u (d.rules.take j)).map Md⟩,⟨3,1,false,([]:List Fc).map Kt⟩]) (fun env H=>[Aw 6 (env 1),Aw 6 (env 2),Aw 6 (env 5),Aw 5 (cellAt H (env 5) 4),Aw 3 (cellAt H (env 5) 5)]) 0 (by simp) ?_ ?_)
   · have e0:Fl u []=[]:=rfl
     (repeat' (first|(simp (disch:=omega) only [push_cast,↓zz,seval,pR,pF,pC,pG,e0])|(with_reducible first|refine And.intro ?_ ?_|(first|refine Ab ?_ ?_|refine Aa ?_ ?_)<;>intro hc<;>(try simp only [push_cast] at hc))|omega|with_reducible intro _))
   intro j hj
   have pK:=Bj (Fl u (d.rules.take j))
   have lK:=Q9 u (d.rules.take j)
   rw [List.length_take] at lK
   rcases Nat.lt_or_ge j d.rules.length with hjl|hjl
   · have hr:=hw.r _ (Au hjl)
     have e1:=hkR j hjl
     generalize hre:nth d.rules j=r at *
     have hgr:=Ae r.guards
     have hot:=Bb r.out
     obtain ⟨x,hx⟩:∃ x:Nat,r.from_=x:=⟨r.from_.toNat,by omega⟩
     obtain ⟨y,hy⟩:∃ y:Nat,r.to_=y:=⟨r.to_.toNat,by omega⟩
     have nX0:=hN x (by omega)
     have nY0:=hN y (by omega)
     rw [hx,hy,Int.toNat_natCast,Int.toNat_natCast] at e1
     have cx:=Fe u x
     have cy:=Fe u y
     generalize Fl u (d.rules.take j)=K at *
     cases hux:u x with
     | true =>
       have nX:=Da hux
       rw [nX] at nX0
       cases huy:u y with
       | true =>
         have nY:=Da huy
         rw [nY] at nY0
         rw [if_pos (by rw [hux,huy];rfl),nX,nY] at e1
         refine W_T ?_
         (repeat' (first|(simp (disch:=omega) only [push_cast,↓zz,seval,pR,pF,pC,pG,hre,hgr,hot,hx,hy,pK])|(with_reducible first|refine And.intro ?_ ?_|(first|refine Ab ?_ ?_|refine Aa ?_ ?_)<;>intro hc<;>(try simp only [push_cast] at hc)|refine eK nX0 ?_|refine eQ nX0 ?_|refine eK nY0 ?_|refine eQ nY0 ?_)|omega|with_reducible intro _))
         all_goals
           refine ⟨j + 1,?_⟩
           (repeat' (first|(simp (disch:=omega) only [push_cast,↓zz,seval,e1,pK])|(with_reducible first|refine And.intro ?_ ?_|(first|refine Ab ?_ ?_|refine Aa ?_ ?_)<;>intro hc<;>(try simp only [push_cast] at hc))|omega|with_reducible intro _))
       | false =>
         have nY:=Gh huy
         rw [nY] at nY0
         rw [if_neg (by rw [hux,huy];simp)] at e1
         refine W_T ?_
         (repeat' (first|(simp (disch:=omega) only [push_cast,↓zz,seval,pR,pF,pC,pG,hre,hgr,hot,hx,hy,pK])|(with_reducible first|refine And.intro ?_ ?_|(first|refine Ab ?_ ?_|refine Aa ?_ ?_)<;>intro hc<;>(try simp only [push_cast] at hc)|refine eK nX0 ?_|refine eQ nX0 ?_|refine eK nY0 ?_|refine eQ nY0 ?_)|omega|with_reducible intro _))
         all_goals
           refine ⟨j + 1,?_⟩
           (repeat' (first|(simp (disch:=omega) only [push_cast,↓zz,seval,e1,pK])|(with_reducible first|refine And.intro ?_ ?_|(first|refine Ab ?_ ?_|refine Aa ?_ ?_)<;>intro hc<;>(try simp only [push_cast] at hc))|omega|with_reducible intro _))
     | false =>
       have nX:=Gh hux
       rw [nX] at nX0
       rw [if_neg (by rw [hux];simp)] at e1
       generalize numB u y=ny at *
       refine W_T ?_
       (repeat' (first|(simp (disch:=omega) only [push_cast,↓zz,seval,pR,pF,pC,pG,hre,hgr,hot,hx,hy,pK])|(with_reducible first|refine And.intro ?_ ?_|(first|refine Ab ?_ ?_|refine Aa ?_ ?_)<;>intro hc<;>(try simp only [push_cast] at hc)|refine eK nX0 ?_|refine eQ nX0 ?_|refine eK nY0 ?_|refine eQ nY0 ?_)|omega|with_reducible intro _))
       all_goals
         refine ⟨j + 1,?_⟩
         (repeat' (first|(simp (disch:=omega) only [push_cast,↓zz,seval,e1,pK])|(with_reducible first|refine And.intro ?_ ?_|(first|refine Ab ?_ ?_|refine Aa ?_ ?_)<;>intro hc<;>(try simp only [push_cast] at hc))|omega|with_reducible intro _))
   obtain rfl:j=d.rules.length:=by omega
   have et:d.rules.take d.rules.length=d.rules:=List.take_of_length_le (by omega)
   rw [et] at pK lK ⊢
   refine W_T ?_
   (repeat' (first|(simp (disch:=omega) only [push_cast,↓zz,seval,pR,pF,pC,pG,pK,et])|(with_reducible first|refine And.intro ?_ ?_|(first|refine Ab ?_ ?_|refine Aa ?_ ?_)<;>intro hc<;>(try simp only [push_cast] at hc))|omega|with_reducible intro _))
   have hkF:=fun j (hj:j < d.finals.length)=>Tw u hj
   generalize hKR:Fl u d.rules=KR at *
   refine Ao (Ap (fun (j:Nat)=>j ≤ d.finals.length) (fun j=>d.finals.length - j)
     (fun j=>[(1,.ptr 0 1 0 0),(2,.ptr 1 1 0 0),(3,Eq CL),(4,Eq GL),(5,.ptr 2 1 0 0),(11,.int .i64 j)]) (fun j=>[⟨6,1,true,[By d]⟩,⟨6,1,true,[Rb]⟩,⟨6,1,true,[.agg [.int .i64 d.in_,.int .i64 d.out,.int .i64 (cntB u k:Nat),.int .i64 ns,.ref 3 1 0 KR.length,.ref 4 1 0 (F1 u (d.finals.take j)).length]]⟩,⟨5,1,false,KR.map Md⟩,⟨3,1,false,(F1 u (d.finals.take j)).map Kt⟩]) (fun env H=>[Aw 6 (env 1),Aw 6 (env 2),Aw 6 (env 5),Aw 5 (cellAt H (env 5) 4),Aw 3 (cellAt H (env 5) 5)]) 0 (by simp) ?_ ?_)
   · have e0:F1 u []=[]:=rfl
     (repeat' (first|(simp (disch:=omega) only [push_cast,↓zz,seval,pR,pF,pC,pG,e0,pK])|(with_reducible first|refine And.intro ?_ ?_|(first|refine Ab ?_ ?_|refine Aa ?_ ?_)<;>intro hc<;>(try simp only [push_cast] at hc))|omega|with_reducible intro _))
   intro j hj
   have pJ:=Bg (F1 u (d.finals.take j))
   have lJ:=Ra u (d.finals.take j)
   rw [List.length_take] at lJ
   rcases Nat.lt_or_ge j d.finals.length with hjl|hjl
   · have hr:=hw.f _ (Au hjl)
     have e1:=hkF j hjl
     generalize hre:nth d.finals j=r at *
     have hgr:=Ae r.guards
     have hot:=Bb r.out
     obtain ⟨x,hx⟩:∃ x:Nat,r.from_=x:=⟨r.from_.toNat,by omega⟩
     have nX0:=hN x (by omega)
     rw [hx,Int.toNat_natCast] at e1
     have cx:=Fe u x
     generalize F1 u (d.finals.take j)=K at *
     cases hux:u x with
     | true =>
       have nX:=Da hux
       rw [nX] at nX0
       rw [if_pos hux,nX] at e1
       refine W_T ?_
       (repeat' (first|(simp (disch:=omega) only [push_cast,↓zz,seval,pR,pF,pC,pG,hre,hgr,hot,hx,pK,pJ])|(with_reducible first|refine And.intro ?_ ?_|(first|refine Ab ?_ ?_|refine Aa ?_ ?_)<;>intro hc<;>(try simp only [push_cast] at hc)|refine eK nX0 ?_|refine eQ nX0 ?_)|omega|with_reducible intro _))
       all_goals
         refine ⟨j + 1,?_⟩
         (repeat' (first|(simp (disch:=omega) only [push_cast,↓zz,seval,e1,pK,pJ])|(with_reducible first|refine And.intro ?_ ?_|(first|refine Ab ?_ ?_|refine Aa ?_ ?_)<;>intro hc<;>(try simp only [push_cast] at hc))|omega|with_reducible intro _))
     | false =>
       have nX:=Gh hux
       rw [nX] at nX0
       rw [if_neg (by rw [hux];simp)] at e1
       refine W_T ?_
       (repeat' (first|(simp (disch:=omega) only [push_cast,↓zz,seval,pR,pF,pC,pG,hre,hgr,hot,hx,pK,pJ])|(with_reducible first|refine And.intro ?_ ?_|(first|refine Ab ?_ ?_|refine Aa ?_ ?_)<;>intro hc<;>(try simp only [push_cast] at hc)|refine eK nX0 ?_|refine eQ nX0 ?_)|omega|with_reducible intro _))
       all_goals
         refine ⟨j + 1,?_⟩
         (repeat' (first|(simp (disch:=omega) only [push_cast,↓zz,seval,e1,pK,pJ])|(with_reducible first|refine And.intro ?_ ?_|(first|refine Ab ?_ ?_|refine Aa ?_ ?_)<;>intro hc<;>(try simp only [push_cast] at hc))|omega|with_reducible intro _))
   obtain rfl:j=d.finals.length:=by omega
   have et2:d.finals.take d.finals.length=d.finals:=List.take_of_length_le (by omega)
   rw [et2] at pJ lJ ⊢
   refine W_T ?_
   (repeat' (first|(simp (disch:=omega) only [push_cast,↓zz,seval,pR,pF,pC,pG,pK,pJ,et2])|(with_reducible first|refine And.intro ?_ ?_|(first|refine Ab ?_ ?_|refine Aa ?_ ?_)<;>intro hc<;>(try simp only [push_cast] at hc))|omega|with_reducible intro _))
   all_goals trace_state
theorem z00 (d:Desc) (hf:Hh d) (h:¬ Cp d=0):PC Tryz.prog 19 [By d] (.tup [Rb,.int .i64 2]):=by
 have hC:=I7 d hf
 have e:Cp d=2:=by
   unfold Cp at h ⊢
   split at h
   · exact absurd rfl h
   · rw [if_neg (by assumption)]
 rw [e] at hC
 have pR:=Bj d.rules
 have pF:=Bg d.finals
 refine A9 Pn ?_
 unfold J7
 (repeat' (first|(simp (disch:=omega) only [push_cast,↓zz,seval,pR,pF])|(with_reducible first|refine And.intro ?_ ?_|(first|refine Ab ?_ ?_|refine Aa ?_ ?_)<;>intro hc<;>(try simp only [push_cast] at hc)|refine eK hC ?_|refine eQ hC ?_|refine eG hC ?_)|((with_reducible first|refine cK hC ?_|refine cQ hC ?_|refine cG hC ?_);(simp (disch:=omega) only [push_cast,↓zz,seval,pR,pF]);(fail_if_success with_reducible change False))|omega|with_reducible intro _))
 all_goals trace_state
theorem Wu (d:Desc):PC Tryz.prog 5 [By d] (.bool true):=by
 have hA:=z2m
 have hS:=z2t d
 have hZ:=ze5
 have pR:=Bj d.rules
 have pF:=Bg d.finals
 refine A9 Me ?_
 unfold Gl
 cases hsm:N6 d with
 | false =>
   rw [hsm] at hS
   (repeat' (first|(simp (disch:=omega) only [push_cast,↓zz,seval,pR,pF])|(with_reducible first|refine And.intro ?_ ?_|(first|refine Ab ?_ ?_|refine Aa ?_ ?_)<;>intro hc<;>(try simp only [push_cast] at hc)|refine eK hS ?_|refine eQ hS ?_|refine eG hS ?_|refine eK hA ?_|refine eQ hA ?_|refine eG hA ?_)|((with_reducible first|refine cK hS ?_|refine cQ hS ?_|refine cG hS ?_);(simp (disch:=omega) only [push_cast,↓zz,seval,pR,pF]);(fail_if_success with_reducible change False))|((with_reducible first|refine cK hA ?_|refine cQ hA ?_|refine cG hA ?_);(simp (disch:=omega) only [push_cast,↓zz,seval,pR,pF]);(fail_if_success with_reducible change False))|omega|with_reducible intro _))
 | true =>
 rw [hsm] at hS
 have hsh:=z2v hsm
 have hRt:=z2w d hsh
 by_cases h:Cp d=0
 · rw [decide_eq_true h] at hRt
   have hw:=Lw h
   have hT:=Zu d hsh.fin h
   have hT2:=z98 d hw
   have hM:=Uc (Jg d) (Jg d) (z2y (Z5 h).1.check)
   rw [decide_eq_true rfl] at hM
   generalize Jg d=c at *
   have pcR:=Bj c.rules
   have pcF:=Bg c.finals
   (repeat' (first|(simp (disch:=omega) only [push_cast,↓zz,seval,pR,pF,pcR,pcF])|(with_reducible first|refine And.intro ?_ ?_|(first|refine Ab ?_ ?_|refine Aa ?_ ?_)<;>intro hc<;>(try simp only [push_cast] at hc)|refine eK hS ?_|refine eQ hS ?_|refine eK hRt ?_|refine eQ hRt ?_|refine eK hT ?_|refine eQ hT ?_|refine eK hT2 ?_|refine eQ hT2 ?_|refine eK hM ?_|refine eQ hM ?_|refine eK hA ?_|refine eQ hA ?_|refine eG hA ?_)|((with_reducible first|refine cK hA ?_|refine cQ hA ?_|refine cG hA ?_);(simp (disch:=omega) only [push_cast,↓zz,seval,pR,pF,pcR,pcF]);(fail_if_success with_reducible change False))|omega|with_reducible intro _))
   all_goals first|(exfalso;revert hc;decide)|trace_state
 · rw [decide_eq_false h] at hRt
   have hT:=z00 d hsh.fin h
   (repeat' (first|(simp (disch:=omega) only [push_cast,↓zz,seval,pR,pF])|(with_reducible first|refine And.intro ?_ ?_|(first|refine Ab ?_ ?_|refine Aa ?_ ?_)<;>intro hc<;>(try simp only [push_cast] at hc)|refine eK hS ?_|refine eQ hS ?_|refine eG hS ?_|refine eK hRt ?_|refine eQ hRt ?_|refine eG hRt ?_|refine eK hT ?_|refine eQ hT ?_|refine eG hT ?_|refine eK hZ ?_|refine eQ hZ ?_|refine eG hZ ?_|refine eK hA ?_|refine eQ hA ?_|refine eG hA ?_)|((with_reducible first|refine cK hS ?_|refine cQ hS ?_|refine cG hS ?_);(simp (disch:=omega) only [push_cast,↓zz,seval,pR,pF]);(fail_if_success with_reducible change False))|((with_reducible first|refine cK hRt ?_|refine cQ hRt ?_|refine cG hRt ?_);(simp (disch:=omega) only [push_cast,↓zz,seval,pR,pF]);(fail_if_success with_reducible change False))|((with_reducible first|refine cK hT ?_|refine cQ hT ?_|refine cG hT ?_);(simp (disch:=omega) only [push_cast,↓zz,seval,pR,pF]);(fail_if_success with_reducible change False))|((with_reducible first|refine cK hZ ?_|refine cQ hZ ?_|refine cG hZ ?_);(simp (disch:=omega) only [push_cast,↓zz,seval,pR,pF]);(fail_if_success with_reducible change False))|((with_reducible first|refine cK hA ?_|refine cQ hA ?_|refine cG hA ?_);(simp (disch:=omega) only [push_cast,↓zz,seval,pR,pF]);(fail_if_success with_reducible change False))|omega|with_reducible intro _))
   all_goals first|(exfalso;revert hc;decide)|trace_state
end Go.Proofs.YticodgjinajkpaaGreat
