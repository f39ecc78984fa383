/-
  Parts of the proof that the law holds whatever the input; without conditions.
-/
import Derived.Test.YtbcjoeadpjfcfaaGreatEA8
import Derived.Test.YtbcjoeadpjfcfaaGreatEA5
set_option linter.unusedSimpArgs false
set_option linter.unusedVariables false
namespace Go.Proofs.YtbcjoeadpjfcfaaGreat
open Abs
theorem zqe {α:Type} [Inhabited α] {p:α→Bool} {l:List α} {k:Nat} (h:k<l.length):(l.drop k).all p=(p (nth l k)&&(l.drop (k+1)).all p):=by rw[drop_at h,List.all_cons]
theorem Oz (i:Int) (gs:List (List Span)) (hl:gs.length≤9223372036854775807):PC Tryz.prog 91 [.int .i64 i,Ak gs] (.bool (Cy i gs)):=by
 have hP:=Ad gs;have hD:=Oy i;refine A9 Sv ?_;unfold Kr;(with_reducible repeat' (first|(simp(disch:=omega)only[push_cast,↓zz,seval])|refine And.intro ?_ ?_|(first|refine Ab ?_ ?_|refine Aa ?_ ?_)<;>intro hc<;>(try simp only[push_cast] at hc)|omega|intro _))
 refine An (Ap (fun (k:Nat)=>k≤gs.length∧gs.all (Jd i)=(gs.drop k).all (Jd i)) (fun k=>gs.length-k)
   (fun k=>[(0,.int .i64 i),(1,Ak gs),(5,.int .i64 k)]) (fun k=>[]) (fun _ _=>[]) 0 ⟨by simp,rfl⟩ ?_ ?_)
 · (with_reducible repeat' (first|(simp(disch:=omega)only[push_cast,↓zz,seval,hP])|refine And.intro ?_ ?_|(first|refine Ab ?_ ?_|refine Aa ?_ ?_)<;>intro hc<;>(try simp only[push_cast] at hc)|omega|intro _))
 rintro k ⟨k1,k2⟩;rcases Nat.lt_or_ge k gs.length with hk|hk
 · rw[zqe hk,←Vd,z80] at k2
   generalize hge:nth gs k=g at *;have hpg:=Co g;have hno:Cy i gs=(decide ((gs.length:Int)≤4)&&gs.all (Jd i)):=rfl;rw[hno];refine W_T ?_;by_cases g1:g.length≠0∧g.length≤64
   · rw[decide_eq_true g1.1,decide_eq_true g1.2,Bool.true_and,Bool.true_and] at k2
     have hN:=J8 g (by omega);have hS:=No g (Ar g) (by omega);have hM:=Nn g (domL i) 2 (by omega) (by have:=Xf i;omega);rw[Up] at hM;have hlen:(Eq g (domL i)).length≤9223372036854775807∨True:=.inr trivial;by_cases h2:g=Ar g
     · rw[decide_eq_true h2] at hS
       rw[decide_eq_true h2,Bool.true_and] at k2;by_cases h3:Eq g (domL i)=[]
       · rw[h3] at hM
         rw[decide_eq_true h3,Bool.true_and] at k2;(with_reducible repeat' (first|(simp(disch:=omega)only[push_cast,↓zz,seval,hP,hge,hpg])|refine And.intro ?_ ?_|(first|refine Ab ?_ ?_|refine Aa ?_ ?_)<;>intro hc<;>(try simp only[push_cast] at hc)|refine eK hN ?_|refine eQ hN ?_|refine eG hN ?_|refine eK hS ?_|refine eQ hS ?_|refine eG hS ?_|refine eK hD ?_|refine eQ hD ?_|refine eG hD ?_|refine eK hM ?_|refine eQ hM ?_|refine eG hM ?_|((first|refine cK hN ?_|refine cQ hN ?_|refine cG hN ?_|refine cK hS ?_|refine cQ hS ?_|refine cG hS ?_|refine cK hD ?_|refine cQ hD ?_|refine cG hD ?_|refine cK hM ?_|refine cQ hM ?_|refine cG hM ?_);(simp(disch:=omega)only[push_cast,↓zz,seval,hP,hge,hpg]);(fail_if_success change False))|omega|intro _))
         all_goals first
           | exact⟨k+1,by push_cast,⟨by omega,k2⟩,by omega⟩
           | trace_state
       · have hpos:=List.length_pos_iff.2 h3
         rw[decide_eq_false h3,Bool.false_and] at k2;rw[k2,Bool.and_false];generalize Eq g (domL i)=m at *;(with_reducible repeat' (first|(simp(disch:=omega)only[push_cast,↓zz,seval,hP,hge,hpg])|refine And.intro ?_ ?_|(first|refine Ab ?_ ?_|refine Aa ?_ ?_)<;>intro hc<;>(try simp only[push_cast] at hc)|refine eK hN ?_|refine eQ hN ?_|refine eG hN ?_|refine eK hS ?_|refine eQ hS ?_|refine eG hS ?_|refine eK hD ?_|refine eQ hD ?_|refine eG hD ?_|refine eK hM ?_|refine eQ hM ?_|refine eG hM ?_|((first|refine cK hN ?_|refine cQ hN ?_|refine cG hN ?_|refine cK hS ?_|refine cQ hS ?_|refine cG hS ?_|refine cK hD ?_|refine cQ hD ?_|refine cG hD ?_|refine cK hM ?_|refine cQ hM ?_|refine cG hM ?_);(simp(disch:=omega)only[push_cast,↓zz,seval,hP,hge,hpg]);(fail_if_success change False))|omega|intro _))
     · rw[decide_eq_false h2] at hS
       rw[decide_eq_false h2,Bool.false_and,Bool.false_and] at k2;rw[k2,Bool.and_false];(with_reducible repeat' (first|(simp(disch:=omega)only[push_cast,↓zz,seval,hP,hge,hpg])|refine And.intro ?_ ?_|(first|refine Ab ?_ ?_|refine Aa ?_ ?_)<;>intro hc<;>(try simp only[push_cast] at hc)|refine eK hN ?_|refine eQ hN ?_|refine eG hN ?_|refine eK hS ?_|refine eQ hS ?_|refine eG hS ?_|((first|refine cK hN ?_|refine cQ hN ?_|refine cG hN ?_|refine cK hS ?_|refine cQ hS ?_|refine cG hS ?_);(simp(disch:=omega)only[push_cast,↓zz,seval,hP,hge,hpg]);(fail_if_success change False))|omega|intro _))
   · have:(decide (g.length≠0)&&(decide (g.length≤64)&&(decide (g=Ar g)&&decide (Eq g (domL i)=[]))))=false:=by
       by_cases h:g.length≠0
       · rw[decide_eq_false (p:=g.length≤64) (by omega),Bool.false_and,Bool.and_false]
       · rw[decide_eq_false h,Bool.false_and]
     rw[this,Bool.false_and] at k2;rw[k2,Bool.and_false];(with_reducible repeat' (first|(simp(disch:=omega)only[push_cast,↓zz,seval,hP,hge,hpg])|refine And.intro ?_ ?_|(first|refine Ab ?_ ?_|refine Aa ?_ ?_)<;>intro hc<;>(try simp only[push_cast] at hc)|omega|intro _))
 · rw[List.drop_of_length_le hk,List.all_nil] at k2
   have hno:Cy i gs=decide ((gs.length:Int)≤4):=by rw[Cy,k2,Bool.and_true]
   rw[hno];refine W_T ?_;(with_reducible repeat' (first|(simp(disch:=omega)only[push_cast,↓zz,seval,hP])|refine And.intro ?_ ?_|(first|refine Ab ?_ ?_|refine Aa ?_ ?_)<;>intro hc<;>(try simp only[push_cast] at hc)|omega|intro _))
   all_goals trace_state
theorem Jn (d:Desc) (out:List Term) (gs:List (List Span)) (ho:∀ t∈out,t.parts.length<1000000000000) (hG:GOk d.in_ gs) :
   PC Tryz.prog 92 [Bp d,Be out,Ak gs] (.bool (De d out gs)):=by
 have hP:=Ad gs;have hT:=Am out;refine A9 Sw ?_;unfold Ks;by_cases h4:64<out.length
 · rw[De,decide_eq_false (by omega),Bool.false_and]
   (with_reducible repeat' (first|(simp(disch:=omega)only[push_cast,↓zz,seval])|refine And.intro ?_ ?_|(first|refine Ab ?_ ?_|refine Aa ?_ ?_)<;>intro hc<;>(try simp only[push_cast] at hc)|omega|intro _))
   refine An (Ap (fun (k:Nat)=>k=0) (fun k=>0)
     (fun k=>[(1,Be out),(2,Ak gs),(3,.ptr 0 1 0 0),(7,.int .i64 k)]) (fun s=>[⟨6,1,true,[Bp d]⟩]) (fun env _=>[A5 1 (env 3)]) 0 rfl ?_ ?_)
   · (with_reducible repeat' (first|(simp(disch:=omega)only[push_cast,↓zz,seval,hP,hT])|refine And.intro ?_ ?_|(first|refine Ab ?_ ?_|refine Aa ?_ ?_)<;>intro hc<;>(try simp only[push_cast] at hc)|omega|intro _))
   rintro k rfl;refine W_T ?_;(with_reducible repeat' (first|(simp(disch:=omega)only[push_cast,↓zz,seval,hP,hT])|refine And.intro ?_ ?_|(first|refine Ab ?_ ?_|refine Aa ?_ ?_)<;>intro hc<;>(try simp only[push_cast] at hc)|omega|intro _))
 rw[De,decide_eq_true (by omega),Bool.true_and];(with_reducible repeat' (first|(simp(disch:=omega)only[push_cast,↓zz,seval])|refine And.intro ?_ ?_|(first|refine Ab ?_ ?_|refine Aa ?_ ?_)<;>intro hc<;>(try simp only[push_cast] at hc)|omega|intro _))
 refine An (Ap (fun (k:Nat)=>k≤out.length∧(out.all fun t=>O7 t d.in_ d.out gs)=(out.drop k).all fun t=>O7 t d.in_ d.out gs) (fun k=>out.length-k)
   (fun k=>[(1,Be out),(2,Ak gs),(3,.ptr 0 1 0 0),(7,.int .i64 k)]) (fun s=>[⟨6,1,true,[Bp d]⟩]) (fun env _=>[A5 1 (env 3)]) 0 ⟨by simp,rfl⟩ ?_ ?_)
 · (with_reducible repeat' (first|(simp(disch:=omega)only[push_cast,↓zz,seval,hP,hT])|refine And.intro ?_ ?_|(first|refine Ab ?_ ?_|refine Aa ?_ ?_)<;>intro hc<;>(try simp only[push_cast] at hc)|omega|intro _))
 rintro k ⟨h1,h2⟩;rcases Nat.lt_or_ge k out.length with hk|hk
 · rw[drop_at hk,List.all_cons] at h2
   have hF:=zaz (nth out k) d.in_ d.out gs (ho _ (Ao hk)) hG;rw[zfv hG] at hF;refine W_T ?_;(with_reducible repeat' (first|(simp(disch:=omega)only[push_cast,↓zz,seval,hP,hT])|refine And.intro ?_ ?_|(first|refine Ab ?_ ?_|refine Aa ?_ ?_)<;>intro hc<;>(try simp only[push_cast] at hc)|refine eK hF ?_|refine eQ hF ?_|refine eG hF ?_|((first|refine cK hF ?_|refine cQ hF ?_|refine cG hF ?_);(simp(disch:=omega)only[push_cast,↓zz,seval,hP,hT]);(fail_if_success change False))|omega|intro _))
   all_goals first
     | (rw[h2];simp[*];done)
     | exact⟨k+1,by push_cast,⟨by omega,by rw[h2];simp[*]⟩,by omega⟩
 · rw[List.drop_of_length_le hk,List.all_nil] at h2
   refine W_T ?_;(with_reducible repeat' (first|(simp(disch:=omega)only[push_cast,↓zz,seval,hP,hT,h2])|refine And.intro ?_ ?_|(first|refine Ab ?_ ?_|refine Aa ?_ ?_)<;>intro hc<;>(try simp only[push_cast] at hc)|omega|intro _))
   all_goals trace_state
def sumT {α:Type} (f:α→Int) (l:List α):Int:=(l.map f).sum
theorem Xz {α:Type} [Inhabited α] {f:α→Int} {l:List α} {k:Nat} (h:k<l.length):sumT f (l.take (k+1))=sumT f (l.take k)+f (nth l k):=by rw[take_at h];simp[sumT]
theorem Fu {α:Type} {f:α→Int} {B:Int} (hf:∀ x,0≤f x∧f x≤B):∀ l:List α,0≤sumT f l∧sumT f l≤l.length * B
 | []=>by simp[sumT]
 | x::l=>by
   have h1:=Fu hf l;have h2:=hf x;have e:sumT f (x::l)=f x+sumT f l:=by simp[sumT]
   have e2:((x::l).length:Int) * B=l.length * B+B:=by push_cast [List.length_cons];rw[Int.add_mul,Int.one_mul]
   omega
theorem Kf {α:Type} {f:α→Int} (hf:∀ x,0≤f x):∀ {l:List α} {x:α},x∈l→f x≤sumT f l
 | y::l,x,h=>by
   have e:sumT f (y::l)=f y+sumT f l:=by simp[sumT]
   have hn:∀ m:List α,0≤sumT f m:=fun m=>by
     induction m with
     | nil=>simp[sumT]
     | cons z m ih =>
       have e:sumT f (z::m)=f z+sumT f m:=by simp[sumT]
       have:=hf z;omega
   have h1:=hf y;have h2:=hn l;rcases List.mem_cons.1 h with rfl|h
   · omega
   · have:=Kf hf h
     omega
def szG (g:List Span):Int:=min (g.length:Int) 4000
def szT (t:Term):Int:=1+min (t.parts.length:Int) 4000
theorem z81 (g:List Span):0≤szG g∧szG g≤4000:=by unfold szG;omega
theorem z82 (t:Term):0≤szT t∧szT t≤4001:=by unfold szT;omega
def Ip (gs:List (List Span)) (out:List Term):Int:=if 100<gs.length∨200<out.length then 4000 else 1+sumT szG gs+sumT szT out
theorem Ve (gs:List (List Span)) (out:List Term):PC Tryz.prog 43 [Ak gs,Be out] (.int .i64 (Ip gs out)):=by
 have hP:=Ad gs;have hT:=Am out;refine A9 Y5 ?_;unfold N1;by_cases hb:100<gs.length∨200<out.length
 · rw[Ip,if_pos hb]
   (with_reducible repeat' (first|(simp(disch:=omega)only[push_cast,↓zz,seval,hP,hT])|refine And.intro ?_ ?_|(first|refine Ab ?_ ?_|refine Aa ?_ ?_)<;>intro hc<;>(try simp only[push_cast] at hc)|omega|intro _))
 rw[Ip,if_neg hb];(with_reducible repeat' (first|(simp(disch:=omega)only[push_cast,↓zz,seval,hP,hT])|refine And.intro ?_ ?_|(first|refine Ab ?_ ?_|refine Aa ?_ ?_)<;>intro hc<;>(try simp only[push_cast] at hc)|omega|intro _))
 refine An (Ap (fun (k:Nat)=>k≤gs.length) (fun k=>gs.length-k)
   (fun k=>[(0,Ak gs),(1,Be out),(5,.int .i64 (1+sumT szG (gs.take k))),(6,.int .i64 k)]) (fun k=>[]) (fun _ _=>[]) 0 (by simp) ?_ ?_)
 · have e0:sumT szG ([]:List (List Span))=0:=rfl
   (with_reducible repeat' (first|(simp(disch:=omega)only[push_cast,↓zz,seval,hP,hT,e0])|refine And.intro ?_ ?_|(first|refine Ab ?_ ?_|refine Aa ?_ ?_)<;>intro hc<;>(try simp only[push_cast] at hc)|omega|intro _))
 intro k hk;have hb1:=Fu z81 (gs.take k);have hb2:((gs.take k).length:Int) * 4000≤100 * 4000:=Int.mul_le_mul_of_nonneg_right (by simp;omega) (by omega);rcases Nat.lt_or_ge k gs.length with hkl|hkl
 · have hst:=Xz (f:=szG) hkl
   have hx:=z81 (nth gs k);have hsz:min ((nth gs k).length:Int) 4000=szG (nth gs k):=rfl;generalize hge:nth gs k=g at *;generalize sumT szG (gs.take k)=n at *;have hw:IntKind.i64.wrap (1+n+szG g)=1+n+szG g:=IntWalk.i64_in _ (by omega);refine W_T ?_;(with_reducible repeat' (first|(simp(disch:=omega)only[push_cast,↓zz,seval,hP,hT,hge,hsz,hw])|refine And.intro ?_ ?_|(first|refine Ab ?_ ?_|refine Aa ?_ ?_)<;>intro hc<;>(try simp only[push_cast] at hc)|omega|intro _))
   all_goals
     refine⟨k+1,?_⟩;(with_reducible repeat' (first|(simp(disch:=omega)only[push_cast,↓zz,seval,hst])|refine And.intro ?_ ?_|(first|refine Ab ?_ ?_|refine Aa ?_ ?_)<;>intro hc<;>(try simp only[push_cast] at hc)|omega|intro _))
   all_goals first
     | omega
     | trace_state
 · have hkt:gs.take k=gs:=List.take_of_length_le hkl
   rw[hkt] at hb1 hb2 ⊢;generalize sumT szG gs=n at *;refine W_T ?_;(with_reducible repeat' (first|(simp(disch:=omega)only[push_cast,↓zz,seval,hP,hT])|refine And.intro ?_ ?_|(first|refine Ab ?_ ?_|refine Aa ?_ ?_)<;>intro hc<;>(try simp only[push_cast] at hc)|omega|intro _))
   refine An (Ap (fun (k:Nat)=>k≤out.length) (fun k=>out.length-k)
     (fun k=>[(1,Be out),(5,.int .i64 (1+n+sumT szT (out.take k))),(7,.int .i64 k)]) (fun k=>[]) (fun _ _=>[]) 0 (by simp) ?_ ?_)
   · have e0:sumT szT ([]:List Term)=0:=rfl
     (with_reducible repeat' (first|(simp(disch:=omega)only[push_cast,↓zz,seval,hP,hT,e0,Int.add_zero])|refine And.intro ?_ ?_|(first|refine Ab ?_ ?_|refine Aa ?_ ?_)<;>intro hc<;>(try simp only[push_cast] at hc)|omega|intro _))
   intro j hj;have hb3:=Fu z82 (out.take j);have hb4:((out.take j).length:Int) * 4001≤200 * 4001:=Int.mul_le_mul_of_nonneg_right (by simp;omega) (by omega);rcases Nat.lt_or_ge j out.length with hjl|hjl
   · have hst:=Xz (f:=szT) hjl
     have hx:=z82 (nth out j);have hsz:szT (nth out j)=1+min ((nth out j).parts.length:Int) 4000:=rfl;generalize hge:nth out j=t at *;generalize sumT szT (out.take j)=m at *;generalize hze:min (t.parts.length:Int) 4000=z at *;have hw:IntKind.i64.wrap (1+n+m+1)=1+n+m+1:=IntWalk.i64_in _ (by omega);have hw2:IntKind.i64.wrap (1+n+m+1+z)=1+n+m+1+z:=IntWalk.i64_in _ (by omega);refine W_T ?_;(with_reducible repeat' (first|(simp(disch:=omega)only[push_cast,↓zz,seval,hP,hT,hge,hze,hw,hw2])|refine And.intro ?_ ?_|(first|refine Ab ?_ ?_|refine Aa ?_ ?_)<;>intro hc<;>(try simp only[push_cast] at hc)|omega|intro _))
     all_goals
       refine⟨j+1,?_⟩;(with_reducible repeat' (first|(simp(disch:=omega)only[push_cast,↓zz,seval,hst])|refine And.intro ?_ ?_|(first|refine Ab ?_ ?_|refine Aa ?_ ?_)<;>intro hc<;>(try simp only[push_cast] at hc)|omega|intro _))
     all_goals first
       | omega
       | trace_state
   · have hjt:out.take j=out:=List.take_of_length_le hjl
     rw[hjt];refine W_T ?_;(with_reducible repeat' (first|(simp(disch:=omega)only[push_cast,↓zz,seval,hP,hT])|refine And.intro ?_ ?_|(first|refine Ab ?_ ?_|refine Aa ?_ ?_)<;>intro hc<;>(try simp only[push_cast] at hc)|omega|intro _))
     all_goals trace_state
theorem Nu (gs:List (List Span)) (out:List Term):0≤Ip gs out∧Ip gs out≤2000000:=by
 unfold Ip;have h1:=Fu z81 gs;have h2:=Fu z82 out;split
 · omega
 · omega
def szR (r:Rule):Int:=Ip r.guards r.out
def szF (f:Cw):Int:=Ip f.guards f.out
def M1 (d:Desc):Bool:=decide (d.rules.length≤80∧d.finals.length≤80)&&decide (sumT szR d.rules+sumT szF d.finals≤1500)
theorem Se (d:Desc):PC Tryz.prog 15 [Bp d] (.bool (M1 d)):=by
 have hPr:=Az d.rules;have hPf:=Av d.finals;have sR:∀ r,0≤szR r∧szR r≤2000000:=fun r=>Nu _ _;have sF:∀ f,0≤szF f∧szF f≤2000000:=fun r=>Nu _ _;refine A9 Vz ?_;unfold Lx;by_cases hb:d.rules.length≤80∧d.finals.length≤80
 · rw[M1,decide_eq_true hb,Bool.true_and]
   (with_reducible repeat' (first|(simp(disch:=omega)only[push_cast,↓zz,seval])|refine And.intro ?_ ?_|(first|refine Ab ?_ ?_|refine Aa ?_ ?_)<;>intro hc<;>(try simp only[push_cast] at hc)|omega|intro _))
   refine An (Ap (fun (k:Nat)=>k≤d.rules.length) (fun k=>d.rules.length-k)
     (fun k=>[(1,.ptr 0 1 0 0),(3,.int .i64 (sumT szR (d.rules.take k))),(4,.int .i64 k)]) (fun k=>[⟨6,1,true,[Bp d]⟩]) (fun env _=>[A5 1 (env 1)]) 0 (by simp) ?_ ?_)
   · have e0:sumT szR ([]:List Rule)=0:=rfl
     (with_reducible repeat' (first|(simp(disch:=omega)only[push_cast,↓zz,seval,hPr,hPf,e0])|refine And.intro ?_ ?_|(first|refine Ab ?_ ?_|refine Aa ?_ ?_)<;>intro hc<;>(try simp only[push_cast] at hc)|omega|intro _))
   intro k hk;have hb1:=Fu sR (d.rules.take k);have hb2:((d.rules.take k).length:Int) * 2000000≤80 * 2000000:=Int.mul_le_mul_of_nonneg_right (by simp;omega) (by omega);rcases Nat.lt_or_ge k d.rules.length with hkl|hkl
   · have hst:=Xz (f:=szR) hkl
     have hx:=sR (nth d.rules k);have hS:=Ve (nth d.rules k).guards (nth d.rules k).out;have hsz:Ip (nth d.rules k).guards (nth d.rules k).out=szR (nth d.rules k):=rfl;rw[hsz] at hS;generalize hge:nth d.rules k=r at *;generalize sumT szR (d.rules.take k)=n at *;have hw:IntKind.i64.wrap (n+szR r)=n+szR r:=IntWalk.i64_in _ (by omega);have hpg:=Ad r.guards;have hpt:=Am r.out;refine W_T ?_;(with_reducible repeat' (first|(simp(disch:=omega)only[push_cast,↓zz,seval,hPr,hPf,hge,hw,hpg,hpt])|refine And.intro ?_ ?_|(first|refine Ab ?_ ?_|refine Aa ?_ ?_)<;>intro hc<;>(try simp only[push_cast] at hc)|refine eK hS ?_|refine eQ hS ?_|refine eG hS ?_|((first|refine cK hS ?_|refine cQ hS ?_|refine cG hS ?_);(simp(disch:=omega)only[push_cast,↓zz,seval,hPr,hPf,hge,hw,hpg,hpt]);(fail_if_success change False))|omega|intro _))
     all_goals
       refine⟨k+1,?_⟩;(with_reducible repeat' (first|(simp(disch:=omega)only[push_cast,↓zz,seval,hst])|refine And.intro ?_ ?_|(first|refine Ab ?_ ?_|refine Aa ?_ ?_)<;>intro hc<;>(try simp only[push_cast] at hc)|omega|intro _))
   · have hkt:d.rules.take k=d.rules:=List.take_of_length_le hkl
     rw[hkt] at hb1 hb2 ⊢;generalize sumT szR d.rules=n at *;refine W_T ?_;(with_reducible repeat' (first|(simp(disch:=omega)only[push_cast,↓zz,seval,hPr,hPf])|refine And.intro ?_ ?_|(first|refine Ab ?_ ?_|refine Aa ?_ ?_)<;>intro hc<;>(try simp only[push_cast] at hc)|omega|intro _))
     refine An (Ap (fun (k:Nat)=>k≤d.finals.length) (fun k=>d.finals.length-k)
       (fun k=>[(1,.ptr 0 1 0 0),(3,.int .i64 (n+sumT szF (d.finals.take k))),(5,.int .i64 k)]) (fun k=>[⟨6,1,true,[Bp d]⟩]) (fun env _=>[A5 1 (env 1)]) 0 (by simp) ?_ ?_)
     · have e0:sumT szF ([]:List Cw)=0:=rfl
       (with_reducible repeat' (first|(simp(disch:=omega)only[push_cast,↓zz,seval,hPr,hPf,e0,Int.add_zero])|refine And.intro ?_ ?_|(first|refine Ab ?_ ?_|refine Aa ?_ ?_)<;>intro hc<;>(try simp only[push_cast] at hc)|omega|intro _))
     intro j hj;have hb3:=Fu sF (d.finals.take j);have hb4:((d.finals.take j).length:Int) * 2000000≤80 * 2000000:=Int.mul_le_mul_of_nonneg_right (by simp;omega) (by omega);rcases Nat.lt_or_ge j d.finals.length with hjl|hjl
     · have hst:=Xz (f:=szF) hjl
       have hx:=sF (nth d.finals j);have hS:=Ve (nth d.finals j).guards (nth d.finals j).out;have hsz:Ip (nth d.finals j).guards (nth d.finals j).out=szF (nth d.finals j):=rfl;rw[hsz] at hS;generalize hge:nth d.finals j=f at *;generalize sumT szF (d.finals.take j)=m at *;have hw:IntKind.i64.wrap (n+m+szF f)=n+m+szF f:=IntWalk.i64_in _ (by omega);have hpg:=Ad f.guards;have hpt:=Am f.out;refine W_T ?_;(with_reducible repeat' (first|(simp(disch:=omega)only[push_cast,↓zz,seval,hPr,hPf,hge,hw,hpg,hpt])|refine And.intro ?_ ?_|(first|refine Ab ?_ ?_|refine Aa ?_ ?_)<;>intro hc<;>(try simp only[push_cast] at hc)|refine eK hS ?_|refine eQ hS ?_|refine eG hS ?_|((first|refine cK hS ?_|refine cQ hS ?_|refine cG hS ?_);(simp(disch:=omega)only[push_cast,↓zz,seval,hPr,hPf,hge,hw,hpg,hpt]);(fail_if_success change False))|omega|intro _))
       all_goals
         refine⟨j+1,?_⟩;(with_reducible repeat' (first|(simp(disch:=omega)only[push_cast,↓zz,seval,hst])|refine And.intro ?_ ?_|(first|refine Ab ?_ ?_|refine Aa ?_ ?_)<;>intro hc<;>(try simp only[push_cast] at hc)|omega|intro _))
       all_goals first
         | omega
         | trace_state
     · have hjt:d.finals.take j=d.finals:=List.take_of_length_le hjl
       rw[hjt];refine W_T ?_;(with_reducible repeat' (first|(simp(disch:=omega)only[push_cast,↓zz,seval,hPr,hPf])|refine And.intro ?_ ?_|(first|refine Ab ?_ ?_|refine Aa ?_ ?_)<;>intro hc<;>(try simp only[push_cast] at hc)|omega|intro _))
 · rw[M1,decide_eq_false hb,Bool.false_and]
   (with_reducible repeat' (first|(simp(disch:=omega)only[push_cast,↓zz,seval])|refine And.intro ?_ ?_|(first|refine Ab ?_ ?_|refine Aa ?_ ?_)<;>intro hc<;>(try simp only[push_cast] at hc)|omega|intro _))
   all_goals trace_state
theorem Vf {gs:List (List Span)} {out:List Term} (h:Ip gs out≤1500):∀ t∈out,t.parts.length<4000:=by
 unfold Ip at h;split at h
 · omega
 · intro t ht
   have h1:=Kf (fun t=>(z82 t).1) ht;have h2:=(Fu z81 gs).1;have h3:szT t=1+min (t.parts.length:Int) 4000:=rfl;omega
theorem zfw {d:Desc} (h:M1 d=true):Gh d:=by
 simp only[M1,Bool.and_eq_true,decide_eq_true_eq] at h;have sR:∀ r,0≤szR r∧szR r≤2000000:=fun r=>Nu _ _;have sF:∀ f,0≤szF f∧szF f≤2000000:=fun r=>Nu _ _;have a1:=(Fu sR d.rules).1;have a2:=(Fu sF d.finals).1;refine⟨fun r hr t ht=>?_,fun f hf t ht=>?_⟩
 · have h1:=Kf (fun r=>(sR r).1) hr
   have h2:szR r=Ip r.guards r.out:=rfl;have:=Vf (gs:=r.guards) (out:=r.out) (by omega) t ht;omega
 · have h1:=Kf (fun r=>(sF r).1) hf
   have h2:szF f=Ip f.guards f.out:=rfl;have:=Vf (gs:=f.guards) (out:=f.out) (by omega) t ht;omega
theorem zqf {s:Int}:0<((domL s).length:Int)↔(s=1∨s=2):=by
 unfold domL;split
 · simp[*]
 · split
   · simp[*]
   · simp[*]
theorem zkn {d:Desc}:Ry d=true↔(d.in_=1∨d.in_=2)∧(d.out=1∨d.out=2)∧(1≤d.states∧d.states≤1024)∧(0≤d.start∧d.start<d.states)∧d.rules.length≤4096∧d.finals.length≤4096:=by
 simp only[Ry,Il,Bool.and_eq_true,decide_eq_true_eq,zqf];omega
def Sf (d:Desc) (r:Rule):Prop:=(0≤r.from_∧r.from_<d.states)∧(0≤r.to_∧r.to_<d.states)∧((r.guards.length:Int)=0∧r.eat=0∨1≤r.eat∧r.eat≤r.guards.length)
theorem zko {d:Desc} {r:Rule}:Ew d r=true↔Sf d r∧Cy d.in_ r.guards=true∧De d r.out r.guards=true:=by
 simp only[Ew,Il,eatB,Sf,Bool.and_eq_true,Bool.not_eq_true',decide_eq_true_eq,decide_eq_false_iff_not];constructor
 · rintro⟨h1,h2,h3,h4,h5⟩
   exact⟨⟨h1,h2,by omega⟩,h3,h5⟩
 · rintro⟨⟨h1,h2,h4⟩,h3,h5⟩
   exact⟨h1,h2,h3,by omega,h5⟩
theorem zfx {d:Desc} {f:Cw}:Df d f=true↔(0≤f.from_∧f.from_<d.states)∧Cy d.in_ f.guards=true∧De d f.out f.guards=true:=by
 simp only[Df,Il,Bool.and_eq_true,decide_eq_true_eq]
structure Sg (d:Desc):Prop where
 fin:Gh d
 rg:∀ r∈d.rules,r.guards.length≤9223372036854775807
 fg:∀ f∈d.finals,f.guards.length≤9223372036854775807
structure Hold (p:Prop):Prop where
 get:p
theorem share {P Q:Prop} (main:Hold P→Q) (k:Hold P):Q:=main k
set_option maxHeartbeats 4000000 in
set_option maxRecDepth 8000 in
theorem z4i (d:Desc) (hs:Sg d):PC Tryz.prog 45 [Bp d] (.tup [.int .i64 (D8 d).1,.int .i64 (D8 d).2]):=by
 have hPr:=Az d.rules;have hPf:=Av d.finals;have hhi:=@zkn d;refine A9 V5 ?_;unfold L1;cases hh:Ry d with
 | false =>
   rw[D8,if_pos hh];have hno:¬((d.in_=1∨d.in_=2)∧(d.out=1∨d.out=2)∧(1≤d.states∧d.states≤1024)∧(0≤d.start∧d.start<d.states)∧d.rules.length≤4096∧d.finals.length≤4096):=fun h=>by rw[hhi.2 h] at hh;cases hh
   clear hhi;(with_reducible repeat' (first|(simp(disch:=omega)only[push_cast,↓zz,seval])|refine And.intro ?_ ?_|(first|refine Ab ?_ ?_|refine Aa ?_ ?_)<;>intro hc<;>(try simp only[push_cast] at hc)|omega|intro _))
   all_goals first
     | (exfalso;omega)
     | ((repeat' (first|(simp(disch:=omega)only[push_cast,↓zz,seval,Bq])|omega|(with_reducible refine And.intro ?_ ?_)));done)
     | trace_state
 | true =>
 obtain⟨i1,i2,i3,i4,i5,i6⟩:=hhi.1 hh;clear hhi
 have hW:D8 d=match E8 (Ew d) d.rules 0 with
   | some i=>(2,(i:Int))
   | none=>match E8 (Df d) d.finals 0 with
     | some i=>(3,(i:Int))
     | none=>if (@decide (cycP d.rules d.states.toNat) (Classical.propDecidable _))=true then (4,0) else (0,0):=by
   rw[D8,if_neg (by simp[hh])];cases E8 (Ew d) d.rules 0 with
   | some i=>rfl
   | none =>
     cases E8 (Df d) d.finals 0 with
     | some i=>rfl
     | none =>
       by_cases hc:cycP d.rules d.states.toNat
       · simp only[if_pos hc,@decide_eq_true _ (Classical.propDecidable _) hc,if_true]
       · simp only[if_neg hc,@decide_eq_false _ (Classical.propDecidable _) hc,Bool.false_eq_true,if_false]
 apply share
 · intro key
   (with_reducible repeat' (first|(simp(disch:=omega)only[push_cast,↓zz,seval])|refine And.intro ?_ ?_|(first|refine Ab ?_ ?_|refine Aa ?_ ?_)<;>intro hc<;>(try simp only[push_cast] at hc)|omega|intro _))
   all_goals first
     | (exfalso;omega)
     | skip
   all_goals
     refine An (Ap (fun (k:Nat)=>k≤d.rules.length∧E8 (Ew d) d.rules 0=E8 (Ew d) (d.rules.drop k) k) (fun k=>d.rules.length-k)
       (fun k=>[(1,.ptr 0 1 0 0),(4,.int .i64 k)]) (fun k=>[⟨6,1,true,[Bp d]⟩]) (fun env _=>[A5 1 (env 1)]) 0 ⟨by simp,rfl⟩ ?_ ?_)
     · (with_reducible repeat' (first|(simp(disch:=omega)only[push_cast,↓zz,seval,hPr,hPf])|refine And.intro ?_ ?_|(first|refine Ab ?_ ?_|refine Aa ?_ ?_)<;>intro hc<;>(try simp only[push_cast] at hc)|omega|intro _))
     exact key.get
 refine⟨?_⟩;rintro k ⟨k1,k2⟩;rcases Nat.lt_or_ge k d.rules.length with hk|hk
 · have hrm:=Ao hk
   have hrf:=hs.fin.1 _ hrm;have hrg:=hs.rg _ hrm;rw[Pn hk] at k2;have hiff:=@zko d (nth d.rules k);have hG:=Oz d.in_ (nth d.rules k).guards hrg;generalize hre:nth d.rules k=r at *;have hpg:=Ad r.guards;have hpt:=Am r.out
   have hbad:¬Sf d r→D8 d=(2,(k:Int)):=fun hA=>by
     have hb:Ew d r=false:=by
       cases h:Ew d r with
       | false=>rfl
       | true=>exact absurd (hiff.1 h).1 hA
     rw[hb] at k2;simp only[Bool.false_eq_true,if_false] at k2;rw[hW,k2]
   refine W_T ?_;by_cases f1:r.from_<0
   · rw[hbad fun hA=>by unfold Sf at hA;omega]
     have g1:=eq_true f1;clear hiff hbad hW;(with_reducible repeat' (first|(simp(disch:=omega)only[push_cast,↓zz,seval,hPr,hPf,hre,hpg,hpt,g1])|refine And.intro ?_ ?_|(first|refine Ab ?_ ?_|refine Aa ?_ ?_)<;>intro hc<;>(try simp only[push_cast] at hc)|omega|intro _))
   by_cases f2:d.states≤r.from_
   · rw[hbad fun hA=>by unfold Sf at hA;omega]
     have g1:=eq_false f1;have g2:=eq_true f2;clear hiff hbad hW;(with_reducible repeat' (first|(simp(disch:=omega)only[push_cast,↓zz,seval,hPr,hPf,hre,hpg,hpt,g1,g2])|refine And.intro ?_ ?_|(first|refine Ab ?_ ?_|refine Aa ?_ ?_)<;>intro hc<;>(try simp only[push_cast] at hc)|omega|intro _))
   by_cases f3:r.to_<0
   · rw[hbad fun hA=>by unfold Sf at hA;omega]
     have g1:=eq_false f1;have g2:=eq_false f2;have g3:=eq_true f3;clear hiff hbad hW;(with_reducible repeat' (first|(simp(disch:=omega)only[push_cast,↓zz,seval,hPr,hPf,hre,hpg,hpt,g1,g2,g3])|refine And.intro ?_ ?_|(first|refine Ab ?_ ?_|refine Aa ?_ ?_)<;>intro hc<;>(try simp only[push_cast] at hc)|omega|intro _))
   by_cases f4:d.states≤r.to_
   · rw[hbad fun hA=>by unfold Sf at hA;omega]
     have g1:=eq_false f1;have g2:=eq_false f2;have g3:=eq_false f3;have g4:=eq_true f4;clear hiff hbad hW;(with_reducible repeat' (first|(simp(disch:=omega)only[push_cast,↓zz,seval,hPr,hPf,hre,hpg,hpt,g1,g2,g3,g4])|refine And.intro ?_ ?_|(first|refine Ab ?_ ?_|refine Aa ?_ ?_)<;>intro hc<;>(try simp only[push_cast] at hc)|omega|intro _))
   have g1:=eq_false f1;have g2:=eq_false f2;have g3:=eq_false f3;have g4:=eq_false f4
   have hE:(((r.guards.length:Int)=0)=True∧(r.eat=0)=True∧(1≤r.eat)=False)∨(((r.guards.length:Int)=0)=False∧(1≤r.eat)=True∧(r.eat≤(r.guards.length:Int))=True) ∨
       ¬Sf d r∧(((r.guards.length:Int)=0)=True∧(r.eat=0)=False∧(1≤r.eat)=False∨((r.guards.length:Int)=0)=True∧(r.eat=0)=False∧(1≤r.eat)=True∧(r.eat≤(r.guards.length:Int))=False ∨
         ((r.guards.length:Int)=0)=False∧(1≤r.eat)=False∨((r.guards.length:Int)=0)=False∧(1≤r.eat)=True∧(r.eat≤(r.guards.length:Int))=False):=by
     simp only[eq_iff_iff,iff_true,iff_false,Sf];omega
   have hgood:((((r.guards.length:Int)=0)=True∧(r.eat=0)=True∧(1≤r.eat)=False)∨(((r.guards.length:Int)=0)=False∧(1≤r.eat)=True∧(r.eat≤(r.guards.length:Int))=True))→Sf d r:=by
     simp only[eq_iff_iff,iff_true,iff_false,Sf];omega
   rcases hE with hE|hE|⟨hA,hE⟩
   · have hA:=hgood (.inl hE)
     obtain⟨e1,e2,e3⟩:=hE;clear hbad hgood;cases hg:Cy d.in_ r.guards with
     | false =>
       rw[hg] at hG
       have hb:Ew d r=false:=by
         cases h:Ew d r with
         | false=>rfl
         | true=>have:=(hiff.1 h).2.1;rw[hg] at this;cases this
       rw[hb] at k2;simp only[Bool.false_eq_true,if_false] at k2;rw[hW,k2];clear hiff hW hA;(with_reducible repeat' (first|(simp(disch:=omega)only[push_cast,↓zz,seval,hPr,hPf,hre,hpg,hpt,g1,g2,g3,g4,e1,e2,e3])|refine And.intro ?_ ?_|(first|refine Ab ?_ ?_|refine Aa ?_ ?_)<;>intro hc<;>(try simp only[push_cast] at hc)|refine eK hG ?_|refine eQ hG ?_|refine eG hG ?_|((first|refine cK hG ?_|refine cQ hG ?_|refine cG hG ?_);(simp(disch:=omega)only[push_cast,↓zz,seval,hPr,hPf,hre,hpg,hpt,g1,g2,g3,g4,e1,e2,e3]);(fail_if_success change False))|omega|intro _))
     | true =>
       rw[hg] at hG;have hWr:=Jn d r.out r.guards hrf (Sd hg)
       have hb:Ew d r=De d r.out r.guards:=by
         rw[Bool.eq_iff_iff,hiff];exact⟨fun h=>h.2.2,fun h=>⟨hA,hg,h⟩⟩
       rw[hb] at k2;cases hw:De d r.out r.guards with
       | false =>
         rw[hw] at hWr k2;simp only[Bool.false_eq_true,if_false] at k2;rw[hW,k2];clear hiff hW hA;(with_reducible repeat' (first|(simp(disch:=omega)only[push_cast,↓zz,seval,hPr,hPf,hre,hpg,hpt,g1,g2,g3,g4,e1,e2,e3])|refine And.intro ?_ ?_|(first|refine Ab ?_ ?_|refine Aa ?_ ?_)<;>intro hc<;>(try simp only[push_cast] at hc)|refine eK hG ?_|refine eQ hG ?_|refine eG hG ?_|refine eK hWr ?_|refine eQ hWr ?_|refine eG hWr ?_|((first|refine cK hG ?_|refine cQ hG ?_|refine cG hG ?_|refine cK hWr ?_|refine cQ hWr ?_|refine cG hWr ?_);(simp(disch:=omega)only[push_cast,↓zz,seval,hPr,hPf,hre,hpg,hpt,g1,g2,g3,g4,e1,e2,e3]);(fail_if_success change False))|omega|intro _))
       | true =>
         rw[hw] at hWr k2;simp only[if_true] at k2;clear hiff hA;(with_reducible repeat' (first|(simp(disch:=omega)only[push_cast,↓zz,seval,hPr,hPf,hre,hpg,hpt,g1,g2,g3,g4,e1,e2,e3])|refine And.intro ?_ ?_|(first|refine Ab ?_ ?_|refine Aa ?_ ?_)<;>intro hc<;>(try simp only[push_cast] at hc)|refine eK hG ?_|refine eQ hG ?_|refine eG hG ?_|refine eK hWr ?_|refine eQ hWr ?_|refine eG hWr ?_|((first|refine cK hG ?_|refine cQ hG ?_|refine cG hG ?_|refine cK hWr ?_|refine cQ hWr ?_|refine cG hWr ?_);(simp(disch:=omega)only[push_cast,↓zz,seval,hPr,hPf,hre,hpg,hpt,g1,g2,g3,g4,e1,e2,e3]);(fail_if_success change False))|omega|intro _))
         all_goals first
           | exact⟨k+1,by push_cast,⟨by omega,k2⟩,by omega⟩
           | trace_state
   · have hA:=hgood (.inr hE)
     obtain⟨e1,e2,e3⟩:=hE;clear hbad hgood;cases hg:Cy d.in_ r.guards with
     | false =>
       rw[hg] at hG
       have hb:Ew d r=false:=by
         cases h:Ew d r with
         | false=>rfl
         | true=>have:=(hiff.1 h).2.1;rw[hg] at this;cases this
       rw[hb] at k2;simp only[Bool.false_eq_true,if_false] at k2;rw[hW,k2];clear hiff hW hA;(with_reducible repeat' (first|(simp(disch:=omega)only[push_cast,↓zz,seval,hPr,hPf,hre,hpg,hpt,g1,g2,g3,g4,e1,e2,e3])|refine And.intro ?_ ?_|(first|refine Ab ?_ ?_|refine Aa ?_ ?_)<;>intro hc<;>(try simp only[push_cast] at hc)|refine eK hG ?_|refine eQ hG ?_|refine eG hG ?_|((first|refine cK hG ?_|refine cQ hG ?_|refine cG hG ?_);(simp(disch:=omega)only[push_cast,↓zz,seval,hPr,hPf,hre,hpg,hpt,g1,g2,g3,g4,e1,e2,e3]);(fail_if_success change False))|omega|intro _))
     | true =>
       rw[hg] at hG;have hWr:=Jn d r.out r.guards hrf (Sd hg)
       have hb:Ew d r=De d r.out r.guards:=by
         rw[Bool.eq_iff_iff,hiff];exact⟨fun h=>h.2.2,fun h=>⟨hA,hg,h⟩⟩
       rw[hb] at k2;cases hw:De d r.out r.guards with
       | false =>
         rw[hw] at hWr k2;simp only[Bool.false_eq_true,if_false] at k2;rw[hW,k2];clear hiff hW hA;(with_reducible repeat' (first|(simp(disch:=omega)only[push_cast,↓zz,seval,hPr,hPf,hre,hpg,hpt,g1,g2,g3,g4,e1,e2,e3])|refine And.intro ?_ ?_|(first|refine Ab ?_ ?_|refine Aa ?_ ?_)<;>intro hc<;>(try simp only[push_cast] at hc)|refine eK hG ?_|refine eQ hG ?_|refine eG hG ?_|refine eK hWr ?_|refine eQ hWr ?_|refine eG hWr ?_|((first|refine cK hG ?_|refine cQ hG ?_|refine cG hG ?_|refine cK hWr ?_|refine cQ hWr ?_|refine cG hWr ?_);(simp(disch:=omega)only[push_cast,↓zz,seval,hPr,hPf,hre,hpg,hpt,g1,g2,g3,g4,e1,e2,e3]);(fail_if_success change False))|omega|intro _))
       | true =>
         rw[hw] at hWr k2;simp only[if_true] at k2;clear hiff hA;(with_reducible repeat' (first|(simp(disch:=omega)only[push_cast,↓zz,seval,hPr,hPf,hre,hpg,hpt,g1,g2,g3,g4,e1,e2,e3])|refine And.intro ?_ ?_|(first|refine Ab ?_ ?_|refine Aa ?_ ?_)<;>intro hc<;>(try simp only[push_cast] at hc)|refine eK hG ?_|refine eQ hG ?_|refine eG hG ?_|refine eK hWr ?_|refine eQ hWr ?_|refine eG hWr ?_|((first|refine cK hG ?_|refine cQ hG ?_|refine cG hG ?_|refine cK hWr ?_|refine cQ hWr ?_|refine cG hWr ?_);(simp(disch:=omega)only[push_cast,↓zz,seval,hPr,hPf,hre,hpg,hpt,g1,g2,g3,g4,e1,e2,e3]);(fail_if_success change False))|omega|intro _))
         all_goals first
           | exact⟨k+1,by push_cast,⟨by omega,k2⟩,by omega⟩
           | trace_state
   · rw[hbad hA]
     clear hiff hW hA hbad hgood;rcases hE with⟨e1,e2,e3⟩|⟨e1,e2,e3,e4⟩|⟨e1,e2⟩|⟨e1,e2,e3⟩
     · (with_reducible repeat' (first|(simp(disch:=omega)only[push_cast,↓zz,seval,hPr,hPf,hre,hpg,hpt,g1,g2,g3,g4,e1,e2,e3])|refine And.intro ?_ ?_|(first|refine Ab ?_ ?_|refine Aa ?_ ?_)<;>intro hc<;>(try simp only[push_cast] at hc)|omega|intro _))
     · (with_reducible repeat' (first|(simp(disch:=omega)only[push_cast,↓zz,seval,hPr,hPf,hre,hpg,hpt,g1,g2,g3,g4,e1,e2,e3,e4])|refine And.intro ?_ ?_|(first|refine Ab ?_ ?_|refine Aa ?_ ?_)<;>intro hc<;>(try simp only[push_cast] at hc)|omega|intro _))
     · (with_reducible repeat' (first|(simp(disch:=omega)only[push_cast,↓zz,seval,hPr,hPf,hre,hpg,hpt,g1,g2,g3,g4,e1,e2])|refine And.intro ?_ ?_|(first|refine Ab ?_ ?_|refine Aa ?_ ?_)<;>intro hc<;>(try simp only[push_cast] at hc)|omega|intro _))
     · (with_reducible repeat' (first|(simp(disch:=omega)only[push_cast,↓zz,seval,hPr,hPf,hre,hpg,hpt,g1,g2,g3,g4,e1,e2,e3])|refine And.intro ?_ ?_|(first|refine Ab ?_ ?_|refine Aa ?_ ?_)<;>intro hc<;>(try simp only[push_cast] at hc)|omega|intro _))
 · rw[List.drop_of_length_le hk,E8] at k2
   have hall:=Hi k2;have hC:=z3v d ⟨i3,i5,fun r hr=>Xh (hall r hr)⟩
   have hcs:=z6n (l:=d.rules) (n:=d.states.toNat) fun r hr=>by
     have:=Xh (hall r hr);omega
   rw[k2] at hW;simp only at hW;refine W_T ?_;(with_reducible repeat' (first|(simp(disch:=omega)only[push_cast,↓zz,seval,hPr,hPf])|refine And.intro ?_ ?_|(first|refine Ab ?_ ?_|refine Aa ?_ ?_)<;>intro hc<;>(try simp only[push_cast] at hc)|omega|intro _))
   refine An (Ap (fun (k:Nat)=>k≤d.finals.length∧E8 (Df d) d.finals 0=E8 (Df d) (d.finals.drop k) k) (fun k=>d.finals.length-k)
     (fun k=>[(1,.ptr 0 1 0 0),(8,.int .i64 k)]) (fun k=>[⟨6,1,true,[Bp d]⟩]) (fun env _=>[A5 1 (env 1)]) 0 ⟨by simp,rfl⟩ ?_ ?_)
   · (with_reducible repeat' (first|(simp(disch:=omega)only[push_cast,↓zz,seval,hPr,hPf])|refine And.intro ?_ ?_|(first|refine Ab ?_ ?_|refine Aa ?_ ?_)<;>intro hc<;>(try simp only[push_cast] at hc)|omega|intro _))
   rintro j ⟨j1,j2⟩;rcases Nat.lt_or_ge j d.finals.length with hj|hj
   · have hfm:=Ao hj
     have hff:=hs.fin.2 _ hfm;have hfg:=hs.fg _ hfm;rw[Pn hj] at j2;have hiff:=@zfx d (nth d.finals j);have hG:=Oz d.in_ (nth d.finals j).guards hfg;generalize hfe:nth d.finals j=f at *;have hpg:=Ad f.guards;have hpt:=Am f.out
     have hbad:Df d f=false→D8 d=(3,(j:Int)):=fun hb=>by
       rw[hb] at j2;simp only[Bool.false_eq_true,if_false] at j2;rw[hW,j2]
     have hno:¬(0≤f.from_∧f.from_<d.states)→Df d f=false:=fun hA=>by
       cases h:Df d f with
       | false=>rfl
       | true=>exact absurd (hiff.1 h).1 hA
     refine W_T ?_;by_cases f1:f.from_<0
     · rw[hbad (hno (by omega))]
       have g1:=eq_true f1;clear hiff hbad hW hno;(with_reducible repeat' (first|(simp(disch:=omega)only[push_cast,↓zz,seval,hPr,hPf,hfe,hpg,hpt,g1])|refine And.intro ?_ ?_|(first|refine Ab ?_ ?_|refine Aa ?_ ?_)<;>intro hc<;>(try simp only[push_cast] at hc)|omega|intro _))
     by_cases f2:d.states≤f.from_
     · rw[hbad (hno (by omega))]
       have g1:=eq_false f1;have g2:=eq_true f2;clear hiff hbad hW hno;(with_reducible repeat' (first|(simp(disch:=omega)only[push_cast,↓zz,seval,hPr,hPf,hfe,hpg,hpt,g1,g2])|refine And.intro ?_ ?_|(first|refine Ab ?_ ?_|refine Aa ?_ ?_)<;>intro hc<;>(try simp only[push_cast] at hc)|omega|intro _))
     have g1:=eq_false f1;have g2:=eq_false f2;cases hg:Cy d.in_ f.guards with
     | false =>
       rw[hg] at hG
       have hb:Df d f=false:=by
         cases h:Df d f with
         | false=>rfl
         | true=>have:=(hiff.1 h).2.1;rw[hg] at this;cases this
       rw[hbad hb];clear hiff hbad hW hno;(with_reducible repeat' (first|(simp(disch:=omega)only[push_cast,↓zz,seval,hPr,hPf,hfe,hpg,hpt,g1,g2])|refine And.intro ?_ ?_|(first|refine Ab ?_ ?_|refine Aa ?_ ?_)<;>intro hc<;>(try simp only[push_cast] at hc)|refine eK hG ?_|refine eQ hG ?_|refine eG hG ?_|((first|refine cK hG ?_|refine cQ hG ?_|refine cG hG ?_);(simp(disch:=omega)only[push_cast,↓zz,seval,hPr,hPf,hfe,hpg,hpt,g1,g2]);(fail_if_success change False))|omega|intro _))
     | true =>
       rw[hg] at hG;have hWr:=Jn d f.out f.guards hff (Sd hg)
       have hb:Df d f=De d f.out f.guards:=by
         rw[Bool.eq_iff_iff,hiff];exact⟨fun h=>h.2.2,fun h=>⟨by omega,hg,h⟩⟩
       rw[hb] at j2 hbad;cases hw:De d f.out f.guards with
       | false =>
         rw[hw] at hWr;rw[hbad hw];clear hiff hbad hW hno;(with_reducible repeat' (first|(simp(disch:=omega)only[push_cast,↓zz,seval,hPr,hPf,hfe,hpg,hpt,g1,g2])|refine And.intro ?_ ?_|(first|refine Ab ?_ ?_|refine Aa ?_ ?_)<;>intro hc<;>(try simp only[push_cast] at hc)|refine eK hG ?_|refine eQ hG ?_|refine eG hG ?_|refine eK hWr ?_|refine eQ hWr ?_|refine eG hWr ?_|((first|refine cK hG ?_|refine cQ hG ?_|refine cG hG ?_|refine cK hWr ?_|refine cQ hWr ?_|refine cG hWr ?_);(simp(disch:=omega)only[push_cast,↓zz,seval,hPr,hPf,hfe,hpg,hpt,g1,g2]);(fail_if_success change False))|omega|intro _))
       | true =>
         rw[hw] at hWr j2;simp only[if_true] at j2;clear hiff hbad hno;(with_reducible repeat' (first|(simp(disch:=omega)only[push_cast,↓zz,seval,hPr,hPf,hfe,hpg,hpt,g1,g2])|refine And.intro ?_ ?_|(first|refine Ab ?_ ?_|refine Aa ?_ ?_)<;>intro hc<;>(try simp only[push_cast] at hc)|refine eK hG ?_|refine eQ hG ?_|refine eG hG ?_|refine eK hWr ?_|refine eQ hWr ?_|refine eG hWr ?_|((first|refine cK hG ?_|refine cQ hG ?_|refine cG hG ?_|refine cK hWr ?_|refine cQ hWr ?_|refine cG hWr ?_);(simp(disch:=omega)only[push_cast,↓zz,seval,hPr,hPf,hfe,hpg,hpt,g1,g2]);(fail_if_success change False))|omega|intro _))
         all_goals first
           | exact⟨j+1,by push_cast,⟨by omega,j2⟩,by omega⟩
           | trace_state
   · rw[List.drop_of_length_le hj,E8] at j2
     rw[j2] at hW;simp only at hW
     have hdc:@decide (cycP d.rules d.states.toNat) (Classical.propDecidable _)=cycR d.rules d.states.toNat:=by
       rw[Bool.eq_iff_iff,hcs];exact @decide_eq_true_iff _ (Classical.propDecidable _)
     rw[hdc] at hW;clear hcs hdc;generalize cycR d.rules d.states.toNat=c at *;refine W_T ?_;rw[hW];cases c
     · (with_reducible repeat' (first|(simp(disch:=omega)only[push_cast,↓zz,seval,hPr,hPf])|refine And.intro ?_ ?_|(first|refine Ab ?_ ?_|refine Aa ?_ ?_)<;>intro hc<;>(try simp only[push_cast] at hc)|refine eK hC ?_|refine eQ hC ?_|refine eG hC ?_|((first|refine cK hC ?_|refine cQ hC ?_|refine cG hC ?_);(simp(disch:=omega)only[push_cast,↓zz,seval,hPr,hPf]);(fail_if_success change False))|omega|intro _))
     · (with_reducible repeat' (first|(simp(disch:=omega)only[push_cast,↓zz,seval,hPr,hPf])|refine And.intro ?_ ?_|(first|refine Ab ?_ ?_|refine Aa ?_ ?_)<;>intro hc<;>(try simp only[push_cast] at hc)|refine eK hC ?_|refine eQ hC ?_|refine eG hC ?_|((first|refine cK hC ?_|refine cQ hC ?_|refine cG hC ?_);(simp(disch:=omega)only[push_cast,↓zz,seval,hPr,hPf]);(fail_if_success change False))|omega|intro _))
       all_goals trace_state
end Go.Proofs.YtbcjoeadpjfcfaaGreat
set_option maxRecDepth 100000
namespace Go.Proofs.YtbcjoeadpjfcfaaGreat
open Abs
abbrev Ei (p:List Nat):AV:=.lst 1 (p.map e1)
theorem Dh (p:List Nat):Aw (p.map e1)=true:=Ef (fun _=>rfl) p
theorem zb1 {E:List Nat} {i:Nat} (hs:E.Pairwise (·<·)) (h:i∈E):Dg E i=some i:=by
 obtain⟨l1,l2,rfl⟩:=List.append_of_mem h;rw[Dg,List.find?_eq_some_iff_append];refine⟨by simp,l1,l2,rfl,fun x hx=>?_⟩;rw[List.pairwise_append] at hs;have:=hs.2.2 x hx i (by simp);simp;omega
theorem z4j {E:List Nat} {i:Nat} (h:i∉E):Dg E i=Dg E (i+1):=by
 induction E with
 | nil=>rfl
 | cons a E ih =>
   have h1:i≠a:=fun e=>h (by simp[e]);have h2:=ih (fun hh=>h (by simp[hh]));simp only[Dg] at h2 ⊢;rw[List.find?_cons,List.find?_cons,h2];have:decide (i≤a)=decide (i+1≤a):=decide_eq_decide.2 (by omega);rw[this]
theorem zb2 {E:List Nat} {i:Nat} (h:∀ x∈E,x<i):Dg E i=none:=List.find?_eq_none.2 fun x hx=>by have:=h x hx;simp;omega
theorem zlz (d:Desc) (s:Int) (p:List Nat) (hl:p.length≤1000000) (hp:∀ i∈p,i<d.rules.length):PC Tryz.prog 57 [Bp d,.int .i64 s,Ei p] (.int .i64 (endP d.rules s p)):=by
 have pR:=Az d.rules;have pFi:=Av d.finals;have pp:=Dh p;rcases List.eq_nil_or_concat p with rfl|⟨q,i,rfl⟩
 · refine A9 Qj ?_
   unfold Ld;(with_reducible repeat' (first|(simp(disch:=omega)only[push_cast,↓zz,seval,pR,pFi,endP])|refine And.intro ?_ ?_|(first|refine Ab ?_ ?_|refine Aa ?_ ?_)<;>intro hc<;>(try simp only[push_cast] at hc)|omega|intro _))
 · rw[List.concat_eq_append] at *
   have hi:=hp i (by simp);have he:endP d.rules s (q++[i])=(nth d.rules i).to_:=by rw[z7d];rfl
   have aI:((q++[i]).map e1).getD q.length .any=.int .i64 i:=by simp[List.getD]
   have aN:nth (q++[i]) q.length=i:=by simp[nth,List.getD]
   have hll:(q++[i]).length=q.length+1:=by simp
   have hqi:((q.length:Int)+1-1).toNat=q.length:=by omega
   rw[he];generalize hre:nth d.rules i=r at *;generalize q++[i]=p at *;have hgr:=Ad r.guards;have hot:=Am r.out;refine A9 Qj ?_;unfold Ld;(with_reducible repeat' (first|(simp(disch:=omega)only[push_cast,↓zz,seval,pR,pFi,pp,hre,hll,aI,aN,hqi,hgr,hot])|refine And.intro ?_ ?_|(first|refine Ab ?_ ?_|refine Aa ?_ ?_)<;>intro hc<;>(try simp only[push_cast] at hc)|omega|intro _))
   all_goals trace_state
def z4k (p:List Nat):Option Nat→AV
 | some j=>.tup [Ei (p++[j]),.bool true]
 | none=>.tup [.nilS,.bool false]
theorem z1b (d:Desc) (hrl:d.rules.length≤4096) (s:Int) (p:List Nat) (m:Nat) (hm:m≤4096) (hl:p.length≤1000000) (hp:∀ i∈p,i<d.rules.length):PC Tryz.prog 94 [Bp d,.int .i64 s,Ei p,.int .i64 m] (z4k p (Dg (epsI d.rules (endP d.rules s p)) m)):=by
 have pR:=Az d.rules;have pFi:=Av d.finals;have pp:=Dh p;have hEx:(!(p.map e1).isEmpty||(p.map e1).isEmpty)=true:=by cases (p.map e1).isEmpty<;>rfl
 have hE:=zlz d s p hl hp;generalize endP d.rules s p=at_ at *;refine A9 Sx ?_;unfold Kt;(with_reducible repeat' (first|(simp(disch:=omega)only[push_cast,↓zz,seval,pR,pFi,pp])|refine And.intro ?_ ?_|(first|refine Ab ?_ ?_|refine Aa ?_ ?_)<;>intro hc<;>(try simp only[push_cast] at hc)|refine eK hE ?_|refine eQ hE ?_|refine eG hE ?_|((first|refine cK hE ?_|refine cQ hE ?_|refine cG hE ?_);(simp(disch:=omega)only[push_cast,↓zz,seval,pR,pFi,pp]);(fail_if_success change False))|omega|intro _))
 refine An (Ap (fun (k:Nat)=>k≤4096∧Dg (epsI d.rules at_) m=Dg (epsI d.rules at_) k) (fun k=>4096-k)
   (fun k=>[(2,Ei p),(4,.cptr (Bp d)),(10,.int .i64 at_),(11,.int .i64 k)]) (fun _=>[]) (fun _ _=>[]) m ⟨hm,rfl⟩ ?_ ?_)
 · (with_reducible repeat' (first|(simp(disch:=omega)only[push_cast,↓zz,seval,pR,pFi,pp])|refine And.intro ?_ ?_|(first|refine Ab ?_ ?_|refine Aa ?_ ?_)<;>intro hc<;>(try simp only[push_cast] at hc)|omega|intro _))
 rintro k ⟨hk,hr⟩;rcases Nat.lt_or_ge k d.rules.length with hkl|hkl
 · by_cases hmem:k∈epsI d.rules at_
   · rw[hr,zb1 (R5 _ _) hmem,z4k]
     obtain⟨_,h2,h3⟩:=F2.1 hmem;simp only[Cf,decide_eq_true_eq] at h2;have eM:(p++[k]).map e1=p.map e1++[.int .i64 (k:Int)]:=by rw[List.map_append];rfl
     have et:List.take (p.length+1) (p.map e1++[.int .i64 (k:Int)])=p.map e1++[.int .i64 (k:Int)]:=List.take_of_length_le (by simp);have pM:Aw (p.map e1++[.int .i64 (k:Int)])=true:=by rw[←eM];exact Dh _
     generalize hre:nth d.rules k=r at *;have hgr:=Ad r.guards;have hot:=Am r.out;refine W_T ?_;(with_reducible repeat' (first|(simp(disch:=omega)only[push_cast,↓zz,seval,pR,pFi,pp,hre,hgr,hot,h2,h3,hEx,et,pM])|refine And.intro ?_ ?_|(first|refine Ab ?_ ?_|refine Aa ?_ ?_)<;>intro hc<;>(try simp only[push_cast] at hc)|omega|intro _))
     all_goals (show ansW (.tup [.lst 1 _,_]) (.tup [.lst 1 ((p++[k]).map e1),_]);rw[eM];(repeat' (first|(simp(disch:=omega)only[push_cast,↓zz,seval,Bq])|omega|(with_reducible refine And.intro ?_ ?_))))
   · have hms:=z4j hmem
     have hno:¬(Cf (nth d.rules k)=true∧(nth d.rules k).from_=at_):=fun h=>hmem (F2.2 ⟨hkl,h.1,h.2⟩);generalize hre:nth d.rules k=r at *;simp only[Cf,decide_eq_true_eq] at hno;have hgr:=Ad r.guards;have hot:=Am r.out;have hno':Hold (¬((r.guards.length:Int)=0∧r.from_=at_)):=⟨hno⟩;clear hno hmem;refine W_T ?_;by_cases hf:r.from_=at_
     · have hg:¬(r.guards.length:Int)=0:=fun h=>hno'.get ⟨h,hf⟩
       (with_reducible repeat' (first|(simp(disch:=omega)only[push_cast,↓zz,seval,pR,pFi,pp,hre,hgr,hot,hf,hg])|refine And.intro ?_ ?_|(first|refine Ab ?_ ?_|refine Aa ?_ ?_)<;>intro hc<;>(try simp only[push_cast] at hc)|omega|intro _))
       all_goals
         refine⟨k+1,?_⟩;(with_reducible repeat' (first|(simp(disch:=omega)only[push_cast,↓zz,seval,pR,pFi,pp])|refine And.intro ?_ ?_|(first|refine Ab ?_ ?_|refine Aa ?_ ?_)<;>intro hc<;>(try simp only[push_cast] at hc)|omega|intro _))
       all_goals first|(rw[hr,hms];done)|trace_state
     · (with_reducible repeat' (first|(simp(disch:=omega)only[push_cast,↓zz,seval,pR,pFi,pp,hre,hgr,hot,hf])|refine And.intro ?_ ?_|(first|refine Ab ?_ ?_|refine Aa ?_ ?_)<;>intro hc<;>(try simp only[push_cast] at hc)|omega|intro _))
       all_goals
         refine⟨k+1,?_⟩;(with_reducible repeat' (first|(simp(disch:=omega)only[push_cast,↓zz,seval,pR,pFi,pp])|refine And.intro ?_ ?_|(first|refine Ab ?_ ?_|refine Aa ?_ ?_)<;>intro hc<;>(try simp only[push_cast] at hc)|omega|intro _))
       all_goals first|(rw[hr,hms];done)|trace_state
 · rw[hr,zb2 fun x hx=>Nat.lt_of_lt_of_le (F2.1 hx).1 hkl,z4k]
   refine W_T ?_;(with_reducible repeat' (first|(simp(disch:=omega)only[push_cast,↓zz,seval,pR,pFi,pp])|refine And.intro ?_ ?_|(first|refine Ab ?_ ?_|refine Aa ?_ ?_)<;>intro hc<;>(try simp only[push_cast] at hc)|omega|intro _))
   all_goals trace_state
def resV:Option (List Nat)→AV
 | some x=>Ei x
 | none=>.nilS
theorem zfy (d:Desc) {n:Nat} (hn:n≤1024) (hrl:d.rules.length≤4096) (hl:∀ r∈d.rules,(0≤r.from_∧r.from_<n)∧0≤r.to_∧r.to_<n) (hcyc:¬cycP d.rules n) (s room:Nat) (hr:room≤4096):PC Tryz.prog 46 [Bp d,.int .i64 s,.int .i64 room] (.lst 1 (((D2 d.rules n s).take (room+1)).map Ei)):=by
 have pR:=Az d.rules;have pFi:=Av d.finals;have hs:(0:Int)≤s:=by omega
 have hpos:=z7c d.rules n s
 have hP:∀ p∈D2 d.rules n s,p.length≤n+1∧∀ i∈p,i<d.rules.length:=fun p hp=>by
   obtain⟨h1,h2⟩:=Xl hl hcyc hs hp;exact⟨h1,fun i hi=>(z3z h2 i hi).1⟩
 have hnx:=fun k (hk:k<(D2 d.rules n s).length)=>zk9 hl hcyc hs (k:=k) (p:=nth (D2 d.rules n s) k) (by simp[nth,List.getD,hk]);have hfirst:nth (D2 d.rules n s) 0=[]:=by have:=zao d.rules n s;simp[nth,List.getD,this]
 generalize D2 d.rules n s=PS at *;have pPS:∀ k,Aw ((PS.take k).map Ei)=true:=fun k=>Ef (e:=Ei) (fun p=>Dh p) _;refine A9 Y6 ?_;unfold N2;(with_reducible repeat' (first|(simp(disch:=omega)only[push_cast,↓zz,seval,pR,pFi])|refine And.intro ?_ ?_|(first|refine Ab ?_ ?_|refine Aa ?_ ?_)<;>intro hc<;>(try simp only[push_cast] at hc)|omega|intro _))
 refine An (Ap (fun (k:Nat)=>k<PS.length∧k≤room+1) (fun k=>PS.length-k)
   (fun k=>[(1,.int .i64 s),(2,.int .i64 room),(3,.cptr (Bp d)),(7,.ref 0 1 0 k),(8,Ei (nth PS k))]) (fun k=>[⟨1,1,false,(PS.take k).map Ei⟩]) (fun env _=>[A5 1 (env 7)]) 0 ⟨hpos,by omega⟩ ?_ ?_)
 · (with_reducible repeat' (first|(simp(disch:=omega)only[push_cast,↓zz,seval,pR,pFi,hfirst])|refine And.intro ?_ ?_|(first|refine Ab ?_ ?_|refine Aa ?_ ?_)<;>intro hc<;>(try simp only[push_cast] at hc)|omega|intro _))
 rintro k ⟨hk,hkr⟩;have hnk:=hnx k hk;obtain⟨hw1,hw2⟩:=hP _ (Ao hk);have eM:(PS.take (k+1)).map Ei=(PS.take k).map Ei++[Ei (nth PS k)]:=by rw[take_at hk,List.map_append];rfl
 have lM:((PS.take k).map Ei).length=k:=by simp;omega
 have pk:=pPS k;have pk1:=pPS (k+1);have pw:=Dh (nth PS k);generalize hwe:nth PS k=w at *;rcases Nat.lt_or_ge room k with hrk|hrk
 · obtain rfl:k=room+1:=by omega
   refine W_T ?_;(with_reducible repeat' (first|(simp(disch:=omega)only[push_cast,↓zz,seval,pR,pFi,lM,pk,List.take_take,Nat.min_self])|refine And.intro ?_ ?_|(first|refine Ab ?_ ?_|refine Aa ?_ ?_)<;>intro hc<;>(try simp only[push_cast] at hc)|omega|intro _))
 · have hLo:=z1b d hrl s w 0 (by omega) (by omega) hw2
   have hb:∃ b,b=PS[k+1]? := ⟨_,rfl⟩
   have hdone:PS[k+1]? = none→(PS.take (k+1))=PS.take (room+1):=fun h=>by
     have:=List.getElem?_eq_none_iff.1 h;rw[List.take_of_length_le this,List.take_of_length_le (by omega)]
   have hgo:∀ x,PS[k+1]? = some x→k+1<PS.length∧nth PS (k+1)=x:=fun x h=>by
     obtain⟨h1,h2⟩:=List.getElem?_eq_some_iff.1 h;exact⟨h1,by simp[nth,List.getD,h1,h2]⟩
   rw[zan] at hnk;refine W_T ?_;cases hf0:Dg (epsI d.rules (endP d.rules s w)) 0 with
   | some j0 =>
     rw[hf0] at hLo hnk;simp only at hnk;obtain⟨hk1,hne⟩:=hgo _ hnk.symm;rw[z4k] at hLo;generalize w++[j0]=nx at *;have pnx:=Dh nx;(with_reducible repeat' (first|(simp(disch:=omega)only[push_cast,↓zz,seval,pR,pFi,lM,pk,pw])|refine And.intro ?_ ?_|(first|refine Ab ?_ ?_|refine Aa ?_ ?_)<;>intro hc<;>(try simp only[push_cast] at hc)|refine eK hLo ?_|refine eQ hLo ?_|refine eG hLo ?_|((first|refine cK hLo ?_|refine cQ hLo ?_|refine cG hLo ?_);(simp(disch:=omega)only[push_cast,↓zz,seval,pR,pFi,lM,pk,pw]);(fail_if_success change False))|omega|intro _));refine A8 1 ?_;(with_reducible repeat' (first|(simp(disch:=omega)only[push_cast,↓zz,seval,pR,pFi,lM,pk,pw,pnx])|refine And.intro ?_ ?_|(first|refine Ab ?_ ?_|refine Aa ?_ ?_)<;>intro hc<;>(try simp only[push_cast] at hc)|omega|intro _))
     all_goals
       refine⟨k+1,?_⟩;(with_reducible repeat' (first|(simp(disch:=omega)only[push_cast,↓zz,seval,pR,pFi,pw,pk,pk1,pnx,hne,eM])|refine And.intro ?_ ?_|(first|refine Ab ?_ ?_|refine Aa ?_ ?_)<;>intro hc<;>(try simp only[push_cast] at hc)|omega|intro _))
   | none =>
     rw[hf0] at hLo hnk;simp only at hnk;rw[z4k] at hLo;(with_reducible repeat' (first|(simp(disch:=omega)only[push_cast,↓zz,seval,pR,pFi,lM,pk,pw])|refine And.intro ?_ ?_|(first|refine Ab ?_ ?_|refine Aa ?_ ?_)<;>intro hc<;>(try simp only[push_cast] at hc)|refine eK hLo ?_|refine eQ hLo ?_|refine eG hLo ?_|((first|refine cK hLo ?_|refine cQ hLo ?_|refine cG hLo ?_);(simp(disch:=omega)only[push_cast,↓zz,seval,pR,pFi,lM,pk,pw]);(fail_if_success change False))|omega|intro _))
     refine An (Ap (fun (q:Nat × Option (List Nat))=>q.1≤w.length∧Hold (Ns d.rules s w w.length=match q.2 with|some x=>some x|none=>Ns d.rules s w q.1)) (fun q=>q.1+(if q.2.isSome then 0 else 1))
       (fun q=>[(1,.int .i64 s),(2,.int .i64 room),(3,.cptr (Bp d)),(7,.ref 0 1 0 (k+1)),(8,Ei w),(9,resV q.2),(10,.bool q.2.isSome),(11,.int .i64 q.1)]) (fun _=>[⟨1,1,false,(PS.take (k+1)).map Ei⟩]) (fun env _=>[A5 1 (env 7)]) (w.length,none) ⟨Nat.le_refl _,⟨rfl⟩⟩ ?_ ?_)
     · have r0:resV none=.nilS:=rfl
       (with_reducible repeat' (first|(simp(disch:=omega)only[push_cast,↓zz,seval,pR,pFi,lM,pk,pw,pk1,eM,r0])|refine And.intro ?_ ?_|(first|refine Ab ?_ ?_|refine Aa ?_ ?_)<;>intro hc<;>(try simp only[push_cast] at hc)|omega|intro _))
     rintro⟨q,found⟩ ⟨hq,⟨hfd⟩⟩;simp only at hq hfd;rw[hfd] at hnk;have lM1:((PS.take (k+1)).map Ei).length=k+1:=by simp;omega
     cases found with
     | some x =>
       simp only at hnk;obtain⟨hk1,hne⟩:=hgo _ hnk.symm;have pnx:=Dh x;simp only[resV];refine W_T ?_;(with_reducible repeat' (first|(simp(disch:=omega)only[push_cast,↓zz,seval,pR,pFi,lM1,pk1,pw,pnx])|refine And.intro ?_ ?_|(first|refine Ab ?_ ?_|refine Aa ?_ ?_)<;>intro hc<;>(try simp only[push_cast] at hc)|omega|intro _))
       all_goals
         refine⟨k+1,?_⟩;(with_reducible repeat' (first|(simp(disch:=omega)only[push_cast,↓zz,seval,pR,pFi,pw,pk1,pnx,hne])|refine And.intro ?_ ?_|(first|refine Ab ?_ ?_|refine Aa ?_ ?_)<;>intro hc<;>(try simp only[push_cast] at hc)|omega|intro _))
     | none =>
       simp only at hnk;simp only[resV];cases q with
       | zero =>
         have hd:=hdone hnk.symm;rw[←hd];refine W_T ?_;(with_reducible repeat' (first|(simp(disch:=omega)only[push_cast,↓zz,seval,pR,pFi,lM1,pk1,pw,List.take_take,Nat.min_self])|refine And.intro ?_ ?_|(first|refine Ab ?_ ?_|refine Aa ?_ ?_)<;>intro hc<;>(try simp only[push_cast] at hc)|omega|intro _))
       | succ q =>
         have hqi:nth w q<d.rules.length:=hw2 _ (Ao (by omega));have hwt:∀ i∈w.take q,i<d.rules.length:=fun i hi=>hw2 i (List.mem_of_mem_take hi);have hLq:=z1b d hrl s (w.take q) (nth w q+1) (by omega) (by simp;omega) hwt
         have aQ:(w.map e1).getD q .any=.int .i64 (nth w q:Nat):=by
           have:q<w.length:=by omega
           simp[nth,List.getD,this]
         have hq1:((q:Int)+1-1)=q:=by omega
         have eT:List.take q (w.map e1)=(w.take q).map e1:=by rw[List.map_take]
         have pT:=Dh (w.take q);have hcast:(((nth w q+1:Nat)):Int)=((nth w q:Nat):Int)+1:=by omega
         rw[hcast] at hLq;have hb1:Ns d.rules s w (q+1)=match Dg (epsI d.rules (endP d.rules s (w.take q))) (nth w q+1) with|some j=>some (w.take q++[j])|none=>Ns d.rules s w q:=rfl
         generalize hwq:w.take q=wq at *;generalize hnq:nth w q=m at *;refine W_T ?_;cases hf1:Dg (epsI d.rules (endP d.rules s wq)) (m+1) with
         | some j1 =>
           rw[hf1] at hLq hb1;rw[z4k] at hLq;simp only at hb1;generalize wq++[j1]=nx at *;have pnx:=Dh nx;(with_reducible repeat' (first|(simp(disch:=omega)only[push_cast,↓zz,seval,pR,pFi,lM1,pk1,pw,hq1,aQ,hnq,eT,hwq,pT])|refine And.intro ?_ ?_|(first|refine Ab ?_ ?_|refine Aa ?_ ?_)<;>intro hc<;>(try simp only[push_cast] at hc)|refine eK hLq ?_|refine eQ hLq ?_|refine eG hLq ?_|((first|refine cK hLq ?_|refine cQ hLq ?_|refine cG hLq ?_);(simp(disch:=omega)only[push_cast,↓zz,seval,pR,pFi,lM1,pk1,pw,hq1,aQ,hnq,eT,hwq,pT]);(fail_if_success change False))|omega|intro _))
           all_goals
             refine⟨(q,some nx),?_⟩;(with_reducible repeat' (first|(simp(disch:=omega)only[push_cast,↓zz,seval,pR,pFi,lM1,pk1,pw,pnx,resV])|refine And.intro ?_ ?_|(first|refine Ab ?_ ?_|refine Aa ?_ ?_)<;>intro hc<;>(try simp only[push_cast] at hc)|omega|intro _))
           all_goals first|exact⟨by rw[hfd,hb1]⟩|trace_state
         | none =>
           rw[hf1] at hLq hb1;rw[z4k] at hLq;simp only at hb1;(with_reducible repeat' (first|(simp(disch:=omega)only[push_cast,↓zz,seval,pR,pFi,lM1,pk1,pw,hq1,aQ,hnq,eT,hwq,pT])|refine And.intro ?_ ?_|(first|refine Ab ?_ ?_|refine Aa ?_ ?_)<;>intro hc<;>(try simp only[push_cast] at hc)|refine eK hLq ?_|refine eQ hLq ?_|refine eG hLq ?_|((first|refine cK hLq ?_|refine cQ hLq ?_|refine cG hLq ?_);(simp(disch:=omega)only[push_cast,↓zz,seval,pR,pFi,lM1,pk1,pw,hq1,aQ,hnq,eT,hwq,pT]);(fail_if_success change False))|omega|intro _))
           all_goals
             refine⟨(q,none),?_⟩;(with_reducible repeat' (first|(simp(disch:=omega)only[push_cast,↓zz,seval,pR,pFi,lM1,pk1,pw,resV])|refine And.intro ?_ ?_|(first|refine Ab ?_ ?_|refine Aa ?_ ?_)<;>intro hc<;>(try simp only[push_cast] at hc)|omega|intro _))
           all_goals first|exact⟨by rw[hfd,hb1]⟩|trace_state
theorem z1c (d:Desc) (p:List Nat) (out:List Term) (hl:p.length≤1100) (hp:∀ i∈p,i<d.rules.length) (ho:∀ r∈d.rules,r.out.length≤64) (hol:out.length≤64):PC Tryz.prog 58 [Bp d,Ei p,Be out] (Be (outP d.rules p++out)):=by
 have pR:=Az d.rules;have pFi:=Av d.finals;have pp:=Dh p;have po:=Am out;refine A9 Su ?_;unfold Kq;(with_reducible repeat' (first|(simp(disch:=omega)only[push_cast,↓zz,seval,pR,pFi,pp])|refine And.intro ?_ ?_|(first|refine Ab ?_ ?_|refine Aa ?_ ?_)<;>intro hc<;>(try simp only[push_cast] at hc)|omega|intro _));obtain⟨L,hL⟩:∃ L:Nat→List Term,L=fun k=>outP d.rules (p.take k):=⟨_,rfl⟩;have l0:L 0=[]:=by rw[hL];rfl
 have ls:∀ k,k<p.length→L (k+1)=L k++(nth d.rules (nth p k)).out:=fun k hk=>by
   rw[hL];simp only;rw[take_at hk];simp[outP]
 have le:L p.length=outP d.rules p:=by rw[hL];simp only;rw[List.take_length]
 have lb:∀ k,k≤p.length→(L k).length≤64 * k:=fun k=>by
   induction k with
   | zero=>intro _;rw[l0];simp
   | succ k ih =>
     intro hk;have h1:=ih (by omega);have h2:=ho _ (Ao (hp _ (Ao (show k<p.length by omega))));rw[ls k (by omega),List.length_append];omega
 rw[←le];clear hL le
 refine An (Ap (fun (k:Nat)=>k≤p.length) (fun k=>p.length-k)
   (fun k=>[(1,Ei p),(2,Be out),(3,.cptr (Bp d)),(7,.ref 0 1 0 (L k).length),(8,.int .i64 k)]) (fun k=>[⟨6,1,false,(L k).map Bo⟩]) (fun env _=>[A5 6 (env 7)]) 0 (by simp) ?_ ?_)
 · (with_reducible repeat' (first|(simp(disch:=omega)only[push_cast,↓zz,seval,pR,pFi,pp,po,l0])|refine And.intro ?_ ?_|(first|refine Ab ?_ ?_|refine Aa ?_ ?_)<;>intro hc<;>(try simp only[push_cast] at hc)|omega|intro _))
 intro k hk;have lk:=lb k hk;have pL:=Am (L k);rcases Nat.lt_or_ge k p.length with hkl|hkl
 · have hi:=hp _ (Ao hkl)
   have e1':=ls k hkl;have eM:(L (k+1)).map Bo=(L k).map Bo++((nth d.rules (nth p k)).out).map Bo:=by rw[e1',List.map_append]
   have eN:(L (k+1)).length=(L k).length+(nth d.rules (nth p k)).out.length:=by rw[e1',List.length_append]
   have h2:=ho _ (Ao hi);have aI:(p.map e1).getD k .any=.int .i64 (nth p k:Nat):=by simp[nth,List.getD,hkl]
   generalize hin:nth p k=i at *;generalize hre:nth d.rules i=r at *;have hgr:=Ad r.guards;have hot:=Am r.out;refine W_T ?_;(with_reducible repeat' (first|(simp(disch:=omega)only[push_cast,↓zz,seval,pR,pFi,pp,po,aI,hin,hre,hgr,hot,pL])|refine And.intro ?_ ?_|(first|refine Ab ?_ ?_|refine Aa ?_ ?_)<;>intro hc<;>(try simp only[push_cast] at hc)|omega|intro _))
   all_goals
     refine⟨k+1,?_⟩;(with_reducible repeat' (first|(simp(disch:=omega)only[push_cast,↓zz,seval,pR,pFi,pp,po,eM,eN,pL,hot])|refine And.intro ?_ ?_|(first|refine Ab ?_ ?_|refine Aa ?_ ?_)<;>intro hc<;>(try simp only[push_cast] at hc)|omega|intro _))
 · obtain rfl:k=p.length:=by omega
   have pLo:Aw ((L p.length).map Bo++out.map Bo)=true:=by rw[Qf];simp[pL,po]
   have et:List.take ((L p.length).length+out.length) ((L p.length).map Bo++out.map Bo)=(L p.length).map Bo++out.map Bo:=List.take_of_length_le (by simp);refine W_T ?_;(with_reducible repeat' (first|(simp(disch:=omega)only[push_cast,↓zz,seval,pR,pFi,pp,po,pL,pLo,et])|refine And.intro ?_ ?_|(first|refine Ab ?_ ?_|refine Aa ?_ ?_)<;>intro hc<;>(try simp only[push_cast] at hc)|omega|intro _))
   all_goals trace_state
end Go.Proofs.YtbcjoeadpjfcfaaGreat
set_option maxRecDepth 100000
namespace Go.Proofs.YtbcjoeadpjfcfaaGreat
open Abs
theorem zfz (d:Desc) {n:Nat} (hdn:d.states=n) (hn:n≤1024) (hrl:d.rules.length≤4096) (hl:∀ r∈d.rules,(0≤r.from_∧r.from_<n)∧0≤r.to_∧r.to_<n) (hcyc:¬cycP d.rules n):PC Tryz.prog 19 [Bp d] (if cumW d.rules n n≤4096 then .tup [.int .i64 (cumW d.rules n n),.bool true] else .tup [.int .i64 0,.bool false]):=by
 have pR:=Az d.rules;have pFi:=Av d.finals;refine A9 Y2 ?_;unfold Nx;(with_reducible repeat' (first|(simp(disch:=omega)only[push_cast,↓zz,seval,pR,pFi,hdn])|refine And.intro ?_ ?_|(first|refine Ab ?_ ?_|refine Aa ?_ ?_)<;>intro hc<;>(try simp only[push_cast] at hc)|omega|intro _))
 refine An (Ap (fun (k:Nat)=>k≤n∧cumW d.rules n k≤4096) (fun k=>n-k)
   (fun k=>[(1,.cptr (Bp d)),(4,.int .i64 (cumW d.rules n k)),(5,.int .i64 k)]) (fun _=>[]) (fun _ _=>[]) 0 ⟨by simp,by rw[Jg];omega⟩ ?_ ?_)
 · (with_reducible repeat' (first|(simp(disch:=omega)only[push_cast,↓zz,seval,pR,pFi,Jg])|refine And.intro ?_ ?_|(first|refine Ab ?_ ?_|refine Aa ?_ ?_)<;>intro hc<;>(try simp only[push_cast] at hc)|omega|intro _))
 rintro k ⟨hk,hk4⟩;rcases Nat.lt_or_ge k n with hkn|hkn
 · have hW:=zfy d hn hrl hl hcyc k (4096-cumW d.rules n k) (by omega)
   have hcs:=Hl d.rules n k;have hcm:=Jh d.rules n (show k+1≤n by omega);have hlw:(((D2 d.rules n k).take (4096-cumW d.rules n k+1)).map Ei).length=min (4096-cumW d.rules n k+1) (D2 d.rules n k).length:=by simp
   have hcast:((4096-cumW d.rules n k:Nat):Int)=4096-(cumW d.rules n k:Int):=by omega
   rw[hcast] at hW;have pW:Aw (((D2 d.rules n k).take (4096-cumW d.rules n k+1)).map Ei)=true:=Ef (e:=Ei) (fun p=>Dh p) _;generalize ((D2 d.rules n k).take (4096-cumW d.rules n k+1)).map Ei=L at *;refine W_T ?_;by_cases hfit:cumW d.rules n (k+1)≤4096
   · have hL:L.length=(D2 d.rules n k).length:=by rw[hlw];omega
     (with_reducible repeat' (first|(simp(disch:=omega)only[push_cast,↓zz,seval,pR,pFi,hdn,hL,pW])|refine And.intro ?_ ?_|(first|refine Ab ?_ ?_|refine Aa ?_ ?_)<;>intro hc<;>(try simp only[push_cast] at hc)|refine eK hW ?_|refine eQ hW ?_|refine eG hW ?_|((first|refine cK hW ?_|refine cQ hW ?_|refine cG hW ?_);(simp(disch:=omega)only[push_cast,↓zz,seval,pR,pFi,hdn,hL,pW]);(fail_if_success change False))|omega|intro _))
     all_goals
       refine⟨k+1,?_⟩;(with_reducible repeat' (first|(simp(disch:=omega)only[push_cast,↓zz,seval,pR,pFi,hdn,hcs])|refine And.intro ?_ ?_|(first|refine Ab ?_ ?_|refine Aa ?_ ?_)<;>intro hc<;>(try simp only[push_cast] at hc)|omega|intro _))
   · have:¬cumW d.rules n n≤4096:=by omega
     rw[if_neg this];have hL:L.length=4096-cumW d.rules n k+1:=by rw[hlw];omega
     (with_reducible repeat' (first|(simp(disch:=omega)only[push_cast,↓zz,seval,pR,pFi,hdn,hL,pW])|refine And.intro ?_ ?_|(first|refine Ab ?_ ?_|refine Aa ?_ ?_)<;>intro hc<;>(try simp only[push_cast] at hc)|refine eK hW ?_|refine eQ hW ?_|refine eG hW ?_|((first|refine cK hW ?_|refine cQ hW ?_|refine cG hW ?_);(simp(disch:=omega)only[push_cast,↓zz,seval,pR,pFi,hdn,hL,pW]);(fail_if_success change False))|omega|intro _))
 · obtain rfl:k=n:=by omega
   rw[if_pos hk4];refine W_T ?_;(with_reducible repeat' (first|(simp(disch:=omega)only[push_cast,↓zz,seval,pR,pFi,hdn])|refine And.intro ?_ ?_|(first|refine Ab ?_ ?_|refine Aa ?_ ?_)<;>intro hc<;>(try simp only[push_cast] at hc)|omega|intro _))
   all_goals trace_state
theorem z83 (B:Int):∀ (l:List Rule) (a:Int),l.foldl lonF a≤B↔a≤B∧∀ r∈l,(r.out.length:Int)≤B
 | [],a=>by simp
 | r::l,a=>by
   rw[List.foldl_cons,z83 B l];rw[show lonF a r≤B↔a≤B∧(r.out.length:Int)≤B by simp only[lonF];omega,and_assoc];simp only[List.mem_cons,forall_eq_or_imp]
theorem z84 (B:Int):∀ (l:List Cw) (a:Int),l.foldl lonG a≤B↔a≤B∧∀ r∈l,(r.out.length:Int)≤B
 | [],a=>by simp
 | r::l,a=>by
   rw[List.foldl_cons,z84 B l];rw[show lonG a r≤B↔a≤B∧(r.out.length:Int)≤B by simp only[lonG];omega,and_assoc];simp only[List.mem_cons,forall_eq_or_imp]
def Few (R:List Rule) (F:List Cw):Prop:=(∀ r∈R,(r.out.length:Int)≤64)∧∀ r∈F,(r.out.length:Int)≤64
theorem zkp (d:Desc):S7 d≤64↔Few d.rules d.finals:=by
 rw[S7,z84,z83,Few];constructor
 · exact fun h=>⟨h.1.2,h.2⟩
 · exact fun h=>⟨⟨by omega,h.1⟩,h.2⟩
theorem zqg:Few [] []:=⟨fun r h=>(by cases h),fun r h=>(by cases h)⟩
theorem few_R {R:List Rule} {F:List Cw} {r:Rule} {x:Int} (h:x≤64↔Few R F):Max.max x (r.out.length:Int)≤64↔Few (R++[r]) F:=by
 have:Max.max x (r.out.length:Int)≤64↔x≤64∧(r.out.length:Int)≤64:=by omega
 rw[this,h,Few,Few];constructor
 · rintro⟨⟨h1,h2⟩,h3⟩
   exact⟨fun q hq=>by rcases List.mem_append.1 hq with hq|hq;exact h1 q hq;rw[List.mem_singleton.1 hq];exact h3,h2⟩
 · rintro⟨h1,h2⟩
   exact⟨⟨fun q hq=>h1 q (by simp[hq]),h2⟩,h1 r (by simp)⟩
theorem few_F {R:List Rule} {F:List Cw} {r:Cw} {x:Int} (h:x≤64↔Few R F):Max.max x (r.out.length:Int)≤64↔Few R (F++[r]):=by
 have:Max.max x (r.out.length:Int)≤64↔x≤64∧(r.out.length:Int)≤64:=by omega
 rw[this,h,Few,Few];constructor
 · rintro⟨⟨h1,h2⟩,h3⟩
   exact⟨h1,fun q hq=>by rcases List.mem_append.1 hq with hq|hq;exact h2 q hq;rw[List.mem_singleton.1 hq];exact h3⟩
 · rintro⟨h1,h2⟩
   exact⟨⟨h1,fun q hq=>h2 q (by simp[hq])⟩,h2 r (by simp)⟩
def z85 (x:Int) (R:List Rule) (F:List Cw):Prop:=(0≤x∧x≤100000)∧Hold (x≤64↔Few R F)
theorem zkq {l:List Rule} {k:Nat} (hk:k<l.length) (e:Nat):ruF (l.take (k+1)) e=if ((nth l k).from_=(e:Int)∧¬((nth l k).guards.length:Int)=0) then ruF (l.take k) e++[nth l k] else ruF (l.take k) e:=by
 rw[take_at hk];simp only[ruF,List.filter_append,List.filter_cons,List.filter_nil,Cf];by_cases h1:(nth l k).from_=(e:Int)<;>by_cases h2:(nth l k).guards=[]<;>simp[h1,h2]
theorem zkr {l:List Cw} {k:Nat} (hk:k<l.length) (e:Nat):fiF (l.take (k+1)) e=if (nth l k).from_=(e:Int) then fiF (l.take k) e++[nth l k] else fiF (l.take k) e:=by
 rw[take_at hk];simp only[fiF,List.filter_append,List.filter_cons,List.filter_nil];by_cases h1:(nth l k).from_=(e:Int)<;>simp[h1]
theorem zks {PS:List (List Nat)} {j:Nat} (h:j<PS.length):(PS.map Ei).getD j .any=Ei (nth PS j):=by simp[nth,List.getD,h]
noncomputable def z1d (d:Desc) (n:Nat):AV:=if cumW d.rules n n≤4096∧(Eh d n).rules.length≤4096∧(Eh d n).finals.length≤4096 then Bp (Eh d n) else Im
theorem zqh (d:Desc) (h:Dl d=0) {n:Nat} (hdn:d.states=n) (hcyc:¬cycP d.rules n):PC Tryz.prog 22 [Bp d] (if E9 d n=true then .tup [Bp (Eh d n),.bool true] else .tup [z1d d n,.bool false]):=by
 have hw:=zar h;obtain⟨_,hrules,hfinals⟩:=F4 h;have hnn:1≤n∧n≤1024:=by obtain⟨m,h1,h2,h3⟩:=hw.n;omega
 have hrl:=hw.rl;have hfl:=hw.fl;have hl:∀ r∈d.rules,(0≤r.from_∧r.from_<n)∧0≤r.to_∧r.to_<n:=fun r hr=>by have:=hw.r r hr;rw[hdn] at this;exact this
 have hlf:∀ r∈d.finals,0≤r.from_∧r.from_<n:=fun r hr=>by have:=hw.f r hr;rw[hdn] at this;exact this
 have ho:∀ r∈d.rules,r.out.length≤64:=fun r hr=>(Fi (hrules r hr)).1;have pR:=Az d.rules;have pFi:=Av d.finals;have hWs:=zfz d hdn hnn.2 hrl hl hcyc;by_cases hfit:cumW d.rules n n≤4096
 rotate_left
 · have:¬E9 d n=true:=by simp[E9,hfit]
   rw[if_neg hfit] at hWs;rw[if_neg this,z1d,if_neg (fun hh=>hfit hh.1)];refine A9 Nz ?_;unfold Ix;(with_reducible repeat' (first|(simp(disch:=omega)only[push_cast,↓zz,seval,pR,pFi])|refine And.intro ?_ ?_|(first|refine Ab ?_ ?_|refine Aa ?_ ?_)<;>intro hc<;>(try simp only[push_cast] at hc)|refine eK hWs ?_|refine eQ hWs ?_|refine eG hWs ?_|((first|refine cK hWs ?_|refine cQ hWs ?_|refine cG hWs ?_);(simp(disch:=omega)only[push_cast,↓zz,seval,pR,pFi]);(fail_if_success change False))|omega|intro _))
   all_goals (repeat' (first|(simp(disch:=omega)only[push_cast,↓zz,seval,Bq])|omega|(with_reducible refine And.intro ?_ ?_)))
 rw[if_pos hfit] at hWs;obtain⟨W,hW⟩:∃ W,W=fun s:Nat=>wayL d.rules n s []:=⟨_,rfl⟩;have hRn:∀ s j,s<n→(accJ W (frR d) s j).length≤(Eh d n).rules.length:=fun s j hs=>by rw[hW];exact Pq j hs
 have hFn:∀ s j,s<n→(accJ W (frF d) s j).length≤(Eh d n).finals.length:=fun s j hs=>by rw[hW];exact Pq j hs
 have hPl:∀ s:Nat,s<n→(D2 d.rules n s).length≤4096:=fun s hs=>by
   have h1:=Hl d.rules n s;have h2:=Jh d.rules n (show s+1≤n by omega);omega
 have hWl:∀ s:Nat,(W s).length=(D2 d.rules n s).length:=fun s=>by rw[hW];simp only[wayL,List.length_map]
 have hWat:∀ s j:Nat,j<(D2 d.rules n s).length→nth (W s) j=(endP d.rules s (nth (D2 d.rules n s) j),outP d.rules (nth (D2 d.rules n s) j)):=fun s j hj=>by
   rw[hW];simp[wayL,nth,List.getD,hj]
 have hrm:E9 d n=true↔((Eh d n).rules.length≤4096∧(Eh d n).finals.length≤4096)∧Few (Eh d n).rules (Eh d n).finals:=by rw[←zkp];simp[E9,hfit]
 have hfd:Eh d n=⟨d.in_,d.out,d.states,d.start,accL W (frR d) n,accL W (frF d) n⟩:=by rw[Eh,hW]
 refine A9 Nz ?_;unfold Ix;(with_reducible repeat' (first|(simp(disch:=omega)only[push_cast,↓zz,seval,pR,pFi])|refine And.intro ?_ ?_|(first|refine Ab ?_ ?_|refine Aa ?_ ?_)<;>intro hc<;>(try simp only[push_cast] at hc)|refine eK hWs ?_|refine eQ hWs ?_|refine eG hWs ?_|((first|refine cK hWs ?_|refine cQ hWs ?_|refine cG hWs ?_);(simp(disch:=omega)only[push_cast,↓zz,seval,pR,pFi]);(fail_if_success change False))|omega|intro _))
 refine An (Ap (fun (q:Nat × Int)=>q.1≤n∧(accL W (frR d) q.1).length≤4096∧(accL W (frF d) q.1).length≤4096∧z85 q.2 (accL W (frR d) q.1) (accL W (frF d) q.1)) (fun q=>n-q.1)
   (fun q=>[(1,.cptr (Bp d)),(2,.ptr 0 1 0 0),(6,.ptr 1 1 0 0),(7,.int .i64 q.2),(8,.int .i64 q.1)])
   (fun q=>[⟨6,1,true,[Im]⟩,⟨6,1,true,[.agg [.int .i64 d.in_,.int .i64 d.out,.int .i64 d.states,.int .i64 d.start,.ref 2 1 0 (accL W (frR d) q.1).length,.ref 3 1 0 (accL W (frF d) q.1).length]]⟩,⟨5,1,false,(accL W (frR d) q.1).map B6⟩,⟨3,1,false,(accL W (frF d) q.1).map Bl⟩])
   (fun env H=>[A5 6 (env 2),A5 6 (env 6),A5 5 (cellAt H (env 6) 4),A5 3 (cellAt H (env 6) 5)]) (0,0) ⟨by simp,by simp[Ho],by simp[Ho],⟨by simp,⟨by rw[Ho,Ho];simp[zqg]⟩⟩⟩ ?_ ?_)
 · have e0:accL W (frR d) 0=[]:=rfl
   have e1:accL W (frF d) 0=[]:=rfl;(with_reducible repeat' (first|(simp(disch:=omega)only[push_cast,↓zz,seval,pR,pFi,e0,e1])|refine And.intro ?_ ?_|(first|refine Ab ?_ ?_|refine Aa ?_ ?_)<;>intro hc<;>(try simp only[push_cast] at hc)|omega|intro _))
 rintro⟨s,x⟩ ⟨hs,hsR,hsF,hx,hxF⟩;simp only at hs hsR hsF hx hxF;have pAR:=Az (accL W (frR d) s);have pAF:=Av (accL W (frF d) s);rcases Nat.lt_or_ge s n with hsn|hsn
 · have hwy:=zfy d hnn.2 hrl hl hcyc s 4096 (Nat.le_refl _)
   rw[List.take_of_length_le (by have:=hPl s hsn;omega)] at hwy;have hWls:=hWl s;have hWas:=hWat s;have hpl:=hPl s hsn
   have hPp:∀ p∈D2 d.rules n s,p.length≤n+1∧(∀ i∈p,i<d.rules.length)∧okP d.rules s p:=fun p hp=>by
     obtain⟨h1,h2⟩:=Xl hl hcyc (show (0:Int)≤s by omega) hp;exact⟨h1,fun i hi=>(z3z h2 i hi).1,h2⟩
   generalize D2 d.rules n s=PS at *;have pPS:Aw (PS.map Ei)=true:=Ef (e:=Ei) (fun p=>Dh p) _;refine W_T ?_;(with_reducible repeat' (first|(simp(disch:=omega)only[push_cast,↓zz,seval,pR,pFi,hdn,pPS])|refine And.intro ?_ ?_|(first|refine Ab ?_ ?_|refine Aa ?_ ?_)<;>intro hc<;>(try simp only[push_cast] at hc)|refine eK hwy ?_|refine eQ hwy ?_|refine eG hwy ?_|((first|refine cK hwy ?_|refine cQ hwy ?_|refine cG hwy ?_);(simp(disch:=omega)only[push_cast,↓zz,seval,pR,pFi,hdn,pPS]);(fail_if_success change False))|omega|intro _))
   refine An (Ap (fun (q:Nat × Int)=>q.1≤PS.length∧(accJ W (frR d) s q.1).length≤4096∧(accJ W (frF d) s q.1).length≤4096∧z85 q.2 (accJ W (frR d) s q.1) (accJ W (frF d) s q.1)) (fun q=>PS.length-q.1)
     (fun q=>[(1,.cptr (Bp d)),(2,.ptr 0 1 0 0),(6,.ptr 1 1 0 0),(7,.int .i64 q.2),(8,.int .i64 s),(9,.lst 1 (PS.map Ei)),(10,.int .i64 q.1)])
     (fun q=>[⟨6,1,true,[Im]⟩,⟨6,1,true,[.agg [.int .i64 d.in_,.int .i64 d.out,.int .i64 d.states,.int .i64 d.start,.ref 2 1 0 (accJ W (frR d) s q.1).length,.ref 3 1 0 (accJ W (frF d) s q.1).length]]⟩,⟨5,1,false,(accJ W (frR d) s q.1).map B6⟩,⟨3,1,false,(accJ W (frF d) s q.1).map Bl⟩])
     (fun env H=>[A5 6 (env 2),A5 6 (env 6),A5 5 (cellAt H (env 6) 4),A5 3 (cellAt H (env 6) 5)]) (0,x) ⟨by simp,by rw[Ea];exact hsR,by rw[Ea];exact hsF,by simp only;rw[Ea,Ea];exact⟨hx,hxF⟩⟩ ?_ ?_)
   · have e0:=Ea (W:=W) (g:=frR d) s
     have e1:=Ea (W:=W) (g:=frF d) s;(with_reducible repeat' (first|(simp(disch:=omega)only[push_cast,↓zz,seval,pR,pFi,e0,e1,pAR,pAF,pPS,hdn])|refine And.intro ?_ ?_|(first|refine Ab ?_ ?_|refine Aa ?_ ?_)<;>intro hc<;>(try simp only[push_cast] at hc)|omega|intro _))
   clear hx hxF;rintro⟨j,x⟩ ⟨hj,hjR,hjF,hx,hxF⟩;simp only at hj hjR hjF hx hxF;have pJR:=Az (accJ W (frR d) s j);have pJF:=Av (accJ W (frF d) s j);rcases Nat.lt_or_ge j PS.length with hjl|hjl
   · have hsR:=My (W:=W) (g:=frR d) (s:=s) (j:=j) (by rw[hWls];exact hjl)
     have hsF:=My (W:=W) (g:=frF d) (s:=s) (j:=j) (by rw[hWls];exact hjl);have hsRn:=hRn s (j+1) hsn;have hsFn:=hFn s (j+1) hsn;obtain⟨hp1,hp2,hp3⟩:=hPp _ (Ao hjl);have hWj:=hWas j hjl;rw[hWj] at hsR hsF;have aJ:(PS.map Ei).getD j .any=Ei (nth PS j):=zks hjl;generalize hpe:nth PS j=p at *;have pp:=Dh p;have hE:=zlz d s p (by omega) hp2;have hWr:∀ r∈d.rules,PC Tryz.prog 58 [Bp d,Ei p,Be r.out] (Be (outP d.rules p++r.out)):=fun r hr=>z1c d p r.out (by omega) hp2 ho (Fi (hrules r hr)).1;have hWf:∀ r∈d.finals,PC Tryz.prog 58 [Bp d,Ei p,Be r.out] (Be (outP d.rules p++r.out)):=fun r hr=>z1c d p r.out (by omega) hp2 ho (Mz (hfinals r hr)).1;have hep:=Xm hl (s:=s) (by omega) hp3;have hopl:=Xv ho hp3;generalize outP d.rules p=w2 at *;obtain⟨e,he⟩:∃ e:Nat,endP d.rules s p=e:=⟨(endP d.rules s p).toNat,by omega⟩;rw[he] at hE hsR hsF hep;rw[z7q,Int.toNat_natCast] at hsR;rw[zfg,Int.toNat_natCast] at hsF;have hRs:=fun k (hk:k<d.rules.length)=>zkq hk e;have hFs:=fun k (hk:k<d.finals.length)=>zkr hk e;have hRb:=fun k=>z49 d.rules k e;have hFb:=fun k=>z4a d.finals k e;obtain⟨SR,hSR⟩:∃ SR:Nat→List Rule,SR=fun k=>accJ W (frR d) s j++(ruF (d.rules.take k) e).map (Ib s ((e:Int),w2)):=⟨_,rfl⟩;have sR0:SR 0=accJ W (frR d) s j:=by rw[hSR];simp[ruF]
     have sRs:∀ k,k<d.rules.length→SR (k+1)=if ((nth d.rules k).from_=(e:Int)∧¬((nth d.rules k).guards.length:Int)=0) then SR k++[Ib s ((e:Int),w2) (nth d.rules k)] else SR k:=fun k hk=>by
       rw[hSR];simp only;rw[hRs k hk];split<;>simp
     have sRl:∀ k,k≤d.rules.length→(SR k).length≤(accJ W (frR d) s j).length+k:=fun k hk=>by rw[hSR];have:=hRb k;simp;omega
     have sRe:SR d.rules.length=accJ W (frR d) s (j+1):=by rw[hSR];simp only;rw[List.take_length,←hsR]
     obtain⟨SF,hSF⟩:∃ SF:Nat→List Cw,SF=fun k=>accJ W (frF d) s j++(fiF (d.finals.take k) e).map (Jm s ((e:Int),w2)):=⟨_,rfl⟩;have sF0:SF 0=accJ W (frF d) s j:=by rw[hSF];simp[fiF]
     have sFs:∀ k,k<d.finals.length→SF (k+1)=if (nth d.finals k).from_=(e:Int) then SF k++[Jm s ((e:Int),w2) (nth d.finals k)] else SF k:=fun k hk=>by
       rw[hSF];simp only;rw[hFs k hk];split<;>simp
     have sFl:∀ k,k≤d.finals.length→(SF k).length≤(accJ W (frF d) s j).length+k:=fun k hk=>by rw[hSF];have:=hFb k;simp;omega
     have sFe:SF d.finals.length=accJ W (frF d) s (j+1):=by rw[hSF];simp only;rw[List.take_length,←hsF]
     clear hSR hSF hRs hFs hRb hFb;generalize hAR:accJ W (frR d) s j=AR at *;generalize hAF:accJ W (frF d) s j=AF at *;refine W_T ?_;(with_reducible repeat' (first|(simp(disch:=omega)only[push_cast,↓zz,seval,pR,pFi,pPS,aJ,hpe,pp])|refine And.intro ?_ ?_|(first|refine Ab ?_ ?_|refine Aa ?_ ?_)<;>intro hc<;>(try simp only[push_cast] at hc)|refine eK hE ?_|refine eQ hE ?_|refine eG hE ?_|((first|refine cK hE ?_|refine cQ hE ?_|refine cG hE ?_);(simp(disch:=omega)only[push_cast,↓zz,seval,pR,pFi,pPS,aJ,hpe,pp]);(fail_if_success change False))|omega|intro _))
     refine An (Ap (fun (q:Nat × Int)=>q.1≤d.rules.length∧z85 q.2 (SR q.1) AF) (fun q=>d.rules.length-q.1)
       (fun q=>[(1,.cptr (Bp d)),(2,.ptr 0 1 0 0),(6,.ptr 1 1 0 0),(7,.int .i64 q.2),(8,.int .i64 s),(9,.lst 1 (PS.map Ei)),(10,.int .i64 j),(11,.int .i64 e),(12,.int .i64 q.1)])
       (fun q=>[⟨6,1,true,[Im]⟩,⟨6,1,true,[.agg [.int .i64 d.in_,.int .i64 d.out,.int .i64 d.states,.int .i64 d.start,.ref 2 1 0 (SR q.1).length,.ref 3 1 0 AF.length]]⟩,⟨5,1,false,(SR q.1).map B6⟩,⟨3,1,false,AF.map Bl⟩])
       (fun env H=>[A5 6 (env 2),A5 6 (env 6),A5 5 (cellAt H (env 6) 4),A5 3 (cellAt H (env 6) 5)]) (0,x) ⟨by simp,by simp only;rw[sR0];exact⟨hx,hxF⟩⟩ ?_ ?_)
     · (with_reducible repeat' (first|(simp(disch:=omega)only[push_cast,↓zz,seval,pR,pFi,pPS,pJR,pJF,sR0])|refine And.intro ?_ ?_|(first|refine Ab ?_ ?_|refine Aa ?_ ?_)<;>intro hc<;>(try simp only[push_cast] at hc)|omega|intro _))
     clear hx hxF;rintro⟨k,x⟩ ⟨hk,hx,hxF⟩;simp only at hk hx hxF;have hlk:=sRl k hk;have pK:=Az (SR k);rcases Nat.lt_or_ge k d.rules.length with hkl|hkl
     · have hr:=hrules _ (Ao hkl)
       have hWk:=hWr _ (Ao hkl);have e1':=sRs k hkl;have pK1:=Az (SR (k+1));generalize hre:nth d.rules k=r at *;obtain⟨o1,o2,o3,o4⟩:=Fi hr;have hgr:=Ad r.guards;have hot:=Am r.out;have pTO:=Am (w2++r.out);have lTO:(w2++r.out).length=w2.length+r.out.length:=List.length_append;by_cases hyes:r.from_=(e:Int)∧¬(r.guards.length:Int)=0
       · rw[if_pos hyes] at e1'
         obtain⟨y1,y2⟩:=hyes;have eM:(SR (k+1)).map B6=(SR k).map B6++[.agg [.int .i64 s,.int .i64 r.to_,Ak r.guards,.int .i64 r.eat,Be (w2++r.out)]]:=by rw[e1',List.map_append];rfl
         have eN:(SR (k+1)).length=(SR k).length+1:=by rw[e1',List.length_append];rfl
         have hfew:Hold (Max.max x ((w2++r.out).length:Int)≤64↔Few (SR (k+1)) AF):=⟨by rw[e1'];exact few_R (r:=Ib s ((e:Int),w2) r) hxF.get⟩;clear e1' hxF;generalize w2++r.out=TL at *;have y3:(0:Int)<r.guards.length:=by omega
         refine W_T ?_;(with_reducible repeat' (first|(simp(disch:=omega)only[push_cast,↓zz,seval,pR,pFi,pPS,hpe,pp,hre,hgr,hot,y1,y2,y3,pK,pJF,pTO])|refine And.intro ?_ ?_|(first|refine Ab ?_ ?_|refine Aa ?_ ?_)<;>intro hc<;>(try simp only[push_cast] at hc)|refine eK hWk ?_|refine eQ hWk ?_|refine eG hWk ?_|((first|refine cK hWk ?_|refine cQ hWk ?_|refine cG hWk ?_);(simp(disch:=omega)only[push_cast,↓zz,seval,pR,pFi,pPS,hpe,pp,hre,hgr,hot,y1,y2,y3,pK,pJF,pTO]);(fail_if_success change False))|omega|intro _))
         all_goals
           refine⟨(k+1,Max.max x (TL.length:Int)),?_⟩;(with_reducible repeat' (first|(simp(disch:=omega)only[push_cast,↓zz,seval,pR,pFi,pPS,eM,eN,pK,pJF,hgr,pTO])|refine And.intro ?_ ?_|(first|refine Ab ?_ ?_|refine Aa ?_ ?_)<;>intro hc<;>(try simp only[push_cast] at hc)|omega|intro _))
         all_goals first|exact⟨by omega,⟨by omega,hfew⟩⟩|exact⟨by omega,hfew⟩|exact hfew|trace_state
       · rw[if_neg hyes] at e1'
         have hno:Hold (¬(r.from_=(e:Int)∧¬(r.guards.length:Int)=0)):=⟨hyes⟩;clear hyes;refine W_T ?_;by_cases y1:r.from_=(e:Int)
         · have y2:(r.guards.length:Int)=0:=Classical.byContradiction fun h=>hno.get ⟨y1,h⟩
           (with_reducible repeat' (first|(simp(disch:=omega)only[push_cast,↓zz,seval,pR,pFi,pPS,hre,hgr,hot,y1,y2,pK,pJF])|refine And.intro ?_ ?_|(first|refine Ab ?_ ?_|refine Aa ?_ ?_)<;>intro hc<;>(try simp only[push_cast] at hc)|omega|intro _))
           all_goals
             refine⟨(k+1,x),?_⟩;(with_reducible repeat' (first|(simp(disch:=omega)only[push_cast,↓zz,seval,pR,pFi,pPS,e1',pK,pJF])|refine And.intro ?_ ?_|(first|refine Ab ?_ ?_|refine Aa ?_ ?_)<;>intro hc<;>(try simp only[push_cast] at hc)|omega|intro _))
           all_goals first|exact⟨hx,hxF⟩|trace_state
         · (with_reducible repeat' (first|(simp(disch:=omega)only[push_cast,↓zz,seval,pR,pFi,pPS,hre,hgr,hot,y1,pK,pJF])|refine And.intro ?_ ?_|(first|refine Ab ?_ ?_|refine Aa ?_ ?_)<;>intro hc<;>(try simp only[push_cast] at hc)|omega|intro _))
           all_goals
             refine⟨(k+1,x),?_⟩;(with_reducible repeat' (first|(simp(disch:=omega)only[push_cast,↓zz,seval,pR,pFi,pPS,e1',pK,pJF])|refine And.intro ?_ ?_|(first|refine Ab ?_ ?_|refine Aa ?_ ?_)<;>intro hc<;>(try simp only[push_cast] at hc)|omega|intro _))
           all_goals first|exact⟨hx,hxF⟩|trace_state
     · obtain rfl:k=d.rules.length:=by omega
       rw[sRe] at hlk pK hxF ⊢;refine W_T ?_;(with_reducible repeat' (first|(simp(disch:=omega)only[push_cast,↓zz,seval,pR,pFi,pPS,pK,pJF])|refine And.intro ?_ ?_|(first|refine Ab ?_ ?_|refine Aa ?_ ?_)<;>intro hc<;>(try simp only[push_cast] at hc)|omega|intro _));generalize hAR1:accJ W (frR d) s (j+1)=AR1 at *
       refine An (Ap (fun (q:Nat × Int)=>q.1≤d.finals.length∧z85 q.2 AR1 (SF q.1)) (fun q=>d.finals.length-q.1)
         (fun q=>[(1,.cptr (Bp d)),(2,.ptr 0 1 0 0),(6,.ptr 1 1 0 0),(7,.int .i64 q.2),(8,.int .i64 s),(9,.lst 1 (PS.map Ei)),(10,.int .i64 j),(11,.int .i64 e),(15,.int .i64 q.1)])
         (fun q=>[⟨6,1,true,[Im]⟩,⟨6,1,true,[.agg [.int .i64 d.in_,.int .i64 d.out,.int .i64 d.states,.int .i64 d.start,.ref 2 1 0 AR1.length,.ref 3 1 0 (SF q.1).length]]⟩,⟨5,1,false,AR1.map B6⟩,⟨3,1,false,(SF q.1).map Bl⟩])
         (fun env H=>[A5 6 (env 2),A5 6 (env 6),A5 5 (cellAt H (env 6) 4),A5 3 (cellAt H (env 6) 5)]) (0,x) ⟨by simp,by simp only;rw[sF0];exact⟨hx,hxF⟩⟩ ?_ ?_)
       · (with_reducible repeat' (first|(simp(disch:=omega)only[push_cast,↓zz,seval,pR,pFi,pPS,pK,pJF,sF0])|refine And.intro ?_ ?_|(first|refine Ab ?_ ?_|refine Aa ?_ ?_)<;>intro hc<;>(try simp only[push_cast] at hc)|omega|intro _))
       clear hx hxF;rintro⟨k,x⟩ ⟨hk,hx,hxF⟩;simp only at hk hx hxF;have hlkF:=sFl k hk;have pKF:=Av (SF k);rcases Nat.lt_or_ge k d.finals.length with hkl|hkl
       · have hr:=hfinals _ (Ao hkl)
         have hWk:=hWf _ (Ao hkl);have e1':=sFs k hkl;have pK1:=Av (SF (k+1));generalize hre:nth d.finals k=r at *;obtain⟨o1,o2,o3,o4⟩:=Mz hr;have hgr:=Ad r.guards;have hot:=Am r.out;have pTO:=Am (w2++r.out);have lTO:(w2++r.out).length=w2.length+r.out.length:=List.length_append;by_cases y1:r.from_=(e:Int)
         · rw[if_pos y1] at e1'
           have eM:(SF (k+1)).map Bl=(SF k).map Bl++[.agg [.int .i64 s,Ak r.guards,Be (w2++r.out)]]:=by rw[e1',List.map_append];rfl
           have eN:(SF (k+1)).length=(SF k).length+1:=by rw[e1',List.length_append];rfl
           have hfew:Hold (Max.max x ((w2++r.out).length:Int)≤64↔Few AR1 (SF (k+1))):=⟨by rw[e1'];exact few_F (r:=Jm s ((e:Int),w2) r) hxF.get⟩;clear e1' hxF;generalize w2++r.out=TL at *;refine W_T ?_;(with_reducible repeat' (first|(simp(disch:=omega)only[push_cast,↓zz,seval,pR,pFi,pPS,hpe,pp,hre,hgr,hot,y1,pK,pKF,pTO])|refine And.intro ?_ ?_|(first|refine Ab ?_ ?_|refine Aa ?_ ?_)<;>intro hc<;>(try simp only[push_cast] at hc)|refine eK hWk ?_|refine eQ hWk ?_|refine eG hWk ?_|((first|refine cK hWk ?_|refine cQ hWk ?_|refine cG hWk ?_);(simp(disch:=omega)only[push_cast,↓zz,seval,pR,pFi,pPS,hpe,pp,hre,hgr,hot,y1,pK,pKF,pTO]);(fail_if_success change False))|omega|intro _))
           all_goals
             refine⟨(k+1,Max.max x (TL.length:Int)),?_⟩;(with_reducible repeat' (first|(simp(disch:=omega)only[push_cast,↓zz,seval,pR,pFi,pPS,eM,eN,pK,pKF,hgr,pTO])|refine And.intro ?_ ?_|(first|refine Ab ?_ ?_|refine Aa ?_ ?_)<;>intro hc<;>(try simp only[push_cast] at hc)|omega|intro _))
           all_goals first|exact⟨by omega,⟨by omega,hfew⟩⟩|exact⟨by omega,hfew⟩|exact hfew|trace_state
         · rw[if_neg y1] at e1'
           refine W_T ?_;(with_reducible repeat' (first|(simp(disch:=omega)only[push_cast,↓zz,seval,pR,pFi,pPS,hre,hgr,hot,y1,pK,pKF])|refine And.intro ?_ ?_|(first|refine Ab ?_ ?_|refine Aa ?_ ?_)<;>intro hc<;>(try simp only[push_cast] at hc)|omega|intro _))
           all_goals
             refine⟨(k+1,x),?_⟩;(with_reducible repeat' (first|(simp(disch:=omega)only[push_cast,↓zz,seval,pR,pFi,pPS,e1',pK,pKF])|refine And.intro ?_ ?_|(first|refine Ab ?_ ?_|refine Aa ?_ ?_)<;>intro hc<;>(try simp only[push_cast] at hc)|omega|intro _))
           all_goals first|exact⟨hx,hxF⟩|trace_state
       · obtain rfl:k=d.finals.length:=by omega
         rw[sFe] at hlkF pKF hxF ⊢;refine W_T ?_;by_cases hbig:AR1.length≤4096∧(accJ W (frF d) s (j+1)).length≤4096
         · generalize hAF1:accJ W (frF d) s (j+1)=AF1 at *
           (with_reducible repeat' (first|(simp(disch:=omega)only[push_cast,↓zz,seval,pR,pFi,pPS,pK,pKF])|refine And.intro ?_ ?_|(first|refine Ab ?_ ?_|refine Aa ?_ ?_)<;>intro hc<;>(try simp only[push_cast] at hc)|omega|intro _))
           all_goals
             refine⟨(j+1,x),?_⟩;(with_reducible repeat' (first|(simp(disch:=omega)only[push_cast,↓zz,seval,pR,pFi,pPS,pK,pKF,hAR1,hAF1])|refine And.intro ?_ ?_|(first|refine Ab ?_ ?_|refine Aa ?_ ?_)<;>intro hc<;>(try simp only[push_cast] at hc)|omega|intro _))
           all_goals first|exact⟨by omega,by omega,⟨hx,hxF⟩⟩|exact⟨hx,hxF⟩|trace_state
         · have:¬E9 d n=true:=fun hh=>by have:=(hrm.1 hh).1;omega
           rw[if_neg this,z1d,if_neg (fun hh=>by have:=hh.2;omega)];generalize hAF1:accJ W (frF d) s (j+1)=AF1 at *;(with_reducible repeat' (first|(simp(disch:=omega)only[push_cast,↓zz,seval,pR,pFi,pPS,pK,pKF])|refine And.intro ?_ ?_|(first|refine Ab ?_ ?_|refine Aa ?_ ?_)<;>intro hc<;>(try simp only[push_cast] at hc)|omega|intro _))
           all_goals (repeat' (first|(simp(disch:=omega)only[push_cast,↓zz,seval,Bq])|omega|(with_reducible refine And.intro ?_ ?_)))
   · obtain rfl:j=PS.length:=by omega
     have sR1:=Jl (W:=W) (g:=frR d) s;have sF1:=Jl (W:=W) (g:=frF d) s;rw[hWls] at sR1 sF1;rw[←sR1] at hjR pJR hxF ⊢;rw[←sF1] at hjF pJF hxF ⊢;refine W_T ?_;(with_reducible repeat' (first|(simp(disch:=omega)only[push_cast,↓zz,seval,pR,pFi,pPS,pJR,pJF])|refine And.intro ?_ ?_|(first|refine Ab ?_ ?_|refine Aa ?_ ?_)<;>intro hc<;>(try simp only[push_cast] at hc)|omega|intro _))
     all_goals
       refine⟨(s+1,x),?_⟩;(with_reducible repeat' (first|(simp(disch:=omega)only[push_cast,↓zz,seval,pR,pFi,pPS,pJR,pJF])|refine And.intro ?_ ?_|(first|refine Ab ?_ ?_|refine Aa ?_ ?_)<;>intro hc<;>(try simp only[push_cast] at hc)|omega|intro _))
     all_goals first|exact⟨by omega,by omega,⟨hx,hxF⟩⟩|exact⟨hx,hxF⟩|trace_state
 · obtain rfl:s=n:=by omega
   have hrv:z1d d s=Bp (Eh d s):=by rw[z1d,if_pos ⟨hfit,by rw[hfd];exact⟨hsR,hsF⟩⟩]
   rw[hrv];rw[hfd] at hrm ⊢;simp only at hrm;by_cases hok:E9 d s=true
   · rw[if_pos hok]
     have h64:x≤64:=hxF.get.2 (hrm.1 hok).2;have hd:decide (x≤64)=true:=decide_eq_true h64;refine W_T ?_;(with_reducible repeat' (first|(simp(disch:=omega)only[push_cast,↓zz,seval,pR,pFi,hdn,pAR,pAF])|refine And.intro ?_ ?_|(first|refine Ab ?_ ?_|refine Aa ?_ ?_)<;>intro hc<;>(try simp only[push_cast] at hc)|omega|intro _))
     all_goals (rw[hd];(repeat' (first|(simp(disch:=omega)only[push_cast,↓zz,seval,Bq,hdn])|omega|(with_reducible refine And.intro ?_ ?_))))
   · rw[if_neg hok]
     have h64:¬x≤64:=fun hh=>hok (hrm.2 ⟨⟨hsR,hsF⟩,hxF.get.1 hh⟩);refine W_T ?_;have hd:decide (x≤64)=false:=decide_eq_false h64;(with_reducible repeat' (first|(simp(disch:=omega)only[push_cast,↓zz,seval,pR,pFi,hdn,pAR,pAF])|refine And.intro ?_ ?_|(first|refine Ab ?_ ?_|refine Aa ?_ ?_)<;>intro hc<;>(try simp only[push_cast] at hc)|omega|intro _))
     all_goals (rw[hd];(repeat' (first|(simp(disch:=omega)only[push_cast,↓zz,seval,Bq,hdn])|omega|(with_reducible refine And.intro ?_ ?_))))
theorem zg0 {s x:Int} (h:memL (domL s) x):Cy s [[⟨x,x⟩]]=true:=by
 have hb:=(zk6 s).2 x h
 have hm:Eq [⟨x,x⟩] (domL s)=[]:=(Hk (fun v hv=>by obtain⟨t,ht,h1,h2⟩:=hv;simp only[List.mem_singleton] at ht;subst ht;simp only at h1 h2;omega) (fun t ht=>by simp only[List.mem_singleton] at ht;subst ht;simp)).2 fun v hv=>by
   obtain⟨t,ht,h1,h2⟩:=hv;simp only[List.mem_singleton] at ht;subst ht;simp only at h1 h2;have:v=x:=by omega
   rw[this];exact h
 have hc:Ky (-1073741826) [⟨x,x⟩]=true:=by simp[Ky];omega
 simp[Cy,Jd,hm,Rw,hc]
theorem Hq {α:Type} [DecidableEq α] [Inhabited α] {l m:List α} {k:Nat} (h1:k<l.length) (h2:k<m.length):decide (l.drop k=m.drop k)=(decide (nth l k=nth m k)&&decide (l.drop (k+1)=m.drop (k+1))):=by
 rw[drop_at h1,drop_at h2];simp
theorem K1 (a b:List (List Span)) (hl:a.length≤1000000000000) (ha:∀ l∈a,l.length≤1000000000000):PC Tryz.prog 55 [Ak a,Ak b] (.bool (decide (a=b))):=by
 refine A9 O6 ?_;unfold Ik;(with_reducible repeat' (first|(simp(disch:=omega)only[push_cast,↓zz,seval])|refine And.intro ?_ ?_|(first|refine Ab ?_ ?_|refine Aa ?_ ?_)<;>intro hc<;>(try simp only[push_cast] at hc)|omega|intro _))
 · have:a≠b:=by intro h;subst h;first|omega|simp_all
   simp[this]
 refine An (Ap (fun (k:Nat)=>k≤a.length∧decide (a=b)=decide (a.drop k=b.drop k)) (fun k=>a.length-k)
   (fun k=>[(0,Ak a),(1,Ak b),(5,.int .i64 k)]) (fun _=>[]) (fun _ _=>[]) 0 (by simp) ?_ ?_)
 · (with_reducible repeat' (first|(simp(disch:=omega)only[push_cast,↓zz,seval])|refine And.intro ?_ ?_|(first|refine Ab ?_ ?_|refine Aa ?_ ?_)<;>intro hc<;>(try simp only[push_cast] at hc)|omega|intro _))
 rintro k ⟨hk,hr⟩;refine W_T ?_;(with_reducible repeat' (first|(simp(disch:=omega)only[push_cast,↓zz,seval])|refine And.intro ?_ ?_|(first|refine Ab ?_ ?_|refine Aa ?_ ?_)<;>intro hc<;>(try simp only[push_cast] at hc)|(have q_:=No (nth a k) (nth b k) (ha _ (Ao (by omega)));(first|refine eK q_ ?_|refine eQ q_ ?_|refine eG q_ ?_);clear q_)|(have q_:=No (nth a k) (nth b k) (ha _ (Ao (by omega)));(first|refine cK q_ ?_|refine cQ q_ ?_|refine cG q_ ?_);clear q_;(simp(disch:=omega)only[push_cast,↓zz,seval]);(fail_if_success change False))|omega|intro _))
 all_goals first
   | (rw[hr,List.drop_of_length_le (by omega),List.drop_of_length_le (by omega)];simp;done)
   | (rw[hr,Hq (by omega) (by omega)];simp_all;done)
   | (refine⟨k+1,?_⟩
      (with_reducible repeat' (first|(simp(disch:=omega)only[push_cast,↓zz,seval])|refine And.intro ?_ ?_|(first|refine Ab ?_ ?_|refine Aa ?_ ?_)<;>intro hc<;>(try simp only[push_cast] at hc)|omega|intro _))
      rw[hr,Hq (by omega) (by omega)];simp_all;done)
   | trace_state
theorem Jo (a b:List Term) (hl:a.length≤1000000000000) (ha:∀ t∈a,t.parts.length≤1000000000000):PC Tryz.prog 56 [Be a,Be b] (.bool (decide (a=b))):=by
 refine A9 M8 ?_;unfold G8;(with_reducible repeat' (first|(simp(disch:=omega)only[push_cast,↓zz,seval])|refine And.intro ?_ ?_|(first|refine Ab ?_ ?_|refine Aa ?_ ?_)<;>intro hc<;>(try simp only[push_cast] at hc)|omega|intro _))
 · have:a≠b:=by intro h;subst h;first|omega|simp_all
   simp[this]
 refine An (Ap (fun (k:Nat)=>k≤a.length∧decide (a=b)=decide (a.drop k=b.drop k)) (fun k=>a.length-k)
   (fun k=>[(0,Be a),(1,Be b),(5,.int .i64 k)]) (fun _=>[]) (fun _ _=>[]) 0 (by simp) ?_ ?_)
 · (with_reducible repeat' (first|(simp(disch:=omega)only[push_cast,↓zz,seval])|refine And.intro ?_ ?_|(first|refine Ab ?_ ?_|refine Aa ?_ ?_)<;>intro hc<;>(try simp only[push_cast] at hc)|omega|intro _))
 rintro k ⟨hk,hr⟩;refine W_T ?_;(with_reducible repeat' (first|(simp(disch:=omega)only[push_cast,↓zz,seval])|refine And.intro ?_ ?_|(first|refine Ab ?_ ?_|refine Aa ?_ ?_)<;>intro hc<;>(try simp only[push_cast] at hc)|(have q_:=z5r (nth a k) (nth b k) (ha _ (Ao (by omega)));(first|refine eK q_ ?_|refine eQ q_ ?_|refine eG q_ ?_);clear q_)|(have q_:=z5r (nth a k) (nth b k) (ha _ (Ao (by omega)));(first|refine cK q_ ?_|refine cQ q_ ?_|refine cG q_ ?_);clear q_;(simp(disch:=omega)only[push_cast,↓zz,seval]);(fail_if_success change False))|omega|intro _))
 all_goals first
   | (rw[hr,List.drop_of_length_le (by omega),List.drop_of_length_le (by omega)];simp;done)
   | (rw[hr,Hq (by omega) (by omega)];simp_all;done)
   | (refine⟨k+1,?_⟩
      (with_reducible repeat' (first|(simp(disch:=omega)only[push_cast,↓zz,seval])|refine And.intro ?_ ?_|(first|refine Ab ?_ ?_|refine Aa ?_ ?_)<;>intro hc<;>(try simp only[push_cast] at hc)|omega|intro _))
      rw[hr,Hq (by omega) (by omega)];simp_all;done)
   | trace_state
structure zg1 (gs:List (List Span)) (out:List Term):Prop where
 g:gs.length≤1000000000000
 gl:∀ l∈gs,l.length≤1000000000000
 o:out.length≤1000000000000
 ol:∀ t∈out,t.parts.length≤1000000000000
theorem S8 (a b:Rule) (h:zg1 a.guards a.out):PC Tryz.prog 54 [B6 a,B6 b] (.bool (decide (a=b))):=by
 have h1:=K1 a.guards b.guards h.g h.gl;have h2:=Jo a.out b.out h.o h.ol
 have e:decide (a=b)=(decide (a.from_=b.from_)&&(decide (a.to_=b.to_)&&(decide (a.eat=b.eat)&&(decide (a.guards=b.guards)&&decide (a.out=b.out))))):=by
   cases a;cases b;simp only[Rule.mk.injEq];simp only[Bool.decide_and];ac_rfl
 have p1:=Ad a.guards;have p2:=Ad b.guards;have p3:=Am a.out;have p4:=Am b.out;refine A9 O5 ?_;unfold Ii;(with_reducible repeat' (first|(simp(disch:=omega)only[push_cast,↓zz,seval,p1,p2,p3,p4])|refine And.intro ?_ ?_|(first|refine Ab ?_ ?_|refine Aa ?_ ?_)<;>intro hc<;>(try simp only[push_cast] at hc)|refine eK h1 ?_|refine eQ h1 ?_|refine eG h1 ?_|refine eK h2 ?_|refine eQ h2 ?_|refine eG h2 ?_|((first|refine cK h1 ?_|refine cQ h1 ?_|refine cG h1 ?_|refine cK h2 ?_|refine cQ h2 ?_|refine cG h2 ?_);(simp(disch:=omega)only[push_cast,↓zz,seval,p1,p2,p3,p4]);(fail_if_success change False))|omega|intro _))
 all_goals rw[e];simp_all
structure z86 (d:Desc):Prop where
 r:d.rules.length≤1000000000000
 rs:∀ r∈d.rules,zg1 r.guards r.out
 f:d.finals.length≤1000000000000
 fs:∀ f∈d.finals,zg1 f.guards f.out
theorem zb3 {a b:Desc} (h1:a.in_=b.in_) (h2:a.out=b.out) (h3:a.states=b.states) (h4:a.start=b.start):decide (a=b)=(decide (a.rules=b.rules)&&decide (a.finals=b.finals)):=by
 cases a;cases b;simp only at h1 h2 h3 h4;subst h1 h2 h3 h4;simp
theorem zkt (x y:Cw):decide (x=y)=(decide (x.from_=y.from_)&&(decide (x.guards=y.guards)&&decide (x.out=y.out))):=by
 cases x;cases y;simp
theorem Vg (a b:Desc) (h:z86 a):PC Tryz.prog 21 [Bp a,Bp b] (.bool (decide (a=b))):=by
 have pa1:=Az a.rules;have pa2:=Av a.finals;have pb1:=Az b.rules;have pb2:=Av b.finals;have har:=h.r;have haf:=h.f;refine A9 Y3 ?_;unfold Ny;(with_reducible repeat' (first|(simp(disch:=omega)only[push_cast,↓zz,seval,pa1,pa2,pb1,pb2])|refine And.intro ?_ ?_|(first|refine Ab ?_ ?_|refine Aa ?_ ?_)<;>intro hc<;>(try simp only[push_cast] at hc)|omega|intro _))
 all_goals first
   | (have:a≠b:=by intro h;subst h;simp_all
      simp[this];done)
   | skip
 all_goals
   have hab:=zb3 (a:=a) (b:=b) (by assumption) (by assumption) (by assumption) (by assumption);have hrl:a.rules.length=b.rules.length:=by omega
   have hfl:a.finals.length=b.finals.length:=by omega
   rw[hab]
   refine An (Ap (fun (k:Nat)=>k≤a.rules.length∧decide (a.rules=b.rules)=decide (a.rules.drop k=b.rules.drop k)) (fun k=>a.rules.length-k)
     (fun k=>[(2,.ptr 0 1 0 0),(3,.ptr 1 1 0 0),(5,.int .i64 k)]) (fun _=>[⟨6,1,true,[Bp a]⟩,⟨6,1,true,[Bp b]⟩]) (fun env _=>[A5 6 (env 2),A5 6 (env 3)]) 0 (by simp) ?_ ?_)
   · (with_reducible repeat' (first|(simp(disch:=omega)only[push_cast,↓zz,seval,pa1,pa2,pb1,pb2])|refine And.intro ?_ ?_|(first|refine Ab ?_ ?_|refine Aa ?_ ?_)<;>intro hc<;>(try simp only[push_cast] at hc)|omega|intro _))
   rintro k ⟨hk,hr⟩;refine W_T ?_;rcases Nat.lt_or_ge k a.rules.length with hkl|hkl
   · have hS:=S8 (nth a.rules k) (nth b.rules k) (h.rs _ (Ao hkl))
     have hp1:=Az a.rules;rw[Hq hkl (by omega)] at hr;generalize hx:nth a.rules k=x at *;generalize hy:nth b.rules k=y at *;(with_reducible repeat' (first|(simp(disch:=omega)only[push_cast,↓zz,seval,pa1,pa2,pb1,pb2,hx,hy])|refine And.intro ?_ ?_|(first|refine Ab ?_ ?_|refine Aa ?_ ?_)<;>intro hc<;>(try simp only[push_cast] at hc)|refine eK hS ?_|refine eQ hS ?_|refine eG hS ?_|((first|refine cK hS ?_|refine cQ hS ?_|refine cG hS ?_);(simp(disch:=omega)only[push_cast,↓zz,seval,pa1,pa2,pb1,pb2,hx,hy]);(fail_if_success change False))|omega|intro _))
     all_goals first
       | (refine⟨k+1,?_⟩
          (with_reducible repeat' (first|(simp(disch:=omega)only[push_cast,↓zz,seval])|refine And.intro ?_ ?_|(first|refine Ab ?_ ?_|refine Aa ?_ ?_)<;>intro hc<;>(try simp only[push_cast] at hc)|omega|intro _))
          rw[hr];simp_all;done)
       | (simp_all;done)
       | trace_state
   · have hke:k=a.rules.length:=by omega
     subst hke;have hre:decide (a.rules=b.rules)=true:=by rw[hr,List.drop_of_length_le (by omega),List.drop_of_length_le (by omega)];simp
     rw[hre,Bool.true_and];clear hr hre hab;(with_reducible repeat' (first|(simp(disch:=omega)only[push_cast,↓zz,seval,pa1,pa2,pb1,pb2])|refine And.intro ?_ ?_|(first|refine Ab ?_ ?_|refine Aa ?_ ?_)<;>intro hc<;>(try simp only[push_cast] at hc)|omega|intro _))
     refine An (Ap (fun (k:Nat)=>k≤a.finals.length∧decide (a.finals=b.finals)=decide (a.finals.drop k=b.finals.drop k)) (fun k=>a.finals.length-k)
       (fun k=>[(2,.ptr 0 1 0 0),(3,.ptr 1 1 0 0),(6,.int .i64 k)]) (fun _=>[⟨6,1,true,[Bp a]⟩,⟨6,1,true,[Bp b]⟩]) (fun env _=>[A5 6 (env 2),A5 6 (env 3)]) 0 (by simp) ?_ ?_)
     · (with_reducible repeat' (first|(simp(disch:=omega)only[push_cast,↓zz,seval,pa1,pa2,pb1,pb2])|refine And.intro ?_ ?_|(first|refine Ab ?_ ?_|refine Aa ?_ ?_)<;>intro hc<;>(try simp only[push_cast] at hc)|omega|intro _))
     rintro k ⟨hk,hr⟩;refine W_T ?_;rcases Nat.lt_or_ge k a.finals.length with hkl|hkl
     · have hOk:=h.fs _ (Ao hkl)
       rw[Hq hkl (by omega)] at hr;generalize hx:nth a.finals k=x at *;generalize hy:nth b.finals k=y at *;have h1:=K1 x.guards y.guards hOk.g hOk.gl;have h2:=Jo x.out y.out hOk.o hOk.ol;have p1:=Ad x.guards;have p2:=Ad y.guards;have p3:=Am x.out;have p4:=Am y.out;have hxy:=zkt x y;(with_reducible repeat' (first|(simp(disch:=omega)only[push_cast,↓zz,seval,yy,List.mem_cons,List.not_mem_nil,or_false,false_or,not_or,not_false_eq_true,true_or,or_true,pa1,pa2,pb1,pb2,hx,hy,p1,p2,p3,p4])|refine And.intro ?_ ?_|(first|refine Ab ?_ ?_|refine Aa ?_ ?_)<;>intro hc<;>(try simp only[push_cast] at hc)|refine eK h1 ?_|refine eQ h1 ?_|refine eG h1 ?_|refine eK h2 ?_|refine eQ h2 ?_|refine eG h2 ?_|refine zdw [2,3] [3,3] [none,none,none,none,none,none,none,none,none,none,some 2,some 3] (by decide) (by decide) ?_|((first|refine cK h1 ?_|refine cQ h1 ?_|refine cG h1 ?_|refine cK h2 ?_|refine cQ h2 ?_|refine cG h2 ?_);(simp(disch:=omega)only[push_cast,↓zz,seval,yy,List.mem_cons,List.not_mem_nil,or_false,false_or,not_or,not_false_eq_true,true_or,or_true,pa1,pa2,pb1,pb2,hx,hy,p1,p2,p3,p4]);(fail_if_success change False))|omega|intro _))
       all_goals first
         | (refine⟨k+1,?_⟩
            (with_reducible repeat' (first|(simp(disch:=omega)only[push_cast,↓zz,seval])|refine And.intro ?_ ?_|(first|refine Ab ?_ ?_|refine Aa ?_ ?_)<;>intro hc<;>(try simp only[push_cast] at hc)|omega|intro _))
            rw[hr];simp_all;done)
         | (simp_all;done)
         | trace_state
     · rw[hr,List.drop_of_length_le (by omega),List.drop_of_length_le (by omega)]
       (with_reducible repeat' (first|(simp(disch:=omega)only[push_cast,↓zz,seval,pa1,pa2,pb1,pb2])|refine And.intro ?_ ?_|(first|refine Ab ?_ ?_|refine Aa ?_ ?_)<;>intro hc<;>(try simp only[push_cast] at hc)|omega|intro _))
       all_goals simp
       all_goals trace_state
end Go.Proofs.YtbcjoeadpjfcfaaGreat
namespace Go.Proofs.YtbcjoeadpjfcfaaGreat
open Abs
theorem Si {gs:List (List Span)} {out:List Term} (h:Ip gs out≤1500):gs.length≤100:=by
 unfold Ip at h;split at h
 · omega
 · omega
theorem Sj {d:Desc} (h:M1 d=true):Sg d:=by
 refine⟨zfw h,?_,?_⟩
 all_goals
   simp only[M1,Bool.and_eq_true,decide_eq_true_eq] at h;have sR:∀ r,0≤szR r∧szR r≤2000000:=fun r=>Nu _ _;have sF:∀ f,0≤szF f∧szF f≤2000000:=fun r=>Nu _ _;have a1:=(Fu sR d.rules).1;have a2:=(Fu sF d.finals).1
 · intro r hr
   have h1:=Kf (fun r=>(sR r).1) hr;have h2:szR r=Ip r.guards r.out:=rfl;have:=Si (gs:=r.guards) (out:=r.out) (by omega);omega
 · intro f hf
   have h1:=Kf (fun r=>(sF r).1) hf;have h2:szF f=Ip f.guards f.out:=rfl;have:=Si (gs:=f.guards) (out:=f.out) (by omega);omega
abbrev zg2:AV:=.agg [.int .i64 0,.int .i64 0,.int .i64 0,.int .i64 0,.nilS,.nilS]
theorem Sk (c:Desc) (hc:Sg c):PC Tryz.prog 18 [Bp c] (.bool (decide (Dl c=0))):=by
 have hW:=z4i c hc
 have e:decide (Dl c=0)=decide ((D8 c).1=0):=by
   unfold Dl;split
   · simp[*]
   · simp[*]
 rw[e];generalize D8 c=w at *;refine A9 V4 ?_;unfold Lz;(with_reducible repeat' (first|(simp(disch:=omega)only[push_cast,↓zz,seval])|refine And.intro ?_ ?_|(first|refine Ab ?_ ?_|refine Aa ?_ ?_)<;>intro hc<;>(try simp only[push_cast] at hc)|refine eK hW ?_|refine eQ hW ?_|refine eG hW ?_|((first|refine cK hW ?_|refine cQ hW ?_|refine cG hW ?_);(simp(disch:=omega)only[push_cast,↓zz,seval]);(fail_if_success change False))|omega|intro _))
 all_goals trace_state
theorem zg3:PC Tryz.prog 21 [zg2,zg2] (.bool true):=by
 have h:=Vg ⟨0,0,0,0,[],[]⟩ ⟨0,0,0,0,[],[]⟩ ⟨by simp,fun r hr=>(by cases hr),by simp,fun r hr=>(by cases hr)⟩;rw[decide_eq_true rfl] at h;have le:AV.le zg2 (Bp ⟨0,0,0,0,[],[]⟩):=AV.le_agg (Au (AV.le_refl _) (Au (AV.le_refl _) (Au (AV.le_refl _) (Au (AV.le_refl _) (Au (AV.le_nilS (by decide)) (Au (AV.le_nilS (by decide)) Db))))));exact Iw h (Au le (Au le Db))
section
variable {d:Desc}
end
structure Trimmed (c:Desc):Prop where
 check:Dl c=0
 again:trimV c=c
 all:((zua c).length=c.states.toNat∧(goesI c).length=c.states.toNat)∨(c.states=1∧c.rules=[]∧c.finals=[])
theorem z1e {u v:Nat→Bool}:∀ {n:Nat},(∀ i,i<n→u i=v i)→cntB u n=cntB v n
 | 0,_=>rfl
 | n+1,h=>by rw[Mx,Mx,h n (by omega),z1e fun i hi=>h i (by omega)]
theorem z87 {on:Nat→Bool} {s:Nat} (ho:on s=false):∀ {n:Nat},s<n→cntB (setB on s) n=cntB on n+1
 | n+1,h=>by
   rw[Mx,Mx];by_cases hs:s=n
   · subst hs
     rw[if_pos (by simp[setB]),if_neg (by simp[ho]),z1e (u:=setB on s) (v:=on) fun i hi=>by simp[setB];omega]
   · have:=z87 ho (n:=n) (by omega)
     have e:setB on s n=on n:=by simp[setB];omega
     rw[e];split<;>omega
structure RInv (n:Nat) (F:List Int) (E:List (Int × Int)) (on:Nat→Bool):Prop where
 sound:∀ i:Nat,on i=true→Reach E F i
 base:∀ s∈F,on s.toNat=true
theorem RInv.set {n:Nat} {F:List Int} {E:List (Int × Int)} {on:Nat→Bool} (h:RInv n F E on) {x y:Nat} (hx:on x=true) (he:((x:Int),(y:Int))∈E):RInv n F E (setB on y) where
 sound i hi:=by
   unfold setB at hi;split at hi
   · rename_i e;subst e;exact .step (h.sound x hx) he
   · exact h.sound i hi
 base s hs:=by
   unfold setB;split
   · rfl
   · exact h.base s hs
structure RIn (n:Nat) (F:List Int) (E:List (Int × Int)) (on0 on:Nat→Bool) (more:Bool) (i:Nat):Prop where
 inv:RInv n F E on
 no:more=false→on=on0∧∀ j,j<i→on (nth E j).1.toNat=true→on (nth E j).2.toNat=true
 yes:more=true→cntB on0 n<cntB on n
theorem RIn.start {n:Nat} {F:List Int} {E:List (Int × Int)} {on:Nat→Bool} (h:RInv n F E on):RIn n F E on on false 0 :=
 ⟨h,fun _=>⟨rfl,fun j hj=>absurd hj (Nat.not_lt_zero j)⟩,fun h=>by cases h⟩
theorem RIn.skip {n i:Nat} {F:List Int} {E:List (Int × Int)} {on0 on:Nat→Bool} {more:Bool} (h:RIn n F E on0 on more i) {x y:Nat} (he:nth E i=((x:Int),(y:Int))) (hs:on x=true→on y=true):RIn n F E on0 on more (i+1):=by
 refine⟨h.inv,fun hm=>⟨(h.no hm).1,fun j hj=>?_⟩,h.yes⟩;by_cases e:j=i
 · subst e;rw[he];simpa using hs
 · exact (h.no hm).2 j (by omega)
theorem RIn.take {n i:Nat} {F:List Int} {E:List (Int × Int)} {on0 on:Nat→Bool} {more:Bool} (h:RIn n F E on0 on more i) {x y:Nat} (he:((x:Int),(y:Int))∈E) (hx:on x=true) (hy:on y=false) (hyn:y<n):RIn n F E on0 (setB on y) true (i+1):=by
 refine⟨h.inv.set hx he,fun hm=>(by cases hm),fun _=>?_⟩;have h1:=z87 hy hyn;cases more with
 | true=>have:=h.yes rfl;omega
 | false=>have:=(h.no rfl).1;subst this;omega
theorem RIn.done {n:Nat} {F:List Int} {E:List (Int × Int)} {on0 on:Nat→Bool} (h:RIn n F E on0 on false E.length):∀ e∈E,on e.1.toNat=true→on e.2.toNat=true:=fun e he=>by
 obtain⟨j,hj,rfl⟩:=List.getElem_of_mem he;have:=(h.no rfl).2 j hj;have e:nth E j=E[j]:=by simp[nth,List.getD,hj]
 rwa [e] at this
end Go.Proofs.YtbcjoeadpjfcfaaGreat
namespace Go.Proofs.YtbcjoeadpjfcfaaGreat
open Abs
end Go.Proofs.YtbcjoeadpjfcfaaGreat
namespace Go.Proofs.YtbcjoeadpjfcfaaGreat
open Abs
end Go.Proofs.YtbcjoeadpjfcfaaGreat
set_option maxRecDepth 100000
namespace Go.Proofs.YtbcjoeadpjfcfaaGreat
open Abs
theorem zuc {d:Desc} (h:Dl d=0):¬cycP d.rules d.states.toNat:=fun hc=>by
 obtain⟨h1,h2,h3⟩:=F4 h
 have h0:(D8 d).1=0:=by
   unfold Dl at h;split at h
   · assumption
   · omega
 rw[D8,if_neg (by simp[h1]),Mu h2] at h0;simp only at h0;rw[Mu h3] at h0;simp only at h0;rw[if_pos hc] at h0;simp at h0
theorem wf_n {d:Desc} (h:Dl d=0):∃ n:Nat,d.states=n∧1≤n∧n≤1024∧¬cycP d.rules n∧∀ r∈d.rules,(0≤r.from_∧r.from_<n)∧0≤r.to_∧r.to_<n:=by
 have hw:=zar h;obtain⟨n,hn,h1,h2⟩:=hw.n;refine⟨n,hn,h1,h2,?_,fun r hr=>by have:=hw.r r hr;rw[hn] at this;exact this⟩;have:=zuc h
 rwa [hn,Int.toNat_natCast] at this
def conT (x:Int):Term:=⟨0,0,21,0,x,[]⟩
theorem zg4 {x:Int} (hx:0≤x∧x≤1114111) {w:List Int} (hw:w.all symB=true):I7 (conT x) w=some x:=by
 have ho:(conT x).outer=⟨0,0,21,0⟩:=rfl;obtain⟨_,h1,h2⟩:=zdj (p:=⟨0,0,21,0⟩) (x:=x) (by decide) (by omega);have h3:valB ⟨0,0,21,0⟩ x=true:=h1;rw[I7,if_pos hw];simp only[conT,sumP];show (if valB (conT x).outer x&&decide (x≤1114111) then some (IntKind.i64.wrap (0+valP (conT x).outer x)) else none)=some x;rw[ho,h1,h2,decide_eq_true hx.2,Int.zero_add,IntWalk.i64_in _ (by omega)];rfl
theorem zku {gs:List (List Span)}:∀ {w:List Int},Win (gs.map symI) w→w.all symB=true:=by
 induction gs with
 | nil=>intro w hw;rw[zpx.1 hw];rfl
 | cons g gs ih =>
   intro w hw;obtain⟨x,r,rfl,h1,h2⟩:=win_cons.1 hw;have hm:=((Jb g).2 x).1 h1;rw[List.all_cons,ih h2,Bool.and_true,symB];exact decide_eq_true hm.1
theorem z88 {x:Int} {i o:Int} {gs:List (List Span)} (h4:gs.length≤4) (hr:Ep (conT x) i o gs.length=true) (hx:0≤x∧x≤1114111) (ho:O8 o x=true):O7 (conT x) i o gs=true:=by
 refine (z0l h4).2 ⟨hr,fun w hw=>?_⟩;rw[fitW,zg4 hx (zku hw)];simp[hx,ho]
def exE:Desc:=⟨1,1,2,0,[⟨0,1,[],0,[conT 120]⟩,⟨1,1,[[⟨97,97⟩]],1,[conT 121]⟩],[⟨1,[],[]⟩]⟩
theorem Sl:Dl exE=0:=by
 refine (z3u (by decide) (fun r hr=>?_) (fun f hf=>?_) ?_).2
 · simp only[exE,List.mem_cons,List.not_mem_nil,or_false] at hr
   rcases hr with rfl|rfl
   · simp only[Ew,De,Bool.and_eq_true,List.all_cons,List.all_nil]
     exact⟨by decide,by decide,by decide,by decide,by decide,z88 (by decide) (by decide) (by decide) (by decide),trivial⟩
   · simp only[Ew,De,Bool.and_eq_true,List.all_cons,List.all_nil]
     exact⟨by decide,by decide,zg0 (Lk.2 (by decide)),by decide,by decide,z88 (by decide) (by decide) (by decide) (by decide),trivial⟩
 · simp only[exE,List.mem_singleton] at hf
   subst hf;decide
 · rintro⟨C,hC,j,hj⟩
   have h0:¬C 0:=fun h=>by
     obtain⟨_,r,hr,he,ht,_⟩:=hC 0 h;simp only[exE,List.mem_cons,List.not_mem_nil,or_false] at hr;rcases hr with rfl|rfl<;>simp at ht
   obtain⟨_,r,hr,he,_,hf⟩:=hC j hj;simp only[exE,List.mem_cons,List.not_mem_nil,or_false] at hr;rcases hr with rfl|rfl
   · exact h0 hf
   · simp[Cf] at he
theorem zg5:Gh exE:=by
 refine⟨fun r hr t ht=>?_,fun f hf t ht=>?_⟩
 · simp only[exE,List.mem_cons,List.not_mem_nil,or_false] at hr
   rcases hr with rfl|rfl
   · simp only[List.mem_singleton] at ht;subst ht;decide
   · simp only[List.mem_singleton] at ht;subst ht;decide
 · simp only[exE,List.mem_singleton] at hf
   subst hf;cases ht
theorem zg6:cumW exE.rules 2 2=3:=by rfl
theorem z89:Eh exE 2=⟨1,1,2,0,[⟨0,1,[[⟨97,97⟩]],1,[conT 120,conT 121]⟩,⟨1,1,[[⟨97,97⟩]],1,[conT 121]⟩],[⟨0,[],[conT 120]⟩,⟨1,[],[]⟩]⟩:=by rfl
theorem zb4:E9 exE 2=true:=by
 rw[E9,zg6,z89];rfl
abbrev exEV:AV:=.agg [.int .i64 1,.int .i64 1,.int .i64 2,.int .i64 0,.lst 5 [.agg [.int .i64 0,.int .i64 1,.nilS,.int .i64 0,.lst 6 [.agg [.int .i64 0,.int .i64 0,.int .i64 21,.int .i64 0,.int .i64 120,.nilS]]],.agg [.int .i64 1,.int .i64 1,Ak [[⟨97,97⟩]],.int .i64 1,.lst 6 [.agg [.int .i64 0,.int .i64 0,.int .i64 21,.int .i64 0,.int .i64 121,.nilS]]]],.lst 3 [.agg [.int .i64 1,.nilS,.nilS]]]
theorem zg7 (x:Int):AV.le (.lst 6 [.agg [.int .i64 0,.int .i64 0,.int .i64 21,.int .i64 0,.int .i64 x,.nilS]]) (Be [conT x]) :=
 AV.le_lst rfl (Am _) (Au (AV.le_agg (Au (AV.le_refl _) (Au (AV.le_refl _) (Au (AV.le_refl _) (Au (AV.le_refl _) (Au (AV.le_refl _) (Au (AV.le_nilS (by decide)) Db))))))) Db)
theorem zg8:AV.le exEV (Bp exE):=by
 refine AV.le_agg (Au (AV.le_refl _) (Au (AV.le_refl _) (Au (AV.le_refl _) (Au (AV.le_refl _) (Au (AV.le_lst rfl (Az _) ?_) (Au (AV.le_lst rfl (Av _) ?_) Db))))))
 · refine Au (AV.le_agg (Au (AV.le_refl _) (Au (AV.le_refl _) (Au (AV.le_nilS (by decide)) (Au (AV.le_refl _) (Au (zg7 120) Db)))))) (Au (AV.le_agg (Au (AV.le_refl _) (Au (AV.le_refl _) (Au (AV.le_refl _) (Au (AV.le_refl _) (Au (zg7 121) Db)))))) Db)
 · exact Au (AV.le_agg (Au (AV.le_refl _) (Au (AV.le_nilS (by decide)) (Au (AV.le_nilS (by decide)) Db)))) Db
theorem Sm:PC Tryz.prog 16 [] (.bool true):=by
 obtain⟨n,hn,h1,h2,hc,_⟩:=wf_n Sl
 obtain rfl:n=2:=by
   have:(2:Int)=n:=hn;omega
 have hF:=z7r exE zg5 Sl hn hc;have hW:=z7o exE zg5 Sl hn hc;rw[if_pos zb4,z89] at hF;rw[zg6,if_pos (by decide)] at hW;have hF:=Iw hF (Au zg8 Db);have hW:=Iw hW (Au zg8 Db);refine zkd V0 ?_;unfold Ly;refine zgt (W_T ?_);(with_reducible repeat' (first|(simp(disch:=omega)only[push_cast,↓zz,seval])|refine And.intro ?_ ?_|(first|refine Ab ?_ ?_|refine Aa ?_ ?_)<;>intro hc<;>(try simp only[push_cast] at hc)|omega|intro _));refine zgt (W_T ?_);(with_reducible repeat' (first|(simp(disch:=omega)only[push_cast,↓zz,seval])|refine And.intro ?_ ?_|(first|refine Ab ?_ ?_|refine Aa ?_ ?_)<;>intro hc<;>(try simp only[push_cast] at hc)|omega|intro _));refine zgt (W_T ?_);(with_reducible repeat' (first|(simp(disch:=omega)only[push_cast,↓zz,seval])|refine And.intro ?_ ?_|(first|refine Ab ?_ ?_|refine Aa ?_ ?_)<;>intro hc<;>(try simp only[push_cast] at hc)|omega|intro _));refine Rj (z9n (l':=[⟨0,2,false,[]⟩,⟨0,2,false,[]⟩,⟨0,2,false,[]⟩,⟨0,2,false,[]⟩,⟨0,2,false,[]⟩,⟨0,2,false,[]⟩,⟨6,1,true,[exEV]⟩]) (g:=6) (d:=8) [0,1,2,3,4,5] (by decide) (by simp) rfl (by decide) ?_ ?_) (W_T ?_)
 · (simp(disch:=omega)only[push_cast,↓zz,seval])
 · rfl
 (with_reducible repeat' (first|(simp(disch:=omega)only[push_cast,↓zz,seval,conT])|refine And.intro ?_ ?_|(first|refine Ab ?_ ?_|refine Aa ?_ ?_)<;>intro hc<;>(try simp only[push_cast] at hc)|refine eK hF ?_|refine eQ hF ?_|refine eK hW ?_|refine eQ hW ?_|omega|intro _))
 all_goals trace_state
theorem Sn (d:Desc):PC Tryz.prog 3 [Bp d] (.bool true):=by
 have hA:=Sm;have hS:=Se d;have pR:=Az d.rules;have pF:=Av d.finals;refine A9 Lc ?_;unfold Gc;cases hsm:M1 d with
 | false =>
   rw[hsm] at hS;(with_reducible repeat' (first|(simp(disch:=omega)only[push_cast,↓zz,seval,pR,pF])|refine And.intro ?_ ?_|(first|refine Ab ?_ ?_|refine Aa ?_ ?_)<;>intro hc<;>(try simp only[push_cast] at hc)|refine eK hS ?_|refine eQ hS ?_|refine eG hS ?_|refine eK hA ?_|refine eQ hA ?_|refine eG hA ?_|((first|refine cK hS ?_|refine cQ hS ?_|refine cG hS ?_|refine cK hA ?_|refine cQ hA ?_|refine cG hA ?_);(simp(disch:=omega)only[push_cast,↓zz,seval,pR,pF]);(fail_if_success change False))|omega|intro _))
 | true =>
 rw[hsm] at hS;have hsh:=Sj hsm;have hRt:=Sk d hsh;by_cases h:Dl d=0
 · rw[decide_eq_true h] at hRt
   obtain⟨n,hn,h1,h2,hc,hl⟩:=wf_n h;have hW:=z7o d hsh.fin h hn hc;have hW2:=zfz d hn h2 (zar h).rl hl hc;generalize cumW d.rules n n=k at *;by_cases hk:k≤4096
   · rw[if_pos hk] at hW hW2
     (with_reducible repeat' (first|(simp(disch:=omega)only[push_cast,↓zz,seval,pR,pF])|refine And.intro ?_ ?_|(first|refine Ab ?_ ?_|refine Aa ?_ ?_)<;>intro hc<;>(try simp only[push_cast] at hc)|refine eK hS ?_|refine eQ hS ?_|refine eG hS ?_|refine eK hW ?_|refine eQ hW ?_|refine eG hW ?_|refine eK hRt ?_|refine eQ hRt ?_|refine eG hRt ?_|refine eK hW2 ?_|refine eQ hW2 ?_|refine eG hW2 ?_|refine eK hA ?_|refine eQ hA ?_|refine eG hA ?_|((first|refine cK hS ?_|refine cQ hS ?_|refine cG hS ?_|refine cK hW ?_|refine cQ hW ?_|refine cG hW ?_|refine cK hRt ?_|refine cQ hRt ?_|refine cG hRt ?_|refine cK hW2 ?_|refine cQ hW2 ?_|refine cG hW2 ?_|refine cK hA ?_|refine cQ hA ?_|refine cG hA ?_);(simp(disch:=omega)only[push_cast,↓zz,seval,pR,pF]);(fail_if_success change False))|omega|intro _))
   · rw[if_neg hk] at hW hW2
     (with_reducible repeat' (first|(simp(disch:=omega)only[push_cast,↓zz,seval,pR,pF])|refine And.intro ?_ ?_|(first|refine Ab ?_ ?_|refine Aa ?_ ?_)<;>intro hc<;>(try simp only[push_cast] at hc)|refine eK hS ?_|refine eQ hS ?_|refine eG hS ?_|refine eK hW ?_|refine eQ hW ?_|refine eG hW ?_|refine eK hRt ?_|refine eQ hRt ?_|refine eG hRt ?_|refine eK hW2 ?_|refine eQ hW2 ?_|refine eG hW2 ?_|refine eK hA ?_|refine eQ hA ?_|refine eG hA ?_|((first|refine cK hS ?_|refine cQ hS ?_|refine cG hS ?_|refine cK hW ?_|refine cQ hW ?_|refine cG hW ?_|refine cK hRt ?_|refine cQ hRt ?_|refine cG hRt ?_|refine cK hW2 ?_|refine cQ hW2 ?_|refine cG hW2 ?_|refine cK hA ?_|refine cQ hA ?_|refine cG hA ?_);(simp(disch:=omega)only[push_cast,↓zz,seval,pR,pF]);(fail_if_success change False))|omega|intro _))
 · rw[decide_eq_false h] at hRt
   have hW:=z48 d hsh.fin h;(with_reducible repeat' (first|(simp(disch:=omega)only[push_cast,↓zz,seval,pR,pF])|refine And.intro ?_ ?_|(first|refine Ab ?_ ?_|refine Aa ?_ ?_)<;>intro hc<;>(try simp only[push_cast] at hc)|refine eK hS ?_|refine eQ hS ?_|refine eG hS ?_|refine eK hW ?_|refine eQ hW ?_|refine eG hW ?_|refine eK hRt ?_|refine eQ hRt ?_|refine eG hRt ?_|refine eK hA ?_|refine eQ hA ?_|refine eG hA ?_|((first|refine cK hS ?_|refine cQ hS ?_|refine cG hS ?_|refine cK hW ?_|refine cQ hW ?_|refine cG hW ?_|refine cK hRt ?_|refine cQ hRt ?_|refine cG hRt ?_|refine cK hA ?_|refine cQ hA ?_|refine cG hA ?_);(simp(disch:=omega)only[push_cast,↓zz,seval,pR,pF]);(fail_if_success change False))|omega|intro _))
   all_goals trace_state
theorem zg9 {d:Desc} (h:Dl d=0) {n:Nat} (hn:n≤1024) (hc:¬cycP d.rules n) (hl:∀ r∈d.rules,(0≤r.from_∧r.from_<n)∧0≤r.to_∧r.to_<n) (hok:E9 d n=true):z86 (Eh d n):=by
 obtain⟨_,hrules,hfinals⟩:=F4 h;simp only[E9,Bool.and_eq_true,decide_eq_true_eq] at hok;obtain⟨_,⟨h1,h2⟩,_⟩:=hok;have hwo:∀ s,s<n→∀ w∈wayL d.rules n s [],zq9 n w:=fun s hs w hw'=>zlw hn hl hc (fun r hr=>(Fi (hrules r hr)).1) (fun r hr=>(Fi (hrules r hr)).2.1) hs hw';refine⟨by omega,fun r hr=>?_,by omega,fun r hr=>?_⟩
 · obtain⟨i,hi,w,hw1,hr1⟩:=Xw hr
   have hwk:=hwo i hi w hw1;rw[z7q] at hr1;obtain⟨r0,hr0,rfl⟩:=List.mem_map.1 hr1;obtain⟨o1,o2,o3,o4⟩:=Fi (hrules r0 (z4c hr0));have hwl:=hwk.l;refine⟨by simp only[Ib];omega,fun g hg=>by have:=o4 g hg;omega,by simp only[Ib,List.length_append];omega,fun t ht=>?_⟩;rcases List.mem_append.1 ht with h|h
   · have:=hwk.p t h;omega
   · have:=o2 t h;omega
 · obtain⟨i,hi,w,hw1,hr1⟩:=Xw hr
   have hwk:=hwo i hi w hw1;rw[zfg] at hr1;obtain⟨r0,hr0,rfl⟩:=List.mem_map.1 hr1;obtain⟨o1,o2,o3,o4⟩:=Mz (hfinals r0 (zff hr0));have hwl:=hwk.l;refine⟨by simp only[Jm];omega,fun g hg=>by have:=o4 g hg;omega,by simp only[Jm,List.length_append];omega,fun t ht=>?_⟩;rcases List.mem_append.1 ht with h|h
   · have:=hwk.p t h;omega
   · have:=o2 t h;omega
theorem O9 (d:Desc):PC Tryz.prog 4 [Bp d] (.bool true):=by
 have hA:=Sm;have hS:=Se d;have hZ:=zg3;have pR:=Az d.rules;have pF:=Av d.finals;refine A9 Kk ?_;unfold Fv;cases hsm:M1 d with
 | false =>
   rw[hsm] at hS;(with_reducible repeat' (first|(simp(disch:=omega)only[push_cast,↓zz,seval,pR,pF])|refine And.intro ?_ ?_|(first|refine Ab ?_ ?_|refine Aa ?_ ?_)<;>intro hc<;>(try simp only[push_cast] at hc)|refine eK hS ?_|refine eQ hS ?_|refine eG hS ?_|refine eK hA ?_|refine eQ hA ?_|refine eG hA ?_|((first|refine cK hS ?_|refine cQ hS ?_|refine cG hS ?_|refine cK hA ?_|refine cQ hA ?_|refine cG hA ?_);(simp(disch:=omega)only[push_cast,↓zz,seval,pR,pF]);(fail_if_success change False))|omega|intro _))
 | true =>
 rw[hsm] at hS;have hsh:=Sj hsm;have hRt:=Sk d hsh;by_cases h:Dl d=0
 · rw[decide_eq_true h] at hRt
   obtain⟨n,hn,h1,h2,hc,hl⟩:=wf_n h;have hT:=z7r d hsh.fin h hn hc;have hT2:=zqh d h hn hc;by_cases hok:E9 d n=true
   · have hM:=Vg (Eh d n) (Eh d n) (zg9 h h2 hc hl hok)
     rw[decide_eq_true rfl] at hM;rw[if_pos hok] at hT hT2;generalize Eh d n=c at *;have pcR:=Az c.rules;have pcF:=Av c.finals;(with_reducible repeat' (first|(simp(disch:=omega)only[push_cast,↓zz,seval,pR,pF,pcR,pcF])|refine And.intro ?_ ?_|(first|refine Ab ?_ ?_|refine Aa ?_ ?_)<;>intro hc<;>(try simp only[push_cast] at hc)|refine eK hA ?_|refine eQ hA ?_|refine eG hA ?_|refine eK hS ?_|refine eQ hS ?_|refine eK hRt ?_|refine eQ hRt ?_|refine eK hT ?_|refine eQ hT ?_|refine eK hT2 ?_|refine eQ hT2 ?_|refine eK hM ?_|refine eQ hM ?_|((first|refine cK hA ?_|refine cQ hA ?_|refine cG hA ?_);(simp(disch:=omega)only[push_cast,↓zz,seval,pR,pF,pcR,pcF]);(fail_if_success change False))|omega|intro _))
   · rw[if_neg hok] at hT hT2
     have hrv:z1d d n=Im∨z1d d n=Bp (Eh d n):=by
       unfold z1d;split
       · exact .inr rfl
       · exact .inl rfl
     rcases hrv with hrv|hrv
     · rw[hrv] at hT2
       (with_reducible repeat' (first|(simp(disch:=omega)only[push_cast,↓zz,seval,pR,pF])|refine And.intro ?_ ?_|(first|refine Ab ?_ ?_|refine Aa ?_ ?_)<;>intro hc<;>(try simp only[push_cast] at hc)|refine eK hZ ?_|refine eQ hZ ?_|refine eG hZ ?_|refine eK hA ?_|refine eQ hA ?_|refine eG hA ?_|refine eK hS ?_|refine eQ hS ?_|refine eK hRt ?_|refine eQ hRt ?_|refine eK hT ?_|refine eQ hT ?_|refine eK hT2 ?_|refine eQ hT2 ?_|((first|refine cK hZ ?_|refine cQ hZ ?_|refine cG hZ ?_|refine cK hA ?_|refine cQ hA ?_|refine cG hA ?_);(simp(disch:=omega)only[push_cast,↓zz,seval,pR,pF]);(fail_if_success change False))|omega|intro _))
     · rw[hrv] at hT2
       generalize Eh d n=c at *;have pcR:=Az c.rules;have pcF:=Av c.finals;(with_reducible repeat' (first|(simp(disch:=omega)only[push_cast,↓zz,seval,pR,pF,pcR,pcF])|refine And.intro ?_ ?_|(first|refine Ab ?_ ?_|refine Aa ?_ ?_)<;>intro hc<;>(try simp only[push_cast] at hc)|refine eK hZ ?_|refine eQ hZ ?_|refine eG hZ ?_|refine eK hA ?_|refine eQ hA ?_|refine eG hA ?_|refine eK hS ?_|refine eQ hS ?_|refine eK hRt ?_|refine eQ hRt ?_|refine eK hT ?_|refine eQ hT ?_|refine eK hT2 ?_|refine eQ hT2 ?_|((first|refine cK hZ ?_|refine cQ hZ ?_|refine cG hZ ?_|refine cK hA ?_|refine cQ hA ?_|refine cG hA ?_);(simp(disch:=omega)only[push_cast,↓zz,seval,pR,pF,pcR,pcF]);(fail_if_success change False))|omega|intro _))
 · rw[decide_eq_false h] at hRt
   have hT:=z4b d hsh.fin h;(with_reducible repeat' (first|(simp(disch:=omega)only[push_cast,↓zz,seval,pR,pF])|refine And.intro ?_ ?_|(first|refine Ab ?_ ?_|refine Aa ?_ ?_)<;>intro hc<;>(try simp only[push_cast] at hc)|refine eK hS ?_|refine eQ hS ?_|refine eG hS ?_|refine eK hRt ?_|refine eQ hRt ?_|refine eG hRt ?_|refine eK hT ?_|refine eQ hT ?_|refine eG hT ?_|refine eK hZ ?_|refine eQ hZ ?_|refine eG hZ ?_|refine eK hA ?_|refine eQ hA ?_|refine eG hA ?_|((first|refine cK hS ?_|refine cQ hS ?_|refine cG hS ?_|refine cK hRt ?_|refine cQ hRt ?_|refine cG hRt ?_|refine cK hT ?_|refine cQ hT ?_|refine cG hT ?_|refine cK hZ ?_|refine cQ hZ ?_|refine cG hZ ?_|refine cK hA ?_|refine cQ hA ?_|refine cG hA ?_);(simp(disch:=omega)only[push_cast,↓zz,seval,pR,pF]);(fail_if_success change False))|omega|intro _))
   all_goals trace_state
end Go.Proofs.YtbcjoeadpjfcfaaGreat
