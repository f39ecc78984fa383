/-
  Contracts of layer 4: terms.
  Contracts of layer 4: values; terms put together and bound.
  Contracts of layer 4: terms put together and bound.
  Contracts of layer 4: the document's terms put together, and bound; terms alike.
  Contracts of layer 4: terms bound; terms alike.
  Plain laws of layer 4: what terms put together, and bound, tell.
  What comes in, as the program's data.
  Contracts of layer 4's statements: the document's examples; rightness, values.
  Contracts of layer 4's statements: terms put together, and bound.
  Epsilon rules: states whose ways come to an end, taken one by one.
  Ways of epsilon rules that are longer than there are states go round.
-/
import Derived.Test.YticodgjinajkpaaGreatZA4
import Derived.Test.YticodgjinajkpaaGreatZA3
set_option linter.unusedSimpArgs false
set_option linter.unusedVariables false
namespace Go.Proofs.YticodgjinajkpaaGreat
open Abs
abbrev Term.outer (t:Term):Part:=⟨0,t.drop,t.take,t.up⟩
theorem z6f (t:Term):PC Tryz.prog 88 [z1q t] (z1v t.outer):=by
 refine z0s zlp ?_
 unfold zc3
 (repeat' (first|(simp (disch:=omega) only [push_cast,↓zz,seval])|(with_reducible first|refine And.intro ?_ ?_|(first|refine z01 ?_ ?_|refine z00 ?_ ?_)<;>intro hc<;>(try simp only [push_cast] at hc))|omega|with_reducible intro _))
theorem zae (t:Term):PC Tryz.prog 140 [z1q t] (z1v t.outer):=by
 refine z0s zix ?_
 unfold za9
 (repeat' (first|(simp (disch:=omega) only [push_cast,↓zz,seval])|(with_reducible first|refine And.intro ?_ ?_|(first|refine z01 ?_ ?_|refine z00 ?_ ?_)<;>intro hc<;>(try simp only [push_cast] at hc))|omega|with_reducible intro _))
def zcg (t:Term):Bool:=decide (t.base=0∧t.drop=0∧t.take=21∧t.up=0)
def z58 (p:Part):Bool:=decide (p.drop=0∧p.take=21∧p.up=0)
theorem zj3 (p:Part):PC Tryz.prog 119 [z1v p] (.bool (z58 p)):=by
 refine z0s znx ?_
 unfold ze5
 (repeat' (first|(simp (disch:=omega) only [push_cast,↓zz,seval])|(with_reducible first|refine And.intro ?_ ?_|(first|refine z01 ?_ ?_|refine z00 ?_ ?_)<;>intro hc<;>(try simp only [push_cast] at hc))|omega|with_reducible intro _))
 all_goals (unfold z58;first|(refine zkn ?_;omega)|(refine zko ?_;omega)|(refine zau ?_;omega))
theorem zm1 (t:Term):PC Tryz.prog 120 [z1q t] (.bool (zcg t)):=by
 refine z0s zit ?_
 unfold za5
 (repeat' (first|(simp (disch:=omega) only [push_cast,↓zz,seval])|(with_reducible first|refine And.intro ?_ ?_|(first|refine z01 ?_ ?_|refine z00 ?_ ?_)<;>intro hc<;>(try simp only [push_cast] at hc))|(have q_:=zae t;(with_reducible first|refine eK q_ ?_|refine eQ q_ ?_|refine eG q_ ?_);clear q_)|(have q_:=zj3 t.outer;(with_reducible first|refine eK q_ ?_|refine eQ q_ ?_|refine eG q_ ?_);clear q_)|(have q_:=zae t;(with_reducible first|refine cK q_ ?_|refine cQ q_ ?_|refine cG q_ ?_);clear q_;(simp (disch:=omega) only [push_cast,↓zz,seval]);(fail_if_success (with_reducible change False)))|(have q_:=zj3 t.outer;(with_reducible first|refine cK q_ ?_|refine cQ q_ ?_|refine cG q_ ?_);clear q_;(simp (disch:=omega) only [push_cast,↓zz,seval]);(fail_if_success (with_reducible change False)))|omega|with_reducible intro _))
 all_goals (simp [zcg,z58,Term.outer, *])
theorem zgt (t:Term):PC Tryz.prog 134 [z1q t] (.bool (zcg t)):=by
 refine z0s zlw ?_
 unfold zca
 (repeat' (first|(simp (disch:=omega) only [push_cast,↓zz,seval])|(with_reducible first|refine And.intro ?_ ?_|(first|refine z01 ?_ ?_|refine z00 ?_ ?_)<;>intro hc<;>(try simp only [push_cast] at hc))|(have q_:=z6f t;(with_reducible first|refine eK q_ ?_|refine eQ q_ ?_|refine eG q_ ?_);clear q_)|(have q_:=z5g 0;(with_reducible first|refine eK q_ ?_|refine eQ q_ ?_|refine eG q_ ?_);clear q_)|(have q_:=z6f t;(with_reducible first|refine cK q_ ?_|refine cQ q_ ?_|refine cG q_ ?_);clear q_;(simp (disch:=omega) only [push_cast,↓zz,seval]);(fail_if_success (with_reducible change False)))|(have q_:=z5g 0;(with_reducible first|refine cK q_ ?_|refine cQ q_ ?_|refine cG q_ ?_);clear q_;(simp (disch:=omega) only [push_cast,↓zz,seval]);(fail_if_success (with_reducible change False)))|omega|with_reducible intro _))
 all_goals (simp [zcg,z58,Term.outer, *])
def z1p (x:Int):Bool:=decide (-1114111 ≤ x∧x ≤ 1114111)
theorem z87 (x:Int):PC Tryz.prog 145 [.int .i64 x] (.bool (z1p x)):=by
 refine z0s zlz ?_
 unfold zce
 (repeat' (first|(simp (disch:=omega) only [push_cast,↓zz,seval])|(with_reducible first|refine And.intro ?_ ?_|(first|refine z01 ?_ ?_|refine z00 ?_ ?_)<;>intro hc<;>(try simp only [push_cast] at hc))|omega|with_reducible intro _))
 all_goals (unfold z1p;first|(refine zkn ?_;omega)|(refine zko ?_;omega)|(refine zau ?_;omega))
theorem zaf (x:Int):PC Tryz.prog 138 [.int .i64 x] (.bool (z1p x)):=by
 refine z0s ziw ?_
 unfold za8
 (repeat' (first|(simp (disch:=omega) only [push_cast,↓zz,seval])|(with_reducible first|refine And.intro ?_ ?_|(first|refine z01 ?_ ?_|refine z00 ?_ ?_)<;>intro hc<;>(try simp only [push_cast] at hc))|omega|with_reducible intro _))
 all_goals (unfold z1p;first|(refine zkn ?_;omega)|(refine zko ?_;omega)|(refine zau ?_;omega))
def z7k:List Part→Bool
 | p :: q :: l=>decide (p.up < q.up) && z7k (q :: l)
 | _=>true
theorem zag:∀ {l:List Part} {i:Nat},i + 1 < l.length→z7k (l.drop i)=(decide ((nth l i).up < (nth l (i + 1)).up) && z7k (l.drop (i + 1)))
 | [],i,h=>by simp at h
 | [p],i,h=>by simp at h
 | p :: q :: l,0,_=>rfl
 | p :: q :: l,i + 1,h=>by
   exact zag (l:=q :: l) (i:=i) (by simpa using h)
theorem zm2 {l:List Part} {i:Nat} (h:l.length ≤ i + 1):z7k (l.drop i)=true:=by
 match hl:l.drop i with
 | []=>rfl
 | [p]=>rfl
 | p :: q :: r=>have:=congrArg List.length hl;simp at this;omega
theorem zeg (l:List Part) (hl:l.length < 1000000000000):PC Tryz.prog 146 [z0x l] (.bool (z7k l && decide (l.length ≤ 4))):=by
 refine z0s ziy ?_
 unfold zaa
 (repeat' (first|(simp (disch:=omega) only [push_cast,↓zz,seval])|(with_reducible first|refine And.intro ?_ ?_|(first|refine z01 ?_ ?_|refine z00 ?_ ?_)<;>intro hc<;>(try simp only [push_cast] at hc))|omega|with_reducible intro _))
 refine z0f (z0g (fun (i:Nat)=>i ≤ l.length∧z7k l=z7k (l.drop (i - 1))) (fun i=>l.length - i) (fun i=>[(0,z0x l),(5,z0x l),(6,.int .i64 l.length),(7,.int .i64 i)]) (fun _=>[]) (fun _ _=>[]) 0 (by simp) ?_ ?_)
 · (repeat' (first|(simp (disch:=omega) only [push_cast,↓zz,seval])|(with_reducible first|refine And.intro ?_ ?_|(first|refine z01 ?_ ?_|refine z00 ?_ ?_)<;>intro hc<;>(try simp only [push_cast] at hc))|omega|with_reducible intro _))
 rintro i ⟨hi,hr⟩
 refine W_T ?_
 (repeat' (first|(simp (disch:=omega) only [push_cast,↓zz,seval])|(with_reducible first|refine And.intro ?_ ?_|(first|refine z01 ?_ ?_|refine z00 ?_ ?_)<;>intro hc<;>(try simp only [push_cast] at hc))|omega|with_reducible intro _))
 · rename_i h1 h2
   rw [hr,zag (i:=i - 1) (by omega),show i - 1 + 1=i by omega]
   have:¬ (nth l (i - 1)).up < (nth l i).up:=by omega
   simp [this]
 · refine ⟨i + 1,?_⟩
   (repeat' (first|(simp (disch:=omega) only [push_cast,↓zz,seval])|(with_reducible first|refine And.intro ?_ ?_|(first|refine z01 ?_ ?_|refine z00 ?_ ?_)<;>intro hc<;>(try simp only [push_cast] at hc))|omega|with_reducible intro _))
   rw [hr,zag (i:=i - 1) (by omega),show i - 1 + 1=i by omega]
   have:(nth l (i - 1)).up < (nth l i).up:=by omega
   simp [this]
 · refine ⟨i + 1,?_⟩
   (repeat' (first|(simp (disch:=omega) only [push_cast,↓zz,seval])|(with_reducible first|refine And.intro ?_ ?_|(first|refine z01 ?_ ?_|refine z00 ?_ ?_)<;>intro hc<;>(try simp only [push_cast] at hc))|omega|with_reducible intro _))
   obtain rfl:i=0:=by omega
   exact hr
 · rw [hr,zm2 (i:=i - 1) (by omega),Bool.true_and]
   exact zau (by omega)
def z1s (t:Term):Bool:=z1p t.base && z1p t.sum && z2s t.outer && (z7k t.parts && decide (t.parts.length ≤ 4))
theorem zo9 (t:Term):z2y t.outer 1=z2s t.outer:=by simp [z2y]
theorem zeh (t:Term):PC Tryz.prog 86 [z1v t.outer,.int .i64 1] (.bool (z2s t.outer)):=by rw [← zo9];exact z86 t.outer 1
theorem z7l (t:Term) (hl:t.parts.length < 1000000000000):PC Tryz.prog 133 [z1q t] (.bool (z1s t)):=by
 refine z0s zft ?_
 unfold z8s
 (repeat' (first|(simp (disch:=omega) only [push_cast,↓zz,seval])|(with_reducible first|refine And.intro ?_ ?_|(first|refine z01 ?_ ?_|refine z00 ?_ ?_)<;>intro hc<;>(try simp only [push_cast] at hc))|(have q_:=z87 t.base;(with_reducible first|refine eK q_ ?_|refine eQ q_ ?_|refine eG q_ ?_);clear q_)|(have q_:=z87 t.sum;(with_reducible first|refine eK q_ ?_|refine eQ q_ ?_|refine eG q_ ?_);clear q_)|(have q_:=z6f t;(with_reducible first|refine eK q_ ?_|refine eQ q_ ?_|refine eG q_ ?_);clear q_)|(have q_:=zeh t;(with_reducible first|refine eK q_ ?_|refine eQ q_ ?_|refine eG q_ ?_);clear q_)|(have q_:=zeg t.parts hl;(with_reducible first|refine eK q_ ?_|refine eQ q_ ?_|refine eG q_ ?_);clear q_)|(have q_:=z87 t.base;(with_reducible first|refine cK q_ ?_|refine cQ q_ ?_|refine cG q_ ?_);clear q_;(simp (disch:=omega) only [push_cast,↓zz,seval]);(fail_if_success (with_reducible change False)))|(have q_:=z87 t.sum;(with_reducible first|refine cK q_ ?_|refine cQ q_ ?_|refine cG q_ ?_);clear q_;(simp (disch:=omega) only [push_cast,↓zz,seval]);(fail_if_success (with_reducible change False)))|(have q_:=z6f t;(with_reducible first|refine cK q_ ?_|refine cQ q_ ?_|refine cG q_ ?_);clear q_;(simp (disch:=omega) only [push_cast,↓zz,seval]);(fail_if_success (with_reducible change False)))|(have q_:=zeh t;(with_reducible first|refine cK q_ ?_|refine cQ q_ ?_|refine cG q_ ?_);clear q_;(simp (disch:=omega) only [push_cast,↓zz,seval]);(fail_if_success (with_reducible change False)))|(have q_:=zeg t.parts hl;(with_reducible first|refine cK q_ ?_|refine cQ q_ ?_|refine cG q_ ?_);clear q_;(simp (disch:=omega) only [push_cast,↓zz,seval]);(fail_if_success (with_reducible change False)))|omega|with_reducible intro _))
 all_goals (simp [z1s, *])
theorem zei (t:Term) (hl:t.parts.length < 1000000000000):PC Tryz.prog 117 [z1q t] (.bool (z1s t)):=by
 refine z0s ze4 ?_
 unfold z7h
 (repeat' (first|(simp (disch:=omega) only [push_cast,↓zz,seval])|(with_reducible first|refine And.intro ?_ ?_|(first|refine z01 ?_ ?_|refine z00 ?_ ?_)<;>intro hc<;>(try simp only [push_cast] at hc))|(have q_:=zaf t.base;(with_reducible first|refine eK q_ ?_|refine eQ q_ ?_|refine eG q_ ?_);clear q_)|(have q_:=zaf t.sum;(with_reducible first|refine eK q_ ?_|refine eQ q_ ?_|refine eG q_ ?_);clear q_)|(have q_:=zae t;(with_reducible first|refine eK q_ ?_|refine eQ q_ ?_|refine eG q_ ?_);clear q_)|(have q_:=z85 t.outer;(with_reducible first|refine eK q_ ?_|refine eQ q_ ?_|refine eG q_ ?_);clear q_)|(have q_:=zaf t.base;(with_reducible first|refine cK q_ ?_|refine cQ q_ ?_|refine cG q_ ?_);clear q_;(simp (disch:=omega) only [push_cast,↓zz,seval]);(fail_if_success (with_reducible change False)))|(have q_:=zaf t.sum;(with_reducible first|refine cK q_ ?_|refine cQ q_ ?_|refine cG q_ ?_);clear q_;(simp (disch:=omega) only [push_cast,↓zz,seval]);(fail_if_success (with_reducible change False)))|(have q_:=zae t;(with_reducible first|refine cK q_ ?_|refine cQ q_ ?_|refine cG q_ ?_);clear q_;(simp (disch:=omega) only [push_cast,↓zz,seval]);(fail_if_success (with_reducible change False)))|(have q_:=z85 t.outer;(with_reducible first|refine cK q_ ?_|refine cQ q_ ?_|refine cG q_ ?_);clear q_;(simp (disch:=omega) only [push_cast,↓zz,seval]);(fail_if_success (with_reducible change False)))|omega|with_reducible intro _))
 · have:¬ t.parts.length ≤ 4:=by omega
   simp [z1s,this]
 · have hn:z1s t=z7k t.parts:=by
     have:t.parts.length ≤ 4:=by omega
     simp [z1s, *]
   rw [hn]
   refine z0f (z0g (fun (i:Nat)=>i ≤ t.parts.length∧z7k t.parts=z7k (t.parts.drop i)) (fun i=>t.parts.length - i) (fun i=>[(1,.ptr 0 1 0 0),(3,.int .i64 (i + 1))]) (fun _=>[⟨6,1,true,[z1q t]⟩]) (fun env _=>[z0k 0 (env 1)]) 0 (by simp) ?_ ?_)
   · (repeat' (first|(simp (disch:=omega) only [push_cast,↓zz,seval])|(with_reducible first|refine And.intro ?_ ?_|(first|refine z01 ?_ ?_|refine z00 ?_ ?_)<;>intro hc<;>(try simp only [push_cast] at hc))|omega|with_reducible intro _))
   rintro i ⟨hi,hr⟩
   refine W_T ?_
   (repeat' (first|(simp (disch:=omega) only [push_cast,↓zz,seval])|(with_reducible first|refine And.intro ?_ ?_|(first|refine z01 ?_ ?_|refine z00 ?_ ?_)<;>intro hc<;>(try simp only [push_cast] at hc))|omega|with_reducible intro _))
   · rw [hr,zag (i:=i) (by omega)]
     have:¬ (nth t.parts i).up < (nth t.parts (i + 1)).up:=by omega
     simp [this]
   · refine ⟨i + 1,?_⟩
     (repeat' (first|(simp (disch:=omega) only [push_cast,↓zz,seval])|(with_reducible first|refine And.intro ?_ ?_|(first|refine z01 ?_ ?_|refine z00 ?_ ?_)<;>intro hc<;>(try simp only [push_cast] at hc))|omega|with_reducible intro _))
     rw [hr,zag (i:=i) (by omega)]
     have:(nth t.parts i).up < (nth t.parts (i + 1)).up:=by omega
     simp [this]
   · rw [hr,zm2 (i:=i) (by omega)]
 all_goals (simp [z1s, *])
def zm3 (s:Int):Bool:=decide (s=1 ∨ s=2)
def z2t (i n:Int) (l:List Part):Bool:=l.all fun p=>z2y p n && (decide (i ≠ 2) || z58 p)
def z4h (t:Term) (i o n:Int):Bool:=zm3 i && zm3 o && z1s t && z2t i n t.parts && (decide (i ≠ 2) || decide (t.parts.length ≤ 1)) && (decide (o ≠ 2) || zcg t)
theorem zj4 (s:Int):decide (((domL s).length:Int)=0)=!zm3 s:=by
 unfold domL zm3
 split
 · subst_vars;decide
 · split
   · subst_vars;decide
   · simp [*]
theorem y45 (l:List Part):(l.length ≤ 1)=((l.length:Int) ≤ 1):=by simp only [eq_iff_iff];omega
theorem zt9 (t:Term) (i o n:Int) (hl:t.parts.length < 1000000000000):PC Tryz.prog 114 [z1q t,.int .i64 i,.int .i64 o,.int .i64 n] (.bool (z4h t i o n)):=by
 refine z0s zls ?_
 unfold zc6
 (repeat' (first|(simp (disch:=omega) only [push_cast,↓zz,seval,zj4])|(with_reducible first|refine And.intro ?_ ?_|(first|refine z01 ?_ ?_|refine z00 ?_ ?_)<;>intro hc<;>(try simp only [push_cast] at hc))|(have q_:=z3i i;(with_reducible first|refine eK q_ ?_|refine eQ q_ ?_|refine eG q_ ?_);clear q_)|(have q_:=z3i o;(with_reducible first|refine eK q_ ?_|refine eQ q_ ?_|refine eG q_ ?_);clear q_)|(have q_:=z7l t hl;(with_reducible first|refine eK q_ ?_|refine eQ q_ ?_|refine eG q_ ?_);clear q_)|(have q_:=z3i i;(with_reducible first|refine cK q_ ?_|refine cQ q_ ?_|refine cG q_ ?_);clear q_;(simp (disch:=omega) only [push_cast,↓zz,seval,zj4]);(fail_if_success (with_reducible change False)))|(have q_:=z3i o;(with_reducible first|refine cK q_ ?_|refine cQ q_ ?_|refine cG q_ ?_);clear q_;(simp (disch:=omega) only [push_cast,↓zz,seval,zj4]);(fail_if_success (with_reducible change False)))|(have q_:=z7l t hl;(with_reducible first|refine cK q_ ?_|refine cQ q_ ?_|refine cG q_ ?_);clear q_;(simp (disch:=omega) only [push_cast,↓zz,seval,zj4]);(fail_if_success (with_reducible change False)))|omega|with_reducible intro _))
 · simp [z4h, *]
 · have hn:z4h t i o n=(z2t i n t.parts && (decide (i ≠ 2) || decide ((t.parts.length:Int) ≤ 1)) && (decide (o ≠ 2) || zcg t)):=by simp [z4h,y45, *]
   rw [hn]
   refine z0f (z0g (fun (k:Nat)=>k ≤ t.parts.length∧z2t i n t.parts=z2t i n (t.parts.drop k)) (fun k=>t.parts.length - k) (fun k=>[(1,.int .i64 i),(2,.int .i64 o),(3,.int .i64 n),(4,.ptr 0 1 0 0),(27,z0x t.parts),(28,.int .i64 t.parts.length),(29,.int .i64 k)]) (fun _=>[⟨6,1,true,[z1q t]⟩]) (fun env _=>[z0k 0 (env 4)]) 0 (by simp) ?_ ?_)
   · (repeat' (first|(simp (disch:=omega) only [push_cast,↓zz,seval])|(with_reducible first|refine And.intro ?_ ?_|(first|refine z01 ?_ ?_|refine z00 ?_ ?_)<;>intro hc<;>(try simp only [push_cast] at hc))|omega|with_reducible intro _))
   rintro k ⟨hi,hr⟩
   refine W_T ?_
   (repeat' (first|(simp (disch:=omega) only [push_cast,↓zz,seval])|(with_reducible first|refine And.intro ?_ ?_|(first|refine z01 ?_ ?_|refine z00 ?_ ?_)<;>intro hc<;>(try simp only [push_cast] at hc))|(have q_:=z86 (nth t.parts k) n;(with_reducible first|refine eK q_ ?_|refine eQ q_ ?_|refine eG q_ ?_);clear q_)|(have q_:=z5g (nth t.parts k).at_;(with_reducible first|refine eK q_ ?_|refine eQ q_ ?_|refine eG q_ ?_);clear q_)|(have q_:=zgt t;(with_reducible first|refine eK q_ ?_|refine eQ q_ ?_|refine eG q_ ?_);clear q_)|(have q_:=z86 (nth t.parts k) n;(with_reducible first|refine cK q_ ?_|refine cQ q_ ?_|refine cG q_ ?_);clear q_;(simp (disch:=omega) only [push_cast,↓zz,seval]);(fail_if_success (with_reducible change False)))|(have q_:=z5g (nth t.parts k).at_;(with_reducible first|refine cK q_ ?_|refine cQ q_ ?_|refine cG q_ ?_);clear q_;(simp (disch:=omega) only [push_cast,↓zz,seval]);(fail_if_success (with_reducible change False)))|(have q_:=zgt t;(with_reducible first|refine cK q_ ?_|refine cQ q_ ?_|refine cG q_ ?_);clear q_;(simp (disch:=omega) only [push_cast,↓zz,seval]);(fail_if_success (with_reducible change False)))|omega|with_reducible intro _))
   all_goals (first|(refine ⟨k + 1,?_⟩;(repeat' (first|(simp (disch:=omega) only [push_cast,↓zz,seval])|(with_reducible first|refine And.intro ?_ ?_|(first|refine z01 ?_ ?_|refine z00 ?_ ?_)<;>intro hc<;>(try simp only [push_cast] at hc))|omega|with_reducible intro _));(try (first|(rw [hr,drop_at (by omega)];simp [z2t,z58, *];done)|(rw [hr,List.drop_of_length_le (by omega)];simp [z2t,z58, *];done)|(simp [z2t,z58, *];done)));done)|(first|(rw [hr,drop_at (by omega)];simp [z2t,z58, *];done)|(rw [hr,List.drop_of_length_le (by omega)];simp [z2t,z58, *];done)|(simp [z2t,z58, *];done)))
 all_goals (simp [z4h, *])
theorem zxc (t:Term) (i o n:Int) (hl:t.parts.length < 1000000000000):PC Tryz.prog 98 [z1q t,.int .i64 i,.int .i64 o,.int .i64 n] (.bool (z4h t i o n)):=by
 refine z0s ziq ?_
 unfold za2
 (repeat' (first|(simp (disch:=omega) only [push_cast,↓zz,seval])|(with_reducible first|refine And.intro ?_ ?_|(first|refine z01 ?_ ?_|refine z00 ?_ ?_)<;>intro hc<;>(try simp only [push_cast] at hc))|(have q_:=zei t hl;(with_reducible first|refine eK q_ ?_|refine eQ q_ ?_|refine eG q_ ?_);clear q_)|(have q_:=zei t hl;(with_reducible first|refine cK q_ ?_|refine cQ q_ ?_|refine cG q_ ?_);clear q_;(simp (disch:=omega) only [push_cast,↓zz,seval]);(fail_if_success (with_reducible change False)))|omega|with_reducible intro _))
 all_goals first
   | (simp [z4h,zm3, *];done)
   | ((have hn:z4h t i o n=(z2t i n t.parts && (decide (i ≠ 2) || decide ((t.parts.length:Int) ≤ 1)) && (decide (o ≠ 2) || zcg t)):=by simp [z4h,zm3,y45, *])
      rw [hn]
      refine z0f (z0g (fun (k:Nat)=>k ≤ t.parts.length∧z2t i n t.parts=z2t i n (t.parts.drop k)∧(i=2→k ≤ 1)) (fun k=>t.parts.length - k) (fun k=>[(1,.int .i64 i),(2,.int .i64 o),(3,.int .i64 n),(4,.ptr 0 1 0 0),(9,.int .i64 k)]) (fun _=>[⟨6,1,true,[z1q t]⟩]) (fun env _=>[z0k 0 (env 4)]) 0 (by simp) ?_ ?_)
      · (repeat' (first|(simp (disch:=omega) only [push_cast,↓zz,seval])|(with_reducible first|refine And.intro ?_ ?_|(first|refine z01 ?_ ?_|refine z00 ?_ ?_)<;>intro hc<;>(try simp only [push_cast] at hc))|omega|with_reducible intro _))
      rintro k ⟨hi,hr,hk⟩
      refine W_T ?_
      (repeat' (first|(simp (disch:=omega) only [push_cast,↓zz,seval])|(with_reducible first|refine And.intro ?_ ?_|(first|refine z01 ?_ ?_|refine z00 ?_ ?_)<;>intro hc<;>(try simp only [push_cast] at hc))|(have q_:=zef (nth t.parts k) n;(with_reducible first|refine eK q_ ?_|refine eQ q_ ?_|refine eG q_ ?_);clear q_)|(have q_:=zj3 (nth t.parts k);(with_reducible first|refine eK q_ ?_|refine eQ q_ ?_|refine eG q_ ?_);clear q_)|(have q_:=zm1 t;(with_reducible first|refine eK q_ ?_|refine eQ q_ ?_|refine eG q_ ?_);clear q_)|(have q_:=zef (nth t.parts k) n;(with_reducible first|refine cK q_ ?_|refine cQ q_ ?_|refine cG q_ ?_);clear q_;(simp (disch:=omega) only [push_cast,↓zz,seval]);(fail_if_success (with_reducible change False)))|(have q_:=zj3 (nth t.parts k);(with_reducible first|refine cK q_ ?_|refine cQ q_ ?_|refine cG q_ ?_);clear q_;(simp (disch:=omega) only [push_cast,↓zz,seval]);(fail_if_success (with_reducible change False)))|(have q_:=zm1 t;(with_reducible first|refine cK q_ ?_|refine cQ q_ ?_|refine cG q_ ?_);clear q_;(simp (disch:=omega) only [push_cast,↓zz,seval]);(fail_if_success (with_reducible change False)))|omega|with_reducible intro _))
      all_goals first
        | (first|(refine ⟨k + 1,?_⟩;(repeat' (first|(simp (disch:=omega) only [push_cast,↓zz,seval])|(with_reducible first|refine And.intro ?_ ?_|(first|refine z01 ?_ ?_|refine z00 ?_ ?_)<;>intro hc<;>(try simp only [push_cast] at hc))|omega|with_reducible intro _));(try (first|(rw [hr,drop_at (by omega)];simp [z2t, *];done)|(rw [hr,List.drop_of_length_le (by omega)];simp [z2t, *];done)|(simp [z2t, *];done)));done)|(first|(rw [hr,drop_at (by omega)];simp [z2t, *];done)|(rw [hr,List.drop_of_length_le (by omega)];simp [z2t, *];done)|(simp [z2t, *];done)))
        | ((have h2:¬ (t.parts.length:Int) ≤ 1:=by omega);simp [h2, *];done)
        | (rw [hr,List.drop_of_length_le (by omega)];(have h2:i=2→(t.parts.length:Int) ≤ 1:=by omega);by_cases h3:i=2<;>simp [z2t, *];done)
        )
theorem zoa (l:List Part) (hl:l.length ≤ 1000000000000):PC Tryz.prog 52 [z0x l] (z0x l):=by
 by_cases h0:l=[]
 · subst h0
   refine y3j ?_ ?_
   · refine z0s z2a ?_
     unfold z1m
     (repeat' (first|(simp (disch:=omega) only [push_cast,↓zz,seval])|(with_reducible first|refine And.intro ?_ ?_|(first|refine z01 ?_ ?_|refine z00 ?_ ?_)<;>intro hc<;>(try simp only [push_cast] at hc))|omega|with_reducible intro _))
   · refine z0s z2a ?_
     unfold z1m
     (repeat' (first|(simp (disch:=omega) only [push_cast,↓zz,seval])|(with_reducible first|refine And.intro ?_ ?_|(first|refine z01 ?_ ?_|refine z00 ?_ ?_)<;>intro hc<;>(try simp only [push_cast] at hc))|omega|with_reducible intro _))
 · refine z0s z2a ?_
   unfold z1m
   (repeat' (first|(simp (disch:=omega) only [push_cast,↓zz,seval,h0])|(with_reducible first|refine And.intro ?_ ?_|(first|refine z01 ?_ ?_|refine z00 ?_ ?_)<;>intro hc<;>(try simp only [push_cast] at hc))|omega|with_reducible intro _))
theorem zxd (a x:Int):PC Tryz.prog 50 [.int .i64 a,.int .i64 x] (z1q ⟨0,0,21,0,x,[⟨a,0,21,0⟩]⟩):=by
 refine z0s znp ?_
 unfold zdu
 (repeat' (first|(simp (disch:=omega) only [push_cast,↓zz,seval])|(with_reducible first|refine And.intro ?_ ?_|(first|refine z01 ?_ ?_|refine z00 ?_ ?_)<;>intro hc<;>(try simp only [push_cast] at hc))|(have q_:=z5g a;(with_reducible first|refine eK q_ ?_|refine eQ q_ ?_|refine eG q_ ?_);clear q_)|(have q_:=z5g a;(with_reducible first|refine cK q_ ?_|refine cQ q_ ?_|refine cG q_ ?_);clear q_;(simp (disch:=omega) only [push_cast,↓zz,seval]);(fail_if_success (with_reducible change False)))|omega|with_reducible intro _))
 all_goals trace_state
def sumP (w:List Int):List Part→Int→Option Int
 | [],a=>some a
 | p :: l,a=>if z2y p w.length then sumP w l (IntKind.i64.wrap (a + val1 p (nth w p.at_.toNat))) else none
def symB (x:Int):Bool:=decide (0 ≤ x∧x ≤ 1114111)
def z73 (t:Term) (w:List Int):Option Int :=
 if w.all symB then
   match sumP w t.parts t.sum with
   | some x=>if valB t.outer x && decide (x ≤ 1114111) then some (IntKind.i64.wrap (t.base + valP t.outer x)) else none
   | none=>none
 else none
theorem z08 {p:Part} {n:Int} (h:z2y p n=true):0 ≤ p.at_∧p.at_ < n:=by
 simp only [z2y,Bool.and_eq_true,decide_eq_true_eq] at h
 exact h.1
theorem zxe {x:Int}:z1p x=true ↔ -1114111 ≤ x∧x ≤ 1114111:=by simp [z1p]
theorem z4a {x:Int} (h:z1p x=true):-1114111 ≤ x∧x ≤ 1114111:=zxe.1 h
end Go.Proofs.YticodgjinajkpaaGreat
namespace Go.Proofs.YticodgjinajkpaaGreat
open Abs
theorem zgu {l m:List Part} {k:Nat} (h1:k < l.length) (h2:k < m.length):decide (l.drop k=m.drop k)=(decide (nth l k=nth m k) && decide (l.drop (k + 1)=m.drop (k + 1))):=by
 rw [drop_at h1,drop_at h2]
 simp
theorem zob (p q:Part):(decide (p.at_=q.at_) && (decide (p.drop=q.drop) && (decide (p.take=q.take) && decide (p.up=q.up))))=decide (p=q):=by
 cases p;cases q;simp
theorem zqw (a b:Term) (hl:a.parts.length ≤ 1000000000000):PC Tryz.prog 57 [z1q a,z1q b] (.bool (decide (a=b))):=by
 refine z0s zlg ?_
 unfold zbu
 (repeat' (first|(simp (disch:=omega) only [push_cast,↓zz,seval])|(with_reducible first|refine And.intro ?_ ?_|(first|refine z01 ?_ ?_|refine z00 ?_ ?_)<;>intro hc<;>(try simp only [push_cast] at hc))|omega|with_reducible intro _))
 all_goals first
   | (have:a ≠ b:=by intro h;subst h;first|omega|simp_all
      simp [this];done)
   | skip
 have hab:decide (a=b)=decide (a.parts=b.parts):=by cases a;cases b;simp_all
 rw [hab]
 refine z0f (z0g (fun (k:Nat)=>k ≤ a.parts.length∧decide (a.parts=b.parts)=decide (a.parts.drop k=b.parts.drop k)) (fun k=>a.parts.length - k)
   (fun k=>[(2,.ptr 0 1 0 0),(3,.ptr 1 1 0 0),(5,.int .i64 k)])
   (fun s=>[⟨6,1,true,[z1q a]⟩,⟨6,1,true,[z1q b]⟩])
   (fun env _=>[z0k 0 (env 2),z0k 0 (env 3)]) 0 (by simp) ?_ ?_)
 · (repeat' (first|(simp (disch:=omega) only [push_cast,↓zz,seval])|(with_reducible first|refine And.intro ?_ ?_|(first|refine z01 ?_ ?_|refine z00 ?_ ?_)<;>intro hc<;>(try simp only [push_cast] at hc))|omega|with_reducible intro _))
 rintro k ⟨hk,hr⟩
 refine W_T ?_
 (repeat' (first|(simp (disch:=omega) only [push_cast,↓zz,seval,zob])|(with_reducible first|refine And.intro ?_ ?_|(first|refine z01 ?_ ?_|refine z00 ?_ ?_)<;>intro hc<;>(try simp only [push_cast] at hc))|omega|with_reducible intro _))
 · rw [hr,zgu (by omega) (by omega)];simp [*]
 · refine ⟨k + 1,?_⟩
   (repeat' (first|(simp (disch:=omega) only [push_cast,↓zz,seval])|(with_reducible first|refine And.intro ?_ ?_|(first|refine z01 ?_ ?_|refine z00 ?_ ?_)<;>intro hc<;>(try simp only [push_cast] at hc))|omega|with_reducible intro _))
   rw [hr,zgu (by omega) (by omega)];simp [*]
 · rw [hr,List.drop_of_length_le (by omega),List.drop_of_length_le (by omega)];simp
abbrev wr (n:Int):Int:=IntKind.i64.wrap n
theorem zxf (n:Int):wr n=(n + 9223372036854775808) % 18446744073709551616 - 9223372036854775808:=by
 show IntKind.i64.wrap n=_
 rw [IntWalk.i64_left]
 unfold RowKit.wrap64
 rfl
theorem y7x {n:Int} (h:-9223372036854775808 ≤ n∧n ≤ 9223372036854775807):wr n=n:=by rw [zxf];omega
theorem wr_wr (a b:Int):wr (wr a + b)=wr (a + b):=by rw [zxf,zxf a,zxf (a + b)];omega
theorem wr_bd (a:Int):-9223372036854775808 ≤ wr a∧wr a ≤ 9223372036854775807:=by rw [zxf];omega
def totP (w:List Int):List Part→Int
 | []=>0
 | p :: l=>val1 p (nth w p.at_.toNat) + totP w l
def zb3 (w:List Int) (l:List Part):Bool:=l.all fun p=>z2y p w.length
theorem zxg (w:List Int):∀ (l:List Part) (a:Int),wr a=a→sumP w l a=if zb3 w l then some (wr (a + totP w l)) else none
 | [],a,h=>by simp [sumP,zb3,totP,h]
 | p :: l,a,h=>by
   rw [sumP]
   cases hp:z2y p w.length
   · simp [zb3,hp]
   · have ih:=zxg w l (wr (a + val1 p (nth w p.at_.toNat))) (by rw [y7x (wr_bd _)])
     rw [if_pos rfl]
     have e:wr (wr (a + val1 p (nth w p.at_.toNat)) + totP w l)=wr (a + totP w (p :: l)):=by rw [wr_wr,totP];congr 1;omega
     rw [e] at ih
     simp only [zb3,List.all_cons,hp,Bool.true_and] at ih ⊢
     exact ih
theorem zxh {p:Part} {x:Int} (h:z58 p=true) (hx:0 ≤ x∧x ≤ 2097151):z2s p=true∧valB p x=true∧valP p x=x:=by
 simp only [z58,decide_eq_true_eq] at h
 obtain ⟨h1,h2,h3⟩:=h
 have hb:z2s p=true:=by simp [z2s,h1,h2,h3]
 refine ⟨hb,(zb2 hb hx).1,?_⟩
 rw [valP,h1,h2,h3]
 show x / 2 ^ 0 % 2 ^ 21 * 2 ^ 0=x
 omega
end Go.Proofs.YticodgjinajkpaaGreat
namespace Go.Proofs.YticodgjinajkpaaGreat
open Abs Go.RowKit
abbrev shI:Sh:=.int .i64
abbrev zxi:Sh:=.sl true [shI,shI]
abbrev zj5:Sh:=.sl false [zxi]
abbrev zxj:Sh:=.sl true [shI,shI,shI,shI]
abbrev zxk:List Sh:=[shI,shI,shI,shI,shI,zxj]
abbrev zoc:Sh:=.sl true zxk
abbrev zxl:List Sh:=[shI,shI,zj5,shI,zoc]
abbrev zqx:List Sh:=[shI,zj5,zoc]
abbrev zod:List Sh:=[shI,shI,shI,shI,.sl true zxl,.sl true zqx]
theorem zb4 {α:Type} {agg:Bool} {fs:List Sh} {x:AV} (f:α→AV) (Q:α→Prop) (hp:∀ l:List α,z0p (l.map f)=true) (hpos:0 < fs.length)
   (he:∀ cs,IsL fs cs→∃ a,AV.le (if agg then .agg cs else cs.headD .any) (f a)∧Q a) (h:Is (.sl agg fs) x):∃ l:List α,AV.le x (.lst fs.length (l.map f))∧l.length ≤ maxLen∧∀ a ∈ l,Q a:=by
 rcases h with rfl|⟨xs,rfl,hl,hx⟩
 · exact ⟨[],AV.le_nilS hpos,Nat.zero_le _,fun _ h=>by cases h⟩
 · have key:∀ xs:List AV,(∀ y ∈ xs,∃ cs,y=(if agg then AV.agg cs else cs.headD .any)∧IsL fs cs)→∃ l:List α,l.length=xs.length∧leL xs (l.map f)∧∀ a ∈ l,Q a:=by
     intro xs
     induction xs with
     | nil=>intro _;exact ⟨[],rfl,z56,fun _ h=>by cases h⟩
     | cons y r ih =>
       intro hy
       obtain ⟨l,h1,h2,h3⟩:=ih fun z hz=>hy z (List.mem_cons_of_mem _ hz)
       obtain ⟨cs,rfl,hcs⟩:=hy y (List.mem_cons_self ..)
       obtain ⟨a,h4,h5⟩:=he cs hcs
       refine ⟨a :: l,by simp [h1],z0r h4 h2,fun b hb=>?_⟩
       rcases List.mem_cons.1 hb with rfl|hb
       · exact h5
       · exact h3 b hb
   obtain ⟨l,h1,h2,h3⟩:=key xs hx
   exact ⟨l,AV.le_lst (by simp [h1]) (hp l) h2,by rw [h1];exact hl,h3⟩
def i64s (l:List Int):Prop:=∀ n ∈ l,(Lit.int .i64 n).wf=true
def zgv (s:Span):Prop:=i64s [s.lo,s.hi]
theorem y1x {x:AV} (h:Is zxi x):∃ l:List Span,AV.le x (z03 l)∧l.length ≤ maxLen∧∀ s ∈ l,zgv s :=
 zb4 z1g zgv z2b (by decide) (fun cs h=>by
   obtain ⟨_,_,rfl,⟨a,rfl,ha⟩,_,_,rfl,⟨b,rfl,hb⟩,rfl⟩:=h
   exact ⟨⟨a,b⟩,AV.le_refl _,by simp [zgv,i64s,ha,hb]⟩) h
theorem zm4 {x:AV} (h:Is zj5 x):∃ l:List (List Span),AV.le x (z0b l)∧l.length ≤ maxLen∧∀ g ∈ l,g.length ≤ maxLen∧∀ s ∈ g,zgv s :=
 zb4 z03 (fun g=>g.length ≤ maxLen∧∀ s ∈ g,zgv s) z05 (by decide) (fun cs h=>by
   obtain ⟨c,_,rfl,hc,_⟩:=h
   obtain ⟨l,h1,h2,h3⟩:=y1x hc
   exact ⟨l,h1,h2,h3⟩) h
def zqy (p:Part):Prop:=i64s [p.at_,p.drop,p.take,p.up]
theorem y1y {x:AV} (h:Is zxj x):∃ l:List Part,AV.le x (z0x l)∧l.length ≤ maxLen∧∀ s ∈ l,zqy s :=
 zb4 z1v zqy z67 (by decide) (fun cs h=>by
   obtain ⟨_,_,rfl,⟨a,rfl,ha⟩,_,_,rfl,⟨b,rfl,hb⟩,_,_,rfl,⟨c,rfl,hc⟩,_,_,rfl,⟨d,rfl,hd⟩,rfl⟩:=h
   exact ⟨⟨a,b,c,d⟩,AV.le_refl _,by simp [zqy,i64s,ha,hb,hc,hd]⟩) h
def zqz (t:Term):Prop:=i64s [t.base,t.drop,t.take,t.up,t.sum]∧t.parts.length ≤ maxLen∧∀ p ∈ t.parts,zqy p
theorem y1z {cs:List AV} (h:IsL zxk cs):∃ t:Term,AV.le (.agg cs) (z1q t)∧zqz t:=by
 obtain ⟨_,_,rfl,⟨a,rfl,ha⟩,_,_,rfl,⟨b,rfl,hb⟩,_,_,rfl,⟨c,rfl,hc⟩,_,_,rfl,⟨d,rfl,hd⟩,_,_,rfl,⟨e,rfl,he⟩,x,_,rfl,hx,rfl⟩:=h
 obtain ⟨l,h1,h2,h3⟩:=y1y hx
 exact ⟨⟨a,b,c,d,e,l⟩,AV.le_agg (z0r (AV.le_refl _) (z0r (AV.le_refl _) (z0r (AV.le_refl _) (z0r (AV.le_refl _) (z0r (AV.le_refl _) (z0r h1 z56)))))),by simp [i64s,ha,hb,hc,hd,he],h2,h3⟩
theorem zr0 {x:AV} (h:Is zoc x):∃ l:List Term,AV.le x (z3n l)∧l.length ≤ maxLen∧∀ t ∈ l,zqz t :=
 zb4 z1q zqz z0w (by decide) (fun cs h=>by simpa using y1z h) h
def zr1 (g:List (List Span)):Prop:=g.length ≤ maxLen∧∀ l ∈ g,l.length ≤ maxLen∧∀ s ∈ l,zgv s
def zxm (l:List Term):Prop:=l.length ≤ maxLen∧∀ t ∈ l,zqz t
def zxn (r:Rule):Prop:=i64s [r.from_,r.to_,r.eat]∧zr1 r.guards∧zxm r.out
def zoe (f:z4u):Prop:=i64s [f.from_]∧zr1 f.guards∧zxm f.out
theorem y7y {cs:List AV} (h:IsL zxl cs):∃ r:Rule,AV.le (.agg cs) (z8n r)∧zxn r:=by
 obtain ⟨_,_,rfl,⟨a,rfl,ha⟩,_,_,rfl,⟨b,rfl,hb⟩,x,_,rfl,hx,_,_,rfl,⟨c,rfl,hc⟩,y,_,rfl,hy,rfl⟩:=h
 obtain ⟨g,g1,g2,g3⟩:=zm4 hx
 obtain ⟨o,o1,o2,o3⟩:=zr0 hy
 exact ⟨⟨a,b,g,c,o⟩,AV.le_agg (z0r (AV.le_refl _) (z0r (AV.le_refl _) (z0r g1 (z0r (AV.le_refl _) (z0r o1 z56))))),by simp [i64s,ha,hb,hc],⟨g2,g3⟩,o2,o3⟩
theorem y20 {cs:List AV} (h:IsL zqx cs):∃ r:z4u,AV.le (.agg cs) (z65 r)∧zoe r:=by
 obtain ⟨_,_,rfl,⟨a,rfl,ha⟩,x,_,rfl,hx,y,_,rfl,hy,rfl⟩:=h
 obtain ⟨g,g1,g2,g3⟩:=zm4 hx
 obtain ⟨o,o1,o2,o3⟩:=zr0 hy
 exact ⟨⟨a,g,o⟩,AV.le_agg (z0r (AV.le_refl _) (z0r g1 (z0r o1 z56))),by simp [i64s,ha],⟨g2,g3⟩,o2,o3⟩
def ybw (d:Desc):Prop:=i64s [d.in_,d.out,d.states,d.start]∧(d.rules.length ≤ maxLen∧∀ r ∈ d.rules,zxn r)∧d.finals.length ≤ maxLen∧∀ f ∈ d.finals,zoe f
theorem zxo {x:AV} (h:IsP (.rcd zod) x):∃ d:Desc,AV.le x (z1j d)∧ybw d:=by
 obtain ⟨_,rfl,_,_,rfl,⟨a,rfl,ha⟩,_,_,rfl,⟨b,rfl,hb⟩,_,_,rfl,⟨c,rfl,hc⟩,_,_,rfl,⟨e,rfl,he⟩,x,_,rfl,hx,y,_,rfl,hy,rfl⟩:=h
 obtain ⟨r,r1,r2,r3⟩:=zb4 z8n zxn z0v (by decide) (fun cs h=>by simpa using y7y h) hx
 obtain ⟨f,f1,f2,f3⟩:=zb4 z65 zoe z0t (by decide) (fun cs h=>by simpa using y20 h) hy
 exact ⟨⟨a,b,c,e,r,f⟩,AV.le_agg (z0r (AV.le_refl _) (z0r (AV.le_refl _) (z0r (AV.le_refl _) (z0r (AV.le_refl _) (z0r r1 (z0r f1 z56)))))),by simp [i64s,ha,hb,hc,he],⟨r2,r3⟩,f2,f3⟩
end Go.Proofs.YticodgjinajkpaaGreat
namespace Go.Proofs.YticodgjinajkpaaGreat
open Abs
theorem y21 {o:Option Int} (h:o.isSome=true):o=some (o.getD 0):=by cases o<;>simp_all
def z3z (r:Rule):Bool:=decide ((r.guards.length:Int)=0)
def toD (l:List Rule) (i:Nat):List Int:=(l.filter fun r=>z3z r && decide (r.from_=i)).map (·.to_)
def inD (l:List Rule) (j:Nat):Int:=((l.filter fun r=>z3z r && decide (r.to_=j)).length:Int)
def cntE (l:List Rule) (P:List Int) (j:Nat):Int:=((l.filter fun r=>z3z r && (decide (r.to_=j) && !decide (r.from_ ∈ P))).length:Int)
theorem zj6 (l:List Rule) (j:Nat):cntE l [] j=inD l j:=by simp [cntE,inD]
theorem y7z (l:List Rule) (P:List Int) (j:Nat):0 ≤ cntE l P j:=by simp only [cntE];omega
theorem y80 (l:List Rule) (P:List Int) (j:Nat):cntE l P j ≤ cntE l [] j:=by
 simp only [cntE]
 have:(l.filter fun r=>z3z r && (decide (r.to_=j) && !decide (r.from_ ∈ P))).length ≤ (l.filter fun r=>z3z r && (decide (r.to_=j) && !decide (r.from_ ∈ ([]:List Int)))).length:=by
   induction l with
   | nil=>simp
   | cons r l ih =>
     simp only [List.filter_cons]
     cases z3z r<;>cases decide (r.to_=(j:Int))<;>cases decide (r.from_ ∈ P)<;>simp at ih ⊢<;>omega
 omega
theorem zj7 {s j:Nat} {P:List Int} (hs:(s:Int) ∉ P):∀ l:List Rule,cntE l (P ++ [(s:Int)]) j + ((toD l s).count (j:Int):Int)=cntE l P j
 | []=>by simp [cntE,toD]
 | r :: l=>by
   have ih:=zj7 (j:=j) hs l
   simp only [cntE,toD,List.filter_cons] at ih ⊢
   cases he:z3z r
   · simpa using ih
   · simp only [Bool.true_and]
     by_cases ht:r.to_=j
     · by_cases hf:r.from_=s
       · have h1:r.from_ ∈ P ++ [(s:Int)]:=by simp [hf]
         have h2:r.from_ ∉ P:=by rw [hf];exact hs
         simp only [ht,hf] at h1 h2 ⊢
         simp only [decide_true,h1,h2,decide_false,Bool.not_true,Bool.not_false,Bool.and_false,Bool.and_true,if_true,Bool.false_eq_true,if_false,List.length_cons,List.map_cons,List.count_cons_self,ht]
         push_cast
         omega
       · have h1:(r.from_ ∈ P ++ [(s:Int)]) ↔ r.from_ ∈ P:=by simp [hf]
         by_cases h2:r.from_ ∈ P
         · simp only [ht,hf,h1,h2,decide_true,decide_false,Bool.not_true,Bool.and_false,Bool.false_eq_true,if_false]
           exact ih
         · simp only [ht,hf,h1,h2,decide_true,decide_false,Bool.not_false,Bool.and_true,if_true,Bool.false_eq_true,if_false,List.length_cons]
           push_cast
           omega
     · by_cases hf:r.from_=s
       · simp only [ht,hf,decide_false,decide_true,Bool.false_and,Bool.false_eq_true,if_false,if_true,List.map_cons]
         rw [List.count_cons_of_ne ht]
         exact ih
       · simp only [ht,hf,decide_false,Bool.false_and,Bool.false_eq_true,if_false]
         exact ih
theorem z88:∀ {a b:List Int},a.Nodup→(∀ x ∈ a,x ∈ b)→a.length ≤ b.length
 | [],b,_,_=>Nat.zero_le _
 | x :: a,b,hn,h=>by
   obtain ⟨h1,h2⟩:=List.nodup_cons.1 hn
   have hx:=h x (by simp)
   have:=z88 (a:=a) (b:=b.erase x) h2 fun y hy=>(List.mem_erase_of_ne (fun (e:y=x)=>h1 (by rw [← e];exact hy))).2 (h y (by simp [hy]))
   rw [List.length_erase_of_mem hx] at this
   have:=List.length_pos_of_mem hx
   simp only [List.length_cons]
   omega
def idsN (n:Nat):List Int:=(List.range n).map fun (i:Nat)=>(i:Int)
theorem zxp (n:Nat):(idsN n).Nodup:=by
 rw [idsN,List.nodup_iff_pairwise_ne,List.pairwise_map]
 exact (List.nodup_iff_pairwise_ne.1 (List.nodup_range)).imp fun h e=>h (by omega)
theorem zj8 {n:Nat} {x:Int}:x ∈ idsN n ↔ 0 ≤ x∧x < n:=by
 simp only [idsN,List.mem_map,List.mem_range]
 constructor
 · rintro ⟨i,hi,rfl⟩;omega
 · rintro ⟨h1,h2⟩;exact ⟨x.toNat,by omega,by omega⟩
def y46 (l:List Rule) (n:Nat) (C:Int→Prop):Prop:=∀ j,C j→(0 ≤ j∧j < n)∧∃ r ∈ l,z3z r=true∧r.to_=j∧C r.from_
def cycP (l:List Rule) (n:Nat):Prop:=∃ C,y46 l n C∧∃ j,C j
structure KInv (l:List Rule) (n:Nat) (D:List Int) (I:Nat→Int):Prop where
 nodup:D.Nodup
 range:∀ x ∈ D,0 ≤ x∧x < n
 zero:∀ j,j < n→((j:Int) ∈ D ↔ I j=0)
 apart:∀ C,y46 l n C→∀ x ∈ D,¬ C x
theorem KInv.len {l:List Rule} {n:Nat} {D:List Int} {I:Nat→Int} (h:KInv l n D I):D.length ≤ n:=by
 have:=z88 h.nodup fun x hx=>zj8.2 (h.range x hx)
 simpa [idsN] using this
def z99 (f:Nat→Int) (k:Nat):List Int:=((List.range k).filter fun j=>decide (f j=0)).map fun (j:Nat)=>(j:Int)
theorem zta (f:Nat→Int) (k:Nat):z99 f (k + 1)=if f k=0 then z99 f k ++ [(k:Int)] else z99 f k:=by
 rw [z99,List.range_succ,List.filter_append,List.map_append]
 split
 · rename_i h;simp [z99,h]
 · rename_i h;simp [z99,h]
theorem zxq (f:Nat→Int) (k:Nat):(z99 f k).length ≤ k:=by
 have:=List.length_filter_le (fun j=>decide (f j=0)) (List.range k)
 simpa [z99] using this
theorem y81 {l:List Rule} {r:Rule} {j:Nat} (hr:r ∈ l) (he:z3z r=true) (ht:r.to_=j):0 < inD l j:=by
 have:0 < (l.filter fun r=>z3z r && decide (r.to_=j)).length:=List.length_pos_of_mem (List.mem_filter.2 ⟨hr,by simp [he,ht]⟩)
 simp only [inD];omega
theorem y22 {l:List Rule} {P:List Int} {r:Rule} {j:Nat} (hr:r ∈ l) (he:z3z r=true) (ht:r.to_=j) (hf:r.from_ ∉ P):0 < cntE l P j:=by
 have:0 < (l.filter fun r=>z3z r && (decide (r.to_=j) && !decide (r.from_ ∈ P))).length:=List.length_pos_of_mem (List.mem_filter.2 ⟨hr,by simp [he,ht,hf]⟩)
 simp only [cntE];omega
theorem ztb (l:List Rule) (n:Nat):KInv l n (z99 (inD l) n) (cntE l []) where
 nodup:=by
   rw [z99,List.nodup_iff_pairwise_ne,List.pairwise_map]
   exact ((List.nodup_iff_pairwise_ne.1 (List.nodup_range)).filter _).imp fun h e=>h (by omega)
 range x hx:=by
   obtain ⟨i,hi,rfl⟩:=List.mem_map.1 hx
   have:=(List.mem_filter.1 hi).1
   simp at this
   omega
 zero j hj:=by
   rw [zj6]
   simp only [z99,List.mem_map,List.mem_filter,List.mem_range,decide_eq_true_eq]
   constructor
   · rintro ⟨i,⟨h1,h2⟩,e⟩
     obtain rfl:i=j:=by omega
     exact h2
   · intro h;exact ⟨j,⟨hj,h⟩,rfl⟩
 apart C hC x hx hCx:=by
   obtain ⟨i,hi,rfl⟩:=List.mem_map.1 hx
   have h0:=(List.mem_filter.1 hi).2
   simp only [decide_eq_true_eq] at h0
   obtain ⟨_,r,hr,he,ht,_⟩:=hC _ hCx
   have:=y81 hr he ht
   omega
def z4j (l:List Rule) (P:List Int) (s m:Nat) (j:Nat):Int:=cntE l P j - (((toD l s).take m).count (j:Int):Int)
theorem zgw (l:List Rule) (P:List Int) (s:Nat):z4j l P s 0=cntE l P:=by funext j;simp [z4j]
theorem zxr {l:List Rule} {P:List Int} {s:Nat} (hs:(s:Int) ∉ P):z4j l P s (toD l s).length=cntE l (P ++ [(s:Int)]):=by
 funext j
 have:=zj7 (j:=j) hs l
 rw [z4j,List.take_length]
 omega
theorem zr2 {l:List Rule} {P:List Int} {s m j:Nat} (hs:(s:Int) ∉ P):cntE l (P ++ [(s:Int)]) j ≤ z4j l P s m j:=by
 have h1:=zj7 (j:=j) hs l
 have h2:=(List.take_sublist m (toD l s)).count_le (j:Int)
 rw [z4j]
 omega
theorem zb5 {l:List Rule} {P:List Int} {s m t:Nat} (hm:m < (toD l s).length) (ht:nth (toD l s) m=t):z4j l P s (m + 1)=fun j=>if j=t then z4j l P s m t - 1 else z4j l P s m j:=by
 funext j
 rw [z4j,take_at hm,List.count_append,ht]
 by_cases e:j=t
 · subst e;simp [z4j];omega
 · have h0:List.count (j:Int) [(t:Int)]=0:=List.count_eq_zero.2 (by simp;omega)
   rw [if_neg e,h0,z4j];omega
theorem zm5 {l:List Rule} {P:List Int} {s m t:Nat} (hs:(s:Int) ∉ P) (hm:m < (toD l s).length) (ht:nth (toD l s) m=t):0 < z4j l P s m t:=by
 have h1:=zr2 (l:=l) (m:=m + 1) (j:=t) hs
 have h2:=y7z l (P ++ [(s:Int)]) t
 rw [zb5 hm ht] at h1
 simp only [if_true] at h1
 omega
theorem zxs {l:List Rule} {n:Nat} {P td:List Int} {s m t:Nat} (hs:(s:Int) ∉ P) (hm:m < (toD l s).length) (ht:nth (toD l s) m=t) (htn:t < n) (h:KInv l n (P ++ [(s:Int)] ++ td) (z4j l P s m)) :
   KInv l n (P ++ [(s:Int)] ++ if z4j l P s m t - 1=0 then td ++ [(t:Int)] else td) (z4j l P s (m + 1)):=by
 have hp:=zm5 hs hm ht
 have hno:(t:Int) ∉ P ++ [(s:Int)] ++ td:=fun hh=>by
   have:=(h.zero t htn).1 hh
   omega
 have hst:=zb5 (P:=P) hm ht
 split
 · rename_i h0
   rw [← List.append_assoc]
   refine ⟨List.nodup_append.2 ⟨h.nodup,by simp,fun a ha b hb=>?_⟩,fun x hx=>?_,fun j hj=>?_,fun C hC x hx hCx=>?_⟩
   · simp only [List.mem_singleton] at hb
     subst hb
     exact fun e=>hno (e ▸ ha)
   · rcases List.mem_append.1 hx with hx|hx
     · exact h.range x hx
     · simp only [List.mem_singleton] at hx;omega
   · rw [hst,List.mem_append,List.mem_singleton]
     by_cases e:j=t
     · subst e;simp [h0]
     · simp only [if_neg e]
       rw [← h.zero j hj]
       exact ⟨fun hh=>hh.elim id fun hh=>absurd hh (by omega),.inl⟩
   · rcases List.mem_append.1 hx with hx|hx
     · exact h.apart C hC x hx hCx
     · simp only [List.mem_singleton] at hx
       subst hx
       obtain ⟨_,r,hr,he,hrt,hrf⟩:=hC _ hCx
       have hf:r.from_ ∉ P ++ [(s:Int)]:=fun hh=>h.apart C hC _ (List.mem_append.2 (.inl hh)) hrf
       have h1:=y22 hr he hrt hf
       have h2:=zr2 (l:=l) (m:=m + 1) (j:=t) hs
       rw [hst] at h2
       simp only [if_true] at h2
       omega
 · rename_i h0
   refine ⟨h.nodup,h.range,fun j hj=>?_,h.apart⟩
   rw [hst]
   by_cases e:j=t
   · subst e;simp only [if_true];exact ⟨fun hh=>absurd hh hno,fun hh=>absurd hh h0⟩
   · simp only [if_neg e];exact h.zero j hj
theorem zxt {l:List Rule} {n:Nat} {P:List Int} (hl:∀ r ∈ l,0 ≤ r.from_∧r.from_ < n) (h:KInv l n P (cntE l P)):P.length < n ↔ cycP l n:=by
 constructor
 · intro hlt
   refine ⟨fun j=>(0 ≤ j∧j < n)∧j ∉ P,fun j hj=>⟨hj.1,?_⟩,?_⟩
   · have h0:cntE l P j.toNat ≠ 0:=fun h0=>hj.2 (by
       have:=(h.zero j.toNat (by omega)).2 h0
       rwa [show ((j.toNat:Nat):Int)=j by omega] at this)
     have:0 < (l.filter fun r=>z3z r && (decide (r.to_=(j.toNat:Nat)) && !decide (r.from_ ∈ P))).length:=by
       simp only [cntE] at h0;omega
     obtain ⟨r,hr⟩:=List.exists_mem_of_length_pos this
     obtain ⟨h1,h2⟩:=List.mem_filter.1 hr
     simp only [Bool.and_eq_true,decide_eq_true_eq,Bool.not_eq_true',decide_eq_false_iff_not] at h2
     exact ⟨r,h1,h2.1,by rw [h2.2.1];omega,hl r h1,h2.2.2⟩
   · refine Classical.byContradiction fun hno=>?_
     have:=z88 (zxp n) fun x hx=>Classical.byContradiction fun hp=>hno ⟨x,zj8.1 hx,hp⟩
     simp [idsN] at this
     omega
 · rintro ⟨C,hC,j,hj⟩
   have hr:=(hC j hj).1
   have hjP:j ∉ P:=fun hh=>h.apart C hC j hh hj
   have:=z88 (a:=j :: P) (b:=idsN n) (List.nodup_cons.2 ⟨hjP,h.nodup⟩) fun x hx=>by
     rcases List.mem_cons.1 hx with rfl|hx
     · exact zj8.2 hr
     · exact zj8.2 (h.range x hx)
   simp [idsN] at this
   omega
def onF (l:List Rule) (on:Nat→Bool) (j:Nat):Bool:=l.any fun r=>z3z r && (on r.from_.toNat && decide (r.to_=j))
def onK (l:List Rule):Nat→Nat→Bool
 | 0=>fun _=>true
 | k + 1=>onF l (onK l k)
def zb6 (l:List Rule) (on:Nat→Bool):Bool:=l.any fun r=>z3z r && on r.from_.toNat
def cycR (l:List Rule) (n:Nat):Bool:=(List.range (n + 1)).all fun k=>zb6 l (onK l k)
theorem y23 {l:List Rule} {p q:Nat→Bool} (h:∀ j,p j=true→q j=true) (j:Nat):onF l p j=true→onF l q j=true:=by
 simp only [onF,List.any_eq_true,Bool.and_eq_true,decide_eq_true_eq]
 rintro ⟨r,hr,h1,h2,h3⟩
 exact ⟨r,hr,h1,h _ h2,h3⟩
theorem zr3 (l:List Rule):∀ (k j:Nat),onK l (k + 1) j=true→onK l k j=true
 | 0,j,_=>rfl
 | k + 1,j,h=>y23 (fun j=>zr3 l k j) j h
theorem filter_lt {p q:Nat→Bool} (h:∀ j,p j=true→q j=true):∀ {l:List Nat} {x:Nat},x ∈ l→q x=true→p x=false→(l.filter p).length < (l.filter q).length
 | [],_,hx,_,_=>by cases hx
 | y :: l,x,hx,hq,hp=>by
   have hle:∀ l:List Nat,(l.filter p).length ≤ (l.filter q).length:=fun l=>by
     induction l with
     | nil=>simp
     | cons a l ih =>
       simp only [List.filter_cons]
       have:=h a
       cases hpa:p a<;>cases hqa:q a<;>simp_all<;>omega
   simp only [List.filter_cons]
   rcases List.mem_cons.1 hx with rfl|hx
   · have:=hle l
     simp only [hp,hq,Bool.false_eq_true,if_false,if_true,List.length_cons]
     omega
   · have ih:=filter_lt h hx hq hp
     have:=h y
     cases hpa:p y<;>cases hqa:q y<;>simp_all<;>omega
theorem y24 {l:List Rule} {n:Nat} (hl:∀ r ∈ l,(0 ≤ r.from_∧r.from_ < n)∧0 ≤ r.to_∧r.to_ < n):cycR l n=true ↔ cycP l n:=by
 rw [cycR,List.all_eq_true]
 constructor
 · intro h
   have hex:∃ k,k ≤ n∧∀ j,j < n→onK l k j=true→onK l (k + 1) j=true:=by
     refine Classical.byContradiction fun hno=>?_
     have hstep:∀ k,k ≤ n→∃ j,j < n∧onK l k j=true∧onK l (k + 1) j=false:=fun k hk=>Classical.byContradiction fun hc=>hno ⟨k,hk,fun j hj h1=>by
       cases h2:onK l (k + 1) j
       · exact absurd ⟨j,hj,h1,h2⟩ hc
       · rfl⟩
     have key:∀ k,k ≤ n + 1→((List.range n).filter (onK l k)).length + k ≤ n:=fun k=>by
       induction k with
       | zero =>
         intro _
         have:=List.length_filter_le (onK l 0) (List.range n)
         simpa using this
       | succ k ih =>
         intro hk
         obtain ⟨j,hj,h1,h2⟩:=hstep k (by omega)
         have:=filter_lt (fun j=>zr3 l k j) (List.mem_range.2 hj) h1 h2
         have:=ih (by omega)
         omega
     have:=key (n + 1) (Nat.le_refl _)
     omega
   obtain ⟨k,hk,hs⟩:=hex
   refine ⟨fun j=>0 ≤ j∧j < n∧onK l k j.toNat=true,fun j hj=>⟨⟨hj.1,hj.2.1⟩,?_⟩,?_⟩
   · have h1:=hs j.toNat (by omega) hj.2.2
     simp only [onK,onF,List.any_eq_true,Bool.and_eq_true,decide_eq_true_eq] at h1
     obtain ⟨r,hr,he,hf,ht⟩:=h1
     have hb:=hl r hr
     exact ⟨r,hr,he,by omega,by omega,by omega,hf⟩
   · have h1:=h k (by simp;omega)
     simp only [zb6,List.any_eq_true,Bool.and_eq_true] at h1
     obtain ⟨r,hr,_,hf⟩:=h1
     have hb:=hl r hr
     exact ⟨r.from_,by omega,by omega,hf⟩
 · rintro ⟨C,hC,j,hj⟩ k _
   have key:∀ k i,C i→onK l k i.toNat=true:=fun k=>by
     induction k with
     | zero=>exact fun _ _=>rfl
     | succ k ih =>
       intro i hi
       obtain ⟨h1,r,hr,he,ht,hf⟩:=hC i hi
       simp only [onK,onF,List.any_eq_true,Bool.and_eq_true,decide_eq_true_eq]
       exact ⟨r,hr,he,ih _ hf,by omega⟩
   obtain ⟨_,r,hr,he,_,hf⟩:=hC j hj
   simp only [zb6,List.any_eq_true,Bool.and_eq_true]
   exact ⟨r,hr,he,key k _ hf⟩
end Go.Proofs.YticodgjinajkpaaGreat
