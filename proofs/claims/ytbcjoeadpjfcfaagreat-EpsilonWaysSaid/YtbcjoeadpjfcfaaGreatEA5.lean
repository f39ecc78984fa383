/-
  Parts of the proof that the law holds whatever the input; without conditions.
-/
import Derived.LoopNIn
import Derived.Test.YtbcjoeadpjfcfaaGreatEA4
import Derived.Test.YtbcjoeadpjfcfaaGreatEA3
import Derived.Test.YtbcjoeadpjfcfaaGreatEA2
set_option linter.unusedSimpArgs false
set_option linter.unusedVariables false
namespace Go.Proofs.YtbcjoeadpjfcfaaGreat
open Abs
abbrev Term.outer (t:Term):Part:=⟨0,t.drop,t.take,t.up⟩
theorem He (t:Term):PC Tryz.prog 137 [Bo t] (Ca t.outer):=by
 refine A9 Zi ?_;unfold Oe;(with_reducible repeat' (first|(simp(disch:=omega)only[push_cast,↓zz,seval])|refine And.intro ?_ ?_|(first|refine Ab ?_ ?_|refine Aa ?_ ?_)<;>intro hc<;>(try simp only[push_cast] at hc)|omega|intro _))
theorem Mk (t:Term):PC Tryz.prog 143 [Bo t] (Ca t.outer):=by
 refine A9 Wc ?_;unfold L9;(with_reducible repeat' (first|(simp(disch:=omega)only[push_cast,↓zz,seval])|refine And.intro ?_ ?_|(first|refine Ab ?_ ?_|refine Aa ?_ ?_)<;>intro hc<;>(try simp only[push_cast] at hc)|omega|intro _))
def Ov (t:Term):Bool:=decide (t.base=0∧t.drop=0∧t.take=21∧t.up=0)
def Fw (p:Part):Bool:=decide (p.drop=0∧p.take=21∧p.up=0)
theorem Ws (p:Part):PC Tryz.prog 170 [Ca p] (.bool (Fw p)):=by
 refine A9 z2k ?_;unfold Qu;(with_reducible repeat' (first|(simp(disch:=omega)only[push_cast,↓zz,seval])|refine And.intro ?_ ?_|(first|refine Ab ?_ ?_|refine Aa ?_ ?_)<;>intro hc<;>(try simp only[push_cast] at hc)|omega|intro _))
 all_goals (unfold Fw;first|(refine Yu ?_;omega)|(refine Yv ?_;omega)|(refine M5 ?_;omega))
theorem Zv (t:Term):PC Tryz.prog 171 [Bo t] (.bool (Ov t)):=by
 refine A9 Wh ?_;unfold Md;(with_reducible repeat' (first|(simp(disch:=omega)only[push_cast,↓zz,seval])|refine And.intro ?_ ?_|(first|refine Ab ?_ ?_|refine Aa ?_ ?_)<;>intro hc<;>(try simp only[push_cast] at hc)|(have q_:=Mk t;(first|refine eK q_ ?_|refine eQ q_ ?_|refine eG q_ ?_);clear q_)|(have q_:=Ws t.outer;(first|refine eK q_ ?_|refine eQ q_ ?_|refine eG q_ ?_);clear q_)|(have q_:=Mk t;(first|refine cK q_ ?_|refine cQ q_ ?_|refine cG q_ ?_);clear q_;(simp(disch:=omega)only[push_cast,↓zz,seval]);(fail_if_success change False))|(have q_:=Ws t.outer;(first|refine cK q_ ?_|refine cQ q_ ?_|refine cG q_ ?_);clear q_;(simp(disch:=omega)only[push_cast,↓zz,seval]);(fail_if_success change False))|omega|intro _))
 all_goals (simp[Ov,Fw,Term.outer, *])
theorem T7 (t:Term):PC Tryz.prog 184 [Bo t] (.bool (Ov t)):=by
 refine A9 Zq ?_;unfold On;(with_reducible repeat' (first|(simp(disch:=omega)only[push_cast,↓zz,seval])|refine And.intro ?_ ?_|(first|refine Ab ?_ ?_|refine Aa ?_ ?_)<;>intro hc<;>(try simp only[push_cast] at hc)|(have q_:=He t;(first|refine eK q_ ?_|refine eQ q_ ?_|refine eG q_ ?_);clear q_)|(have q_:=J1 0;(first|refine eK q_ ?_|refine eQ q_ ?_|refine eG q_ ?_);clear q_)|(have q_:=He t;(first|refine cK q_ ?_|refine cQ q_ ?_|refine cG q_ ?_);clear q_;(simp(disch:=omega)only[push_cast,↓zz,seval]);(fail_if_success change False))|(have q_:=J1 0;(first|refine cK q_ ?_|refine cQ q_ ?_|refine cG q_ ?_);clear q_;(simp(disch:=omega)only[push_cast,↓zz,seval]);(fail_if_success change False))|omega|intro _))
 all_goals (simp[Ov,Fw,Term.outer, *])
def B3 (x:Int):Bool:=decide (-1114111≤x∧x≤1114111)
theorem J4 (x:Int):PC Tryz.prog 193 [.int .i64 x] (.bool (B3 x)):=by
 refine A9 Zs ?_;unfold Or;(with_reducible repeat' (first|(simp(disch:=omega)only[push_cast,↓zz,seval])|refine And.intro ?_ ?_|(first|refine Ab ?_ ?_|refine Aa ?_ ?_)<;>intro hc<;>(try simp only[push_cast] at hc)|omega|intro _))
 all_goals (unfold B3;first|(refine Yu ?_;omega)|(refine Yv ?_;omega)|(refine M5 ?_;omega))
theorem Ml (x:Int):PC Tryz.prog 188 [.int .i64 x] (.bool (B3 x)):=by
 refine A9 Wj ?_;unfold Mf;(with_reducible repeat' (first|(simp(disch:=omega)only[push_cast,↓zz,seval])|refine And.intro ?_ ?_|(first|refine Ab ?_ ?_|refine Aa ?_ ?_)<;>intro hc<;>(try simp only[push_cast] at hc)|omega|intro _))
 all_goals (unfold B3;first|(refine Yu ?_;omega)|(refine Yv ?_;omega)|(refine M5 ?_;omega))
def I5:List Part→Bool
 | p::q::l=>decide (p.up<q.up)&&I5 (q::l)
 | _=>true
theorem Mm:∀ {l:List Part} {i:Nat},i+1<l.length→I5 (l.drop i)=(decide ((nth l i).up<(nth l (i+1)).up)&&I5 (l.drop (i+1)))
 | [],i,h=>by simp at h
 | [p],i,h=>by simp at h
 | p::q::l,0,_=>rfl
 | p::q::l,i+1,h=>by
   exact Mm (l:=q::l) (i:=i) (by simpa using h)
theorem Zw {l:List Part} {i:Nat} (h:l.length≤i+1):I5 (l.drop i)=true:=by
 match hl:l.drop i with
 | []=>rfl
 | [p]=>rfl
 | p::q::r=>have:=congrArg List.length hl;simp at this;omega
theorem Q8 (l:List Part) (hl:l.length<1000000000000):PC Tryz.prog 194 [Bf l] (.bool (I5 l&&decide (l.length≤4))):=by
 refine A9 Wl ?_;unfold Mg;(with_reducible repeat' (first|(simp(disch:=omega)only[push_cast,↓zz,seval])|refine And.intro ?_ ?_|(first|refine Ab ?_ ?_|refine Aa ?_ ?_)<;>intro hc<;>(try simp only[push_cast] at hc)|omega|intro _));refine An (Ap (fun (i:Nat)=>i≤l.length∧I5 l=I5 (l.drop (i-1))) (fun i=>l.length-i) (fun i=>[(0,Bf l),(5,Bf l),(6,.int .i64 l.length),(7,.int .i64 i)]) (fun _=>[]) (fun _ _=>[]) 0 (by simp) ?_ ?_)
 · (with_reducible repeat' (first|(simp(disch:=omega)only[push_cast,↓zz,seval])|refine And.intro ?_ ?_|(first|refine Ab ?_ ?_|refine Aa ?_ ?_)<;>intro hc<;>(try simp only[push_cast] at hc)|omega|intro _))
 rintro i ⟨hi,hr⟩;refine W_T ?_;(with_reducible repeat' (first|(simp(disch:=omega)only[push_cast,↓zz,seval])|refine And.intro ?_ ?_|(first|refine Ab ?_ ?_|refine Aa ?_ ?_)<;>intro hc<;>(try simp only[push_cast] at hc)|omega|intro _))
 · rename_i h1 h2
   rw[hr,Mm (i:=i-1) (by omega),show i-1+1=i by omega];have:¬(nth l (i-1)).up<(nth l i).up:=by omega
   simp[this]
 · refine⟨i+1,?_⟩
   (with_reducible repeat' (first|(simp(disch:=omega)only[push_cast,↓zz,seval])|refine And.intro ?_ ?_|(first|refine Ab ?_ ?_|refine Aa ?_ ?_)<;>intro hc<;>(try simp only[push_cast] at hc)|omega|intro _));rw[hr,Mm (i:=i-1) (by omega),show i-1+1=i by omega];have:(nth l (i-1)).up<(nth l i).up:=by omega
   simp[this]
 · refine⟨i+1,?_⟩
   (with_reducible repeat' (first|(simp(disch:=omega)only[push_cast,↓zz,seval])|refine And.intro ?_ ?_|(first|refine Ab ?_ ?_|refine Aa ?_ ?_)<;>intro hc<;>(try simp only[push_cast] at hc)|omega|intro _));obtain rfl:i=0:=by omega
   exact hr
 · rw[hr,Zw (i:=i-1) (by omega),Bool.true_and]
   exact M5 (by omega)
def B4 (t:Term):Bool:=B3 t.base&&B3 t.sum&&C6 t.outer&&(I5 t.parts&&decide (t.parts.length≤4))
theorem z2x (t:Term):Dk t.outer 1=C6 t.outer:=by simp[Dk]
theorem Q9 (t:Term):PC Tryz.prog 135 [Ca t.outer,.int .i64 1] (.bool (C6 t.outer)):=by rw[←z2x];exact J3 t.outer 1
theorem I6 (t:Term) (hl:t.parts.length<1000000000000):PC Tryz.prog 183 [Bo t] (.bool (B4 t)):=by
 refine A9 Sz ?_;unfold Kv;(with_reducible repeat' (first|(simp(disch:=omega)only[push_cast,↓zz,seval])|refine And.intro ?_ ?_|(first|refine Ab ?_ ?_|refine Aa ?_ ?_)<;>intro hc<;>(try simp only[push_cast] at hc)|(have q_:=J4 t.base;(first|refine eK q_ ?_|refine eQ q_ ?_|refine eG q_ ?_);clear q_)|(have q_:=J4 t.sum;(first|refine eK q_ ?_|refine eQ q_ ?_|refine eG q_ ?_);clear q_)|(have q_:=He t;(first|refine eK q_ ?_|refine eQ q_ ?_|refine eG q_ ?_);clear q_)|(have q_:=Q9 t;(first|refine eK q_ ?_|refine eQ q_ ?_|refine eG q_ ?_);clear q_)|(have q_:=Q8 t.parts hl;(first|refine eK q_ ?_|refine eQ q_ ?_|refine eG q_ ?_);clear q_)|(have q_:=J4 t.base;(first|refine cK q_ ?_|refine cQ q_ ?_|refine cG q_ ?_);clear q_;(simp(disch:=omega)only[push_cast,↓zz,seval]);(fail_if_success change False))|(have q_:=J4 t.sum;(first|refine cK q_ ?_|refine cQ q_ ?_|refine cG q_ ?_);clear q_;(simp(disch:=omega)only[push_cast,↓zz,seval]);(fail_if_success change False))|(have q_:=He t;(first|refine cK q_ ?_|refine cQ q_ ?_|refine cG q_ ?_);clear q_;(simp(disch:=omega)only[push_cast,↓zz,seval]);(fail_if_success change False))|(have q_:=Q9 t;(first|refine cK q_ ?_|refine cQ q_ ?_|refine cG q_ ?_);clear q_;(simp(disch:=omega)only[push_cast,↓zz,seval]);(fail_if_success change False))|(have q_:=Q8 t.parts hl;(first|refine cK q_ ?_|refine cQ q_ ?_|refine cG q_ ?_);clear q_;(simp(disch:=omega)only[push_cast,↓zz,seval]);(fail_if_success change False))|omega|intro _))
 all_goals (simp[B4, *])
theorem Ra (t:Term) (hl:t.parts.length<1000000000000):PC Tryz.prog 169 [Bo t] (.bool (B4 t)):=by
 refine A9 Qt ?_;unfold I1;(with_reducible repeat' (first|(simp(disch:=omega)only[push_cast,↓zz,seval])|refine And.intro ?_ ?_|(first|refine Ab ?_ ?_|refine Aa ?_ ?_)<;>intro hc<;>(try simp only[push_cast] at hc)|(have q_:=Ml t.base;(first|refine eK q_ ?_|refine eQ q_ ?_|refine eG q_ ?_);clear q_)|(have q_:=Ml t.sum;(first|refine eK q_ ?_|refine eQ q_ ?_|refine eG q_ ?_);clear q_)|(have q_:=Mk t;(first|refine eK q_ ?_|refine eQ q_ ?_|refine eG q_ ?_);clear q_)|(have q_:=J2 t.outer;(first|refine eK q_ ?_|refine eQ q_ ?_|refine eG q_ ?_);clear q_)|(have q_:=Ml t.base;(first|refine cK q_ ?_|refine cQ q_ ?_|refine cG q_ ?_);clear q_;(simp(disch:=omega)only[push_cast,↓zz,seval]);(fail_if_success change False))|(have q_:=Ml t.sum;(first|refine cK q_ ?_|refine cQ q_ ?_|refine cG q_ ?_);clear q_;(simp(disch:=omega)only[push_cast,↓zz,seval]);(fail_if_success change False))|(have q_:=Mk t;(first|refine cK q_ ?_|refine cQ q_ ?_|refine cG q_ ?_);clear q_;(simp(disch:=omega)only[push_cast,↓zz,seval]);(fail_if_success change False))|(have q_:=J2 t.outer;(first|refine cK q_ ?_|refine cQ q_ ?_|refine cG q_ ?_);clear q_;(simp(disch:=omega)only[push_cast,↓zz,seval]);(fail_if_success change False))|omega|intro _))
 · have:¬t.parts.length≤4:=by omega
   simp[B4,this]
 · have hn:B4 t=I5 t.parts:=by
     have:t.parts.length≤4:=by omega
     simp[B4, *]
   rw[hn];refine An (Ap (fun (i:Nat)=>i≤t.parts.length∧I5 t.parts=I5 (t.parts.drop i)) (fun i=>t.parts.length-i) (fun i=>[(1,.ptr 0 1 0 0),(3,.int .i64 (i+1))]) (fun _=>[⟨6,1,true,[Bo t]⟩]) (fun env _=>[A5 0 (env 1)]) 0 (by simp) ?_ ?_)
   · (with_reducible repeat' (first|(simp(disch:=omega)only[push_cast,↓zz,seval])|refine And.intro ?_ ?_|(first|refine Ab ?_ ?_|refine Aa ?_ ?_)<;>intro hc<;>(try simp only[push_cast] at hc)|omega|intro _))
   rintro i ⟨hi,hr⟩;refine W_T ?_;(with_reducible repeat' (first|(simp(disch:=omega)only[push_cast,↓zz,seval])|refine And.intro ?_ ?_|(first|refine Ab ?_ ?_|refine Aa ?_ ?_)<;>intro hc<;>(try simp only[push_cast] at hc)|omega|intro _))
   · rw[hr,Mm (i:=i) (by omega)]
     have:¬(nth t.parts i).up<(nth t.parts (i+1)).up:=by omega
     simp[this]
   · refine⟨i+1,?_⟩
     (with_reducible repeat' (first|(simp(disch:=omega)only[push_cast,↓zz,seval])|refine And.intro ?_ ?_|(first|refine Ab ?_ ?_|refine Aa ?_ ?_)<;>intro hc<;>(try simp only[push_cast] at hc)|omega|intro _));rw[hr,Mm (i:=i) (by omega)];have:(nth t.parts i).up<(nth t.parts (i+1)).up:=by omega
     simp[this]
   · rw[hr,Zw (i:=i) (by omega)]
 all_goals (simp[B4, *])
def Zx (s:Int):Bool:=decide (s=1∨s=2)
def Cx (i n:Int) (l:List Part):Bool:=l.all fun p=>Dk p n&&(decide (i≠2)||Fw p)
def Ep (t:Term) (i o n:Int):Bool:=Zx i&&Zx o&&B4 t&&Cx i n t.parts&&(decide (i≠2)||decide (t.parts.length≤1))&&(decide (o≠2)||Ov t)
theorem Wt (s:Int):decide (((domL s).length:Int)=0)=!Zx s:=by
 unfold domL Zx;split
 · subst_vars;decide
 · split
   · subst_vars;decide
   · simp[*]
theorem zl5 (l:List Part):(l.length≤1)=((l.length:Int)≤1):=by simp only[eq_iff_iff];omega
theorem z9j (t:Term) (i o n:Int) (hl:t.parts.length<1000000000000):PC Tryz.prog 166 [Bo t,.int .i64 i,.int .i64 o,.int .i64 n] (.bool (Ep t i o n)):=by
 refine A9 Zm ?_;unfold Oi;(with_reducible repeat' (first|(simp(disch:=omega)only[push_cast,↓zz,seval,Wt])|refine And.intro ?_ ?_|(first|refine Ab ?_ ?_|refine Aa ?_ ?_)<;>intro hc<;>(try simp only[push_cast] at hc)|(have q_:=D7 i;(first|refine eK q_ ?_|refine eQ q_ ?_|refine eG q_ ?_);clear q_)|(have q_:=D7 o;(first|refine eK q_ ?_|refine eQ q_ ?_|refine eG q_ ?_);clear q_)|(have q_:=I6 t hl;(first|refine eK q_ ?_|refine eQ q_ ?_|refine eG q_ ?_);clear q_)|(have q_:=D7 i;(first|refine cK q_ ?_|refine cQ q_ ?_|refine cG q_ ?_);clear q_;(simp(disch:=omega)only[push_cast,↓zz,seval,Wt]);(fail_if_success change False))|(have q_:=D7 o;(first|refine cK q_ ?_|refine cQ q_ ?_|refine cG q_ ?_);clear q_;(simp(disch:=omega)only[push_cast,↓zz,seval,Wt]);(fail_if_success change False))|(have q_:=I6 t hl;(first|refine cK q_ ?_|refine cQ q_ ?_|refine cG q_ ?_);clear q_;(simp(disch:=omega)only[push_cast,↓zz,seval,Wt]);(fail_if_success change False))|omega|intro _))
 · simp[Ep, *]
 · have hn:Ep t i o n=(Cx i n t.parts&&(decide (i≠2)||decide ((t.parts.length:Int)≤1))&&(decide (o≠2)||Ov t)):=by simp[Ep,zl5, *]
   rw[hn];refine An (Ap (fun (k:Nat)=>k≤t.parts.length∧Cx i n t.parts=Cx i n (t.parts.drop k)) (fun k=>t.parts.length-k) (fun k=>[(1,.int .i64 i),(2,.int .i64 o),(3,.int .i64 n),(4,.ptr 0 1 0 0),(27,Bf t.parts),(28,.int .i64 t.parts.length),(29,.int .i64 k)]) (fun _=>[⟨6,1,true,[Bo t]⟩]) (fun env _=>[A5 0 (env 4)]) 0 (by simp) ?_ ?_)
   · (with_reducible repeat' (first|(simp(disch:=omega)only[push_cast,↓zz,seval])|refine And.intro ?_ ?_|(first|refine Ab ?_ ?_|refine Aa ?_ ?_)<;>intro hc<;>(try simp only[push_cast] at hc)|omega|intro _))
   rintro k ⟨hi,hr⟩;refine W_T ?_;(with_reducible repeat' (first|(simp(disch:=omega)only[push_cast,↓zz,seval])|refine And.intro ?_ ?_|(first|refine Ab ?_ ?_|refine Aa ?_ ?_)<;>intro hc<;>(try simp only[push_cast] at hc)|(have q_:=J3 (nth t.parts k) n;(first|refine eK q_ ?_|refine eQ q_ ?_|refine eG q_ ?_);clear q_)|(have q_:=J1 (nth t.parts k).at_;(first|refine eK q_ ?_|refine eQ q_ ?_|refine eG q_ ?_);clear q_)|(have q_:=T7 t;(first|refine eK q_ ?_|refine eQ q_ ?_|refine eG q_ ?_);clear q_)|(have q_:=J3 (nth t.parts k) n;(first|refine cK q_ ?_|refine cQ q_ ?_|refine cG q_ ?_);clear q_;(simp(disch:=omega)only[push_cast,↓zz,seval]);(fail_if_success change False))|(have q_:=J1 (nth t.parts k).at_;(first|refine cK q_ ?_|refine cQ q_ ?_|refine cG q_ ?_);clear q_;(simp(disch:=omega)only[push_cast,↓zz,seval]);(fail_if_success change False))|(have q_:=T7 t;(first|refine cK q_ ?_|refine cQ q_ ?_|refine cG q_ ?_);clear q_;(simp(disch:=omega)only[push_cast,↓zz,seval]);(fail_if_success change False))|omega|intro _))
   all_goals (first|(refine⟨k+1,?_⟩;(with_reducible repeat' (first|(simp(disch:=omega)only[push_cast,↓zz,seval])|refine And.intro ?_ ?_|(first|refine Ab ?_ ?_|refine Aa ?_ ?_)<;>intro hc<;>(try simp only[push_cast] at hc)|omega|intro _));(try (first|(rw[hr,drop_at (by omega)];simp[Cx,Fw, *];done)|(rw[hr,List.drop_of_length_le (by omega)];simp[Cx,Fw, *];done)|(simp[Cx,Fw, *];done)));done)|(first|(rw[hr,drop_at (by omega)];simp[Cx,Fw, *];done)|(rw[hr,List.drop_of_length_le (by omega)];simp[Cx,Fw, *];done)|(simp[Cx,Fw, *];done)))
 all_goals (simp[Ep, *])
theorem zdf (t:Term) (i o n:Int) (hl:t.parts.length<1000000000000):PC Tryz.prog 150 [Bo t,.int .i64 i,.int .i64 o,.int .i64 n] (.bool (Ep t i o n)):=by
 refine A9 We ?_;unfold Mb;(with_reducible repeat' (first|(simp(disch:=omega)only[push_cast,↓zz,seval])|refine And.intro ?_ ?_|(first|refine Ab ?_ ?_|refine Aa ?_ ?_)<;>intro hc<;>(try simp only[push_cast] at hc)|(have q_:=Ra t hl;(first|refine eK q_ ?_|refine eQ q_ ?_|refine eG q_ ?_);clear q_)|(have q_:=Ra t hl;(first|refine cK q_ ?_|refine cQ q_ ?_|refine cG q_ ?_);clear q_;(simp(disch:=omega)only[push_cast,↓zz,seval]);(fail_if_success change False))|omega|intro _))
 all_goals first
   | (simp[Ep,Zx, *];done)
   | ((have hn:Ep t i o n=(Cx i n t.parts&&(decide (i≠2)||decide ((t.parts.length:Int)≤1))&&(decide (o≠2)||Ov t)):=by simp[Ep,Zx,zl5, *])
      rw[hn];refine An (Ap (fun (k:Nat)=>k≤t.parts.length∧Cx i n t.parts=Cx i n (t.parts.drop k)∧(i=2→k≤1)) (fun k=>t.parts.length-k) (fun k=>[(1,.int .i64 i),(2,.int .i64 o),(3,.int .i64 n),(4,.ptr 0 1 0 0),(9,.int .i64 k)]) (fun _=>[⟨6,1,true,[Bo t]⟩]) (fun env _=>[A5 0 (env 4)]) 0 (by simp) ?_ ?_)
      · (with_reducible repeat' (first|(simp(disch:=omega)only[push_cast,↓zz,seval])|refine And.intro ?_ ?_|(first|refine Ab ?_ ?_|refine Aa ?_ ?_)<;>intro hc<;>(try simp only[push_cast] at hc)|omega|intro _))
      rintro k ⟨hi,hr,hk⟩;refine W_T ?_;(with_reducible repeat' (first|(simp(disch:=omega)only[push_cast,↓zz,seval])|refine And.intro ?_ ?_|(first|refine Ab ?_ ?_|refine Aa ?_ ?_)<;>intro hc<;>(try simp only[push_cast] at hc)|(have q_:=Q7 (nth t.parts k) n;(first|refine eK q_ ?_|refine eQ q_ ?_|refine eG q_ ?_);clear q_)|(have q_:=Ws (nth t.parts k);(first|refine eK q_ ?_|refine eQ q_ ?_|refine eG q_ ?_);clear q_)|(have q_:=Zv t;(first|refine eK q_ ?_|refine eQ q_ ?_|refine eG q_ ?_);clear q_)|(have q_:=Q7 (nth t.parts k) n;(first|refine cK q_ ?_|refine cQ q_ ?_|refine cG q_ ?_);clear q_;(simp(disch:=omega)only[push_cast,↓zz,seval]);(fail_if_success change False))|(have q_:=Ws (nth t.parts k);(first|refine cK q_ ?_|refine cQ q_ ?_|refine cG q_ ?_);clear q_;(simp(disch:=omega)only[push_cast,↓zz,seval]);(fail_if_success change False))|(have q_:=Zv t;(first|refine cK q_ ?_|refine cQ q_ ?_|refine cG q_ ?_);clear q_;(simp(disch:=omega)only[push_cast,↓zz,seval]);(fail_if_success change False))|omega|intro _))
      all_goals first
        | (first|(refine⟨k+1,?_⟩;(with_reducible repeat' (first|(simp(disch:=omega)only[push_cast,↓zz,seval])|refine And.intro ?_ ?_|(first|refine Ab ?_ ?_|refine Aa ?_ ?_)<;>intro hc<;>(try simp only[push_cast] at hc)|omega|intro _));(try (first|(rw[hr,drop_at (by omega)];simp[Cx, *];done)|(rw[hr,List.drop_of_length_le (by omega)];simp[Cx, *];done)|(simp[Cx, *];done)));done)|(first|(rw[hr,drop_at (by omega)];simp[Cx, *];done)|(rw[hr,List.drop_of_length_le (by omega)];simp[Cx, *];done)|(simp[Cx, *];done)))
        | ((have h2:¬(t.parts.length:Int)≤1:=by omega);simp[h2, *];done)
        | (rw[hr,List.drop_of_length_le (by omega)];(have h2:i=2→(t.parts.length:Int)≤1:=by omega);by_cases h3:i=2<;>simp[Cx, *];done)
        )
theorem z2y (l:List Part) (hl:l.length≤1000000000000):PC Tryz.prog 97 [Bf l] (Bf l):=by
 by_cases h0:l=[]
 · subst h0
   refine zl0 ?_ ?_
   · refine A9 Ci ?_
     unfold B0;(with_reducible repeat' (first|(simp(disch:=omega)only[push_cast,↓zz,seval])|refine And.intro ?_ ?_|(first|refine Ab ?_ ?_|refine Aa ?_ ?_)<;>intro hc<;>(try simp only[push_cast] at hc)|omega|intro _))
   · refine A9 Ci ?_
     unfold B0;(with_reducible repeat' (first|(simp(disch:=omega)only[push_cast,↓zz,seval])|refine And.intro ?_ ?_|(first|refine Ab ?_ ?_|refine Aa ?_ ?_)<;>intro hc<;>(try simp only[push_cast] at hc)|omega|intro _))
 · refine A9 Ci ?_
   unfold B0;(with_reducible repeat' (first|(simp(disch:=omega)only[push_cast,↓zz,seval,h0])|refine And.intro ?_ ?_|(first|refine Ab ?_ ?_|refine Aa ?_ ?_)<;>intro hc<;>(try simp only[push_cast] at hc)|omega|intro _))
def sumP (w:List Int):List Part→Int→Option Int
 | [],a=>some a
 | p::l,a=>if Dk p w.length then sumP w l (IntKind.i64.wrap (a+val1 p (nth w p.at_.toNat))) else none
def symB (x:Int):Bool:=decide (0≤x∧x≤1114111)
def I7 (t:Term) (w:List Int):Option Int :=
 if w.all symB then
   match sumP w t.parts t.sum with
   | some x=>if valB t.outer x&&decide (x≤1114111) then some (IntKind.i64.wrap (t.base+valP t.outer x)) else none
   | none=>none
 else none
theorem Ai {p:Part} {n:Int} (h:Dk p n=true):0≤p.at_∧p.at_<n:=by
 simp only[Dk,Bool.and_eq_true,decide_eq_true_eq] at h;exact h.1
theorem zdg {x:Int}:B3 x=true ↔ -1114111≤x∧x≤1114111:=by simp[B3]
theorem Fh {x:Int} (h:B3 x=true):-1114111≤x∧x≤1114111:=zdg.1 h
end Go.Proofs.YtbcjoeadpjfcfaaGreat
namespace Go.Proofs.YtbcjoeadpjfcfaaGreat
open Abs
theorem T8 {l m:List Part} {k:Nat} (h1:k<l.length) (h2:k<m.length):decide (l.drop k=m.drop k)=(decide (nth l k=nth m k)&&decide (l.drop (k+1)=m.drop (k+1))):=by
 rw[drop_at h1,drop_at h2];simp
theorem z2z (p q:Part):(decide (p.at_=q.at_)&&(decide (p.drop=q.drop)&&(decide (p.take=q.take)&&decide (p.up=q.up))))=decide (p=q):=by
 cases p;cases q;simp
theorem z5r (a b:Term) (hl:a.parts.length≤1000000000000):PC Tryz.prog 99 [Bo a,Bo b] (.bool (decide (a=b))):=by
 refine A9 Y9 ?_;unfold N5;(with_reducible repeat' (first|(simp(disch:=omega)only[push_cast,↓zz,seval])|refine And.intro ?_ ?_|(first|refine Ab ?_ ?_|refine Aa ?_ ?_)<;>intro hc<;>(try simp only[push_cast] at hc)|omega|intro _))
 all_goals first
   | (have:a≠b:=by intro h;subst h;first|omega|simp_all
      simp[this];done)
   | skip
 have hab:decide (a=b)=decide (a.parts=b.parts):=by cases a;cases b;simp_all
 rw[hab]
 refine An (Ap (fun (k:Nat)=>k≤a.parts.length∧decide (a.parts=b.parts)=decide (a.parts.drop k=b.parts.drop k)) (fun k=>a.parts.length-k)
   (fun k=>[(2,.ptr 0 1 0 0),(3,.ptr 1 1 0 0),(5,.int .i64 k)])
   (fun s=>[⟨6,1,true,[Bo a]⟩,⟨6,1,true,[Bo b]⟩])
   (fun env _=>[A5 0 (env 2),A5 0 (env 3)]) 0 (by simp) ?_ ?_)
 · (with_reducible repeat' (first|(simp(disch:=omega)only[push_cast,↓zz,seval])|refine And.intro ?_ ?_|(first|refine Ab ?_ ?_|refine Aa ?_ ?_)<;>intro hc<;>(try simp only[push_cast] at hc)|omega|intro _))
 rintro k ⟨hk,hr⟩;refine W_T ?_;(with_reducible repeat' (first|(simp(disch:=omega)only[push_cast,↓zz,seval,z2z])|refine And.intro ?_ ?_|(first|refine Ab ?_ ?_|refine Aa ?_ ?_)<;>intro hc<;>(try simp only[push_cast] at hc)|omega|intro _))
 · rw[hr,T8 (by omega) (by omega)];simp[*]
 · refine⟨k+1,?_⟩
   (with_reducible repeat' (first|(simp(disch:=omega)only[push_cast,↓zz,seval])|refine And.intro ?_ ?_|(first|refine Ab ?_ ?_|refine Aa ?_ ?_)<;>intro hc<;>(try simp only[push_cast] at hc)|omega|intro _));rw[hr,T8 (by omega) (by omega)];simp[*]
 · rw[hr,List.drop_of_length_le (by omega),List.drop_of_length_le (by omega)];simp
abbrev wr (n:Int):Int:=IntKind.i64.wrap n
theorem zdh (n:Int):wr n=(n+9223372036854775808) % 18446744073709551616-9223372036854775808:=by
 show IntKind.i64.wrap n=_;rw[IntWalk.i64_left];unfold RowKit.wrap64;rfl
theorem zpf {n:Int} (h:-9223372036854775808≤n∧n≤9223372036854775807):wr n=n:=by rw[zdh];omega
theorem wr_wr (a b:Int):wr (wr a+b)=wr (a+b):=by rw[zdh,zdh a,zdh (a+b)];omega
theorem wr_bd (a:Int):-9223372036854775808≤wr a∧wr a≤9223372036854775807:=by rw[zdh];omega
def totP (w:List Int):List Part→Int
 | []=>0
 | p::l=>val1 p (nth w p.at_.toNat)+totP w l
def Nc (w:List Int) (l:List Part):Bool:=l.all fun p=>Dk p w.length
theorem zdi (w:List Int):∀ (l:List Part) (a:Int),wr a=a→sumP w l a=if Nc w l then some (wr (a+totP w l)) else none
 | [],a,h=>by simp[sumP,Nc,totP,h]
 | p::l,a,h=>by
   rw[sumP];cases hp:Dk p w.length
   · simp[Nc,hp]
   · have ih:=zdi w l (wr (a+val1 p (nth w p.at_.toNat))) (by rw[zpf (wr_bd _)])
     rw[if_pos rfl];have e:wr (wr (a+val1 p (nth w p.at_.toNat))+totP w l)=wr (a+totP w (p::l)):=by rw[wr_wr,totP];congr 1;omega
     rw[e] at ih;simp only[Nc,List.all_cons,hp,Bool.true_and] at ih ⊢;exact ih
theorem zdj {p:Part} {x:Int} (h:Fw p=true) (hx:0≤x∧x≤2097151):C6 p=true∧valB p x=true∧valP p x=x:=by
 simp only[Fw,decide_eq_true_eq] at h;obtain⟨h1,h2,h3⟩:=h;have hb:C6 p=true:=by simp[C6,h1,h2,h3]
 refine⟨hb,(Wq hb hx).1,?_⟩;rw[valP,h1,h2,h3];show x / 2 ^ 0 % 2 ^ 21 * 2 ^ 0=x;omega
end Go.Proofs.YtbcjoeadpjfcfaaGreat
namespace Go.Proofs.YtbcjoeadpjfcfaaGreat
open Abs Go.RowKit
abbrev shI:Sh:=.int .i64
abbrev zdk:Sh:=.sl true [shI,shI]
abbrev Wu:Sh:=.sl false [zdk]
abbrev zdl:Sh:=.sl true [shI,shI,shI,shI]
abbrev zdm:List Sh:=[shI,shI,shI,shI,shI,zdl]
abbrev z37:Sh:=.sl true zdm
abbrev zdn:List Sh:=[shI,shI,Wu,shI,z37]
abbrev z5s:List Sh:=[shI,Wu,z37]
abbrev z38:List Sh:=[shI,shI,shI,shI,.sl true zdn,.sl true z5s]
theorem Nf {α:Type} {agg:Bool} {fs:List Sh} {x:AV} (f:α→AV) (Q:α→Prop) (hp:∀ l:List α,Aw (l.map f)=true) (hpos:0<fs.length)
   (he:∀ cs,IsL fs cs→∃ a,AV.le (if agg then .agg cs else cs.headD .any) (f a)∧Q a) (h:Is (.sl agg fs) x):∃ l:List α,AV.le x (.lst fs.length (l.map f))∧l.length≤maxLen∧∀ a∈l,Q a:=by
 rcases h with rfl|⟨xs,rfl,hl,hx⟩
 · exact⟨[],AV.le_nilS hpos,Nat.zero_le _,fun _ h=>by cases h⟩
 · have key:∀ xs:List AV,(∀ y∈xs,∃ cs,y=(if agg then AV.agg cs else cs.headD .any)∧IsL fs cs)→∃ l:List α,l.length=xs.length∧leL xs (l.map f)∧∀ a∈l,Q a:=by
     intro xs
     induction xs with
     | nil=>intro _;exact⟨[],rfl,Db,fun _ h=>by cases h⟩
     | cons y r ih =>
       intro hy;obtain⟨l,h1,h2,h3⟩:=ih fun z hz=>hy z (List.mem_cons_of_mem _ hz);obtain⟨cs,rfl,hcs⟩:=hy y (List.mem_cons_self ..);obtain⟨a,h4,h5⟩:=he cs hcs;refine⟨a::l,by simp[h1],Au h4 h2,fun b hb=>?_⟩;rcases List.mem_cons.1 hb with rfl|hb
       · exact h5
       · exact h3 b hb
   obtain⟨l,h1,h2,h3⟩:=key xs hx;exact⟨l,AV.le_lst (by simp[h1]) (hp l) h2,by rw[h1];exact hl,h3⟩
def i64s (l:List Int):Prop:=∀ n∈l,(Lit.int .i64 n).wf=true
def T9 (s:Span):Prop:=i64s [s.lo,s.hi]
theorem zit {x:AV} (h:Is zdk x):∃ l:List Span,AV.le x (Ag l)∧l.length≤maxLen∧∀ s∈l,T9 s :=
 Nf Bw T9 Co (by decide) (fun cs h=>by
   obtain⟨_,_,rfl,⟨a,rfl,ha⟩,_,_,rfl,⟨b,rfl,hb⟩,rfl⟩:=h
   exact⟨⟨a,b⟩,AV.le_refl _,by simp[T9,i64s,ha,hb]⟩) h
theorem Zy {x:AV} (h:Is Wu x):∃ l:List (List Span),AV.le x (Ak l)∧l.length≤maxLen∧∀ g∈l,g.length≤maxLen∧∀ s∈g,T9 s :=
 Nf Ag (fun g=>g.length≤maxLen∧∀ s∈g,T9 s) Ad (by decide) (fun cs h=>by
   obtain⟨c,_,rfl,hc,_⟩:=h;obtain⟨l,h1,h2,h3⟩:=zit hc
   exact⟨l,h1,h2,h3⟩) h
def z5t (p:Part):Prop:=i64s [p.at_,p.drop,p.take,p.up]
theorem ziu {x:AV} (h:Is zdl x):∃ l:List Part,AV.le x (Bf l)∧l.length≤maxLen∧∀ s∈l,z5t s :=
 Nf Ca z5t G7 (by decide) (fun cs h=>by
   obtain⟨_,_,rfl,⟨a,rfl,ha⟩,_,_,rfl,⟨b,rfl,hb⟩,_,_,rfl,⟨c,rfl,hc⟩,_,_,rfl,⟨d,rfl,hd⟩,rfl⟩:=h
   exact⟨⟨a,b,c,d⟩,AV.le_refl _,by simp[z5t,i64s,ha,hb,hc,hd]⟩) h
def z5u (t:Term):Prop:=i64s [t.base,t.drop,t.take,t.up,t.sum]∧t.parts.length≤maxLen∧∀ p∈t.parts,z5t p
theorem ziv {cs:List AV} (h:IsL zdm cs):∃ t:Term,AV.le (.agg cs) (Bo t)∧z5u t:=by
 obtain⟨_,_,rfl,⟨a,rfl,ha⟩,_,_,rfl,⟨b,rfl,hb⟩,_,_,rfl,⟨c,rfl,hc⟩,_,_,rfl,⟨d,rfl,hd⟩,_,_,rfl,⟨e,rfl,he⟩,x,_,rfl,hx,rfl⟩:=h;obtain⟨l,h1,h2,h3⟩:=ziu hx;exact⟨⟨a,b,c,d,e,l⟩,AV.le_agg (Au (AV.le_refl _) (Au (AV.le_refl _) (Au (AV.le_refl _) (Au (AV.le_refl _) (Au (AV.le_refl _) (Au h1 Db)))))),by simp[i64s,ha,hb,hc,hd,he],h2,h3⟩
theorem z5v {x:AV} (h:Is z37 x):∃ l:List Term,AV.le x (Be l)∧l.length≤maxLen∧∀ t∈l,z5u t :=
 Nf Bo z5u Am (by decide) (fun cs h=>by simpa using ziv h) h
def z5w (g:List (List Span)):Prop:=g.length≤maxLen∧∀ l∈g,l.length≤maxLen∧∀ s∈l,T9 s
def zdo (l:List Term):Prop:=l.length≤maxLen∧∀ t∈l,z5u t
def zdp (r:Rule):Prop:=i64s [r.from_,r.to_,r.eat]∧z5w r.guards∧zdo r.out
def z3a (f:Cw):Prop:=i64s [f.from_]∧z5w f.guards∧zdo f.out
theorem zpg {cs:List AV} (h:IsL zdn cs):∃ r:Rule,AV.le (.agg cs) (B6 r)∧zdp r:=by
 obtain⟨_,_,rfl,⟨a,rfl,ha⟩,_,_,rfl,⟨b,rfl,hb⟩,x,_,rfl,hx,_,_,rfl,⟨c,rfl,hc⟩,y,_,rfl,hy,rfl⟩:=h;obtain⟨g,g1,g2,g3⟩:=Zy hx;obtain⟨o,o1,o2,o3⟩:=z5v hy;exact⟨⟨a,b,g,c,o⟩,AV.le_agg (Au (AV.le_refl _) (Au (AV.le_refl _) (Au g1 (Au (AV.le_refl _) (Au o1 Db))))),by simp[i64s,ha,hb,hc],⟨g2,g3⟩,o2,o3⟩
theorem ziw {cs:List AV} (h:IsL z5s cs):∃ r:Cw,AV.le (.agg cs) (Bl r)∧z3a r:=by
 obtain⟨_,_,rfl,⟨a,rfl,ha⟩,x,_,rfl,hx,y,_,rfl,hy,rfl⟩:=h;obtain⟨g,g1,g2,g3⟩:=Zy hx;obtain⟨o,o1,o2,o3⟩:=z5v hy;exact⟨⟨a,g,o⟩,AV.le_agg (Au (AV.le_refl _) (Au g1 (Au o1 Db))),by simp[i64s,ha],⟨g2,g3⟩,o2,o3⟩
def ztp (d:Desc):Prop:=i64s [d.in_,d.out,d.states,d.start]∧(d.rules.length≤maxLen∧∀ r∈d.rules,zdp r)∧d.finals.length≤maxLen∧∀ f∈d.finals,z3a f
theorem zdq {x:AV} (h:IsP (.rcd z38) x):∃ d:Desc,AV.le x (Bp d)∧ztp d:=by
 obtain⟨_,rfl,_,_,rfl,⟨a,rfl,ha⟩,_,_,rfl,⟨b,rfl,hb⟩,_,_,rfl,⟨c,rfl,hc⟩,_,_,rfl,⟨e,rfl,he⟩,x,_,rfl,hx,y,_,rfl,hy,rfl⟩:=h;obtain⟨r,r1,r2,r3⟩:=Nf B6 zdp Az (by decide) (fun cs h=>by simpa using zpg h) hx;obtain⟨f,f1,f2,f3⟩:=Nf Bl z3a Av (by decide) (fun cs h=>by simpa using ziw h) hy;exact⟨⟨a,b,c,e,r,f⟩,AV.le_agg (Au (AV.le_refl _) (Au (AV.le_refl _) (Au (AV.le_refl _) (Au (AV.le_refl _) (Au r1 (Au f1 Db)))))),by simp[i64s,ha,hb,hc,he],⟨r2,r3⟩,f2,f3⟩
end Go.Proofs.YtbcjoeadpjfcfaaGreat
namespace Go.Proofs.YtbcjoeadpjfcfaaGreat
open Abs
theorem zix {o:Option Int} (h:o.isSome=true):o=some (o.getD 0):=by cases o<;>simp_all
end Go.Proofs.YtbcjoeadpjfcfaaGreat
namespace Go.Proofs.YtbcjoeadpjfcfaaGreat.Abs
section
variable {P:Program} {n b:Nat} {Q:Ex→Env→Ac→Prop}
def Rb (P:Program) (n b:Nat) (c:AC) (Q:Ex→Env→Ac→Prop):Nat→Env→Ac→Prop
 | 0,_,_=>False
 | m+1,env,H=>T P n b c env H (Ex.then (Rb P n b c Q m) Q)
theorem Zz {c:AC} {d:Code} (hd:C0 P n d=some c) {rd:Option Nat} {mm:Nat} (hrd:c.free=true∨rd=none) {S0:MS}:∀ (m:Nat) (env:Env) (H:Ac) (S:MS) (a:Act),BEvo b S0 S→SRel S H→FRel S n env a→Rb P n b c Q m env H →
   Code.roundsIn (fen rd) mm P d (After S0 n b Q) m a S.w
 | 0,_,_,_,_,_,_,_,h=>h.elim
 | m+1,env,H,S,a,e0,hS,hF,h=>by
   rw[Code.roundsIn];refine wpIn_mono (h rd mm hrd d hd S a e0.n hS hF) fun e a' w' hh=>?_;obtain⟨S2,env2,H2,z,rfl,e2,hS2,hF2,rfl,hq⟩:=hh;cases z with
   | normal=>exact Zz hd hrd m env2 H2 S2 a' (e0.trans e2) hS2 hF2 hq
   | exit id=>exact⟨S2,env2,H2,.exit id,rfl,e0.trans e2,hS2,hF2,rfl,hq⟩
   | ret=>exact⟨S2,env2,H2,.ret,rfl,e0.trans e2,hS2,hF2,rfl,hq⟩
theorem z5x {c:AC} {env:Env} {H:Ac} (m:Nat) (h:Rb P n b c Q m env H):T P n b (.loop c) env H Q:=T_of fun rd mm hrd code hc hs S a hb hS hF=>by
 cases code<;>simp only[C0,reduceCtorEq,Option.some.injEq] at hc
 case loop d =>
   obtain⟨x,hx,hh⟩:=Option.map_eq_some_iff.1 hc;cases hh;exact wpIn_loop_rounds m (Zz hx hrd m env H S a (.refl hb) hS hF h)
 case region=>exact absurd hc Ce
 case seq=>split at hc<;>cases hc
 case cond=>split at hc<;>cases hc
 case block=>obtain⟨_,_,h⟩:=Option.map_eq_some_iff.1 hc;cases h
 case rangeFunc=>split at hc<;>cases hc
 case scope d=>exact absurd rfl (hs d)
theorem A8 {c:AC} {env:Env} {H:Ac} (m:Nat) (h:W P n b c env H (Ex.then (Rb P n b c Q m) Q)):@Kj ⟨T P n b (.loop c) env H Q⟩:=z5x (m+1) (W_T h)
theorem Bm {c:AC} {env:Env} {H:Ac} (m:Nat) (srcs:Env→List Src) (live:List (Nat × AV)) (heap:List Grp) (he:Head b env H (srcs env) live heap) (h:W P n b c (C8 live) (hl heap) (Ex.then (Rb P n b c Q m) Q)):@Kj ⟨T P n b (.loop c) env H Q⟩:=z5i he (z5x (m+1) (W_T h))
theorem Al {c:AC} {env:Env} {H:Ac} {m:Nat} (h:W P n b c env H (Ex.then (Rb P n b c Q m) Q)):Rb P n b c Q (m+1) env H:=W_T h
end
theorem z5y {S:MS}:∀ {xs ys:List AV} {vs:List Value},Ae S (xs++ys) vs→∃ v1 v2,vs=v1++v2∧Ae S xs v1
 | [],ys,vs,h=>⟨[],vs,rfl,rfl⟩
 | x::xs,ys,vs,h=>by
   obtain⟨v,r,rfl,h1,h2⟩:=h;obtain⟨v1,v2,rfl,h3⟩:=z5y (xs:=xs) (ys:=ys) h2;exact⟨v::v1,v2,rfl,v,v1,rfl,h1,h3⟩
theorem z9k {S:MS} {w v:Nat} {ex:Bool} {xs ys:List AV} (hw:0<w) (hS:SRel S (hl [⟨w,v,ex,xs++ys⟩])):SRel S (hl [⟨w,v,false,xs⟩]):=by
 have h0:GRel S ⟨w,v,ex,xs++ys⟩ 0:=hS.grp 0 (by show 0<1;omega)
 have hg:GRel S ⟨w,v,false,xs⟩ 0:=by
   refine⟨h0.ver,h0.wid,fun _ hc=>?_,fun _=>?_,fun _ h=>(by cases h),fun h=>?_⟩
   · obtain⟨⟨cells,TT,vs,a1,a2,a3,a4⟩,a5⟩:=h0.live hw hc
     obtain⟨v1,v2,rfl,h1⟩:=z5y a3;refine⟨⟨cells,TT,v1,a1,a2,h1,fun i u hu=>a4 i u ?_⟩,a5⟩;obtain⟨hl1,_⟩:=List.getElem?_eq_some_iff.1 hu;rw[List.getElem?_append_left hl1];exact hu
   · have:=h0.len hw
     simp only[List.length_append] at this;show xs.length≤_;omega
   · simp only at h;omega
 refine⟨hS.n,fun g hg'=>?_,fun g g' a c hne=>?_,hS.im⟩
 · have hz:g<1:=hg'
   obtain rfl:g=0:=by omega
   exact hg
 · have a':g<1:=a
   have c':g'<1:=c;omega
theorem Z0 {P:Program} {f:Nat} {args:List AV} {H:Ac} {w v:Nat} {ex:Bool} {xs:List AV} {y0:AV} (hw:0<w) (h:Bi P f args H fun y H'=>∃ ys,y=y0∧H'=hl [⟨w,v,ex,xs++ys⟩]):Bi P f args H fun y H'=>y=y0∧H'=hl [⟨w,v,false,xs⟩] :=
 ⟨h.1,fun S cargs hS hx=>(h.2 S cargs hS hx).mono fun e w' hh=>by
   obtain⟨v,S1,y,H',he,hw',ev,hS1,hv,ys,rfl,rfl⟩:=hh
   exact⟨v,S1,_,_,he,hw',ev,z9k hw hS1,hv,rfl,rfl⟩⟩
theorem zph {P:Program} {f:Nat} {xs ys:List AV} {l:List Grp} {K:AV→Ac→Prop} (h1:okA 4 ((hl l).only (B1 xs)) xs) (h2:leSL [] (frA 4 ((hl l).only (B1 xs)) xs) ys) (h3:@Vw P f ys (hl (Es 0 (B1 xs) l)) ⟨K⟩):@Vw P f xs (hl l) ⟨K⟩ :=
 Tq 4 (B1 xs) (Qg h1) (G6 (Lb h2) h3)
def B7 (i:Nat) (ks:List Nat):List Grp→List Grp→Prop
 | [],_=>True
 | _::_,[]=>False
 | G::l,G'::l'=>(i∈ks∨G=G')∧B7 (i+1) ks l l'
theorem B7.of {ks:List Nat}:∀ {i:Nat} {l l':List Grp},B7 i ks l l'→l.length≤l'.length∧∀ g,i+g∉ks→g<l.length→l'.getD g default=l.getD g default
 | _,[],_,_=>⟨by simp,fun g _ h=>absurd h (by simp)⟩
 | _,_::_,[],h=>h.elim
 | i,G::l,G'::l',h=>by
   obtain⟨h1,h2⟩:=B7.of h.2;refine⟨by simpa using h1,fun g hg hl=>?_⟩;cases g with
   | zero =>
     rcases h.1 with h3|h3
     · exact absurd h3 hg
     · simp[h3]
   | succ g =>
     have:=h2 g (by rwa [show i+1+g=i+(g+1) by omega]) (by simpa using hl);simpa using this
def effB (ks:List Nat):AK→List Grp→List Grp→Prop
 | .app ..,l,l'=>B7 0 ks l l'
 | .mkMap,l,l'=>B7 0 ks l l'
 | .mapSet,l,l'=>B7 0 ks l l'
 | _,_,_=>True
theorem zdr {ks:List Nat} {k:AK} {l l':List Grp} (h:effB ks k l l') (h2:k.eff=some 2):l.length≤l'.length∧∀ g,g∉ks→g<l.length→l'.getD g default=l.getD g default:=by
 have key:B7 0 ks l l':=by cases k<;>first|exact h|(simp[AK.eff] at h2)
 obtain⟨a,c⟩:=key.of;exact⟨a,fun g hg=>c g (by simpa using hg)⟩
def xk (P:Program) (ks:List Nat):List Bool→List AOp→Env→List Grp→(Env→List Grp→Prop)→Prop
 | _,[],env,l,K=>K env l
 | fl,⟨dst,args,none,k⟩::r,env,l,K=>(fl.headD false=true→Bj (·∉ks) (args.map (·.eval env)))∧@opG P k l (args.map (·.eval env)) ⟨fun x l'=>effB ks k l l'∧xk P ks fl.tail r (env.put dst x) l' K⟩
 | fl,⟨dst,args,some (d,want),k⟩::r,env,l,K=>@Ej (env d) want
     ⟨(fl.headD false=true→Bj (·∉ks) (args.map (·.eval (env.put (some d) (.bool want)))))∧@opG P k l (args.map (·.eval (env.put (some d) (.bool want)))) ⟨fun x l'=>effB ks k l l'∧xk P ks fl.tail r ((env.put (some d) (.bool want)).put dst x) l' K⟩⟩
     ⟨xk P ks fl.tail r ((env.put (some d) (.bool (!want))).put dst (.tup [])) l K⟩ ⟨xk P ks fl.tail r (env.put dst (.tup [])) l K⟩
theorem Rc (P:Program) (ks:List Nat):∀ (L:List AOp) (fl:List Bool) (env:Env) (l:List Grp) {K:Env→List Grp→Prop},xk P ks fl L env l K→runX P ks fl L env l K
 | [],_,_,_,_,h=>h
 | ⟨dst,args,none,k⟩::r,fl,env,l,K,h=>by
   obtain⟨h0,h'⟩:=h;have:=M4 h';simp only[runX,F8,AOp.vals,if_true];split at this
   · rename_i he
     rw[if_pos he];obtain⟨x,h1,h2⟩:=this;exact⟨h0,x,h1,Rc P ks r _ _ _ h2.2⟩
   · rename_i he
     rw[if_neg he];obtain⟨x,l',b1,b2,b3⟩:=this;exact⟨x,l',b1,b2,zdr b3.1,h0,Rc P ks r _ _ _ b3.2⟩
 | ⟨dst,args,some (d,want),k⟩::r,fl,env,l,K,h=>by
   have h':F7 (env d) want ((fl.headD false=true→Bj (·∉ks) (args.map (·.eval (env.put (some d) (.bool want)))))∧@opG P k l (args.map (·.eval (env.put (some d) (.bool want)))) ⟨fun x l'=>effB ks k l l'∧xk P ks fl.tail r ((env.put (some d) (.bool want)).put dst x) l' K⟩)
     (xk P ks fl.tail r ((env.put (some d) (.bool (!want))).put dst (.tup [])) l K) (xk P ks fl.tail r (env.put dst (.tup [])) l K):=h
   simp only[runX,F8,AOp.vals,if_true,Bool.false_eq_true,if_false];refine La (fun h1=>?_) (fun h1=>Rc P ks r _ _ _ h1) (fun h1=>Rc P ks r _ _ _ h1) h';obtain⟨h0,h1⟩:=h1;have:=M4 h1;split at this
   · rename_i he
     obtain⟨x,h1,h2⟩:=this;rw[if_pos he];exact⟨h0,x,h1,Rc P ks r _ _ _ h2.2⟩
   · rename_i he
     rw[if_neg he];obtain⟨x,l',b1,b2,b3⟩:=this;exact⟨x,l',b1,b2,zdr b3.1,h0,Rc P ks r _ _ _ b3.2⟩
section
variable {P:Program} {n b:Nat} {Q:Ex→Env→Ac→Prop} {ks:List Nat} {env:Env} {l:List Grp} {K:Env→List Grp→Prop} {fl:List Bool} {r:List AOp} {dst:Option Nat} {args:List AArg} {k:AK}
theorem B8 {L:List AOp} (ks:List Nat) (h:xk P ks fl L env l fun env' l'=>Q .normal env' (hl l')):@Kj ⟨T P n b (.grx fl L) env (hl l) Q⟩:=T_grx ks (Rc P ks L fl env l h)
theorem Gp {x:AV} {w:Bool} {p p2 q s:HP} (h:p.p=p2.p):@Ej x w p q s=@Ej x w p2 q s:=by cases p;cases p2;cases h;rfl
theorem xk1:xk P ks fl [] env l K=K env l:=by cases fl<;>rfl
theorem xk2:xk P ks (false::fl) (⟨dst,args,none,k⟩::r) env l K=@opG P k l (args.map (·.eval env)) ⟨fun x l'=>effB ks k l l'∧xk P ks fl r (env.put dst x) l' K⟩:=propext ⟨fun h=>h.2,fun h=>⟨fun h0=>(by cases h0),h⟩⟩
theorem xk3:xk P ks (true::fl) (⟨dst,args,none,k⟩::r) env l K=(Bj (·∉ks) (args.map (·.eval env))∧@opG P k l (args.map (·.eval env)) ⟨fun x l'=>effB ks k l l'∧xk P ks fl r (env.put dst x) l' K⟩):=propext ⟨fun h=>⟨h.1 rfl,h.2⟩,fun h=>⟨fun _=>h.1,h.2⟩⟩
theorem xk4 {d:Nat} {want:Bool}:xk P ks (false::fl) (⟨dst,args,some (d,want),k⟩::r) env l K=@Ej (env d) want
     ⟨@opG P k l (args.map (·.eval (env.put (some d) (.bool want)))) ⟨fun x l'=>effB ks k l l'∧xk P ks fl r ((env.put (some d) (.bool want)).put dst x) l' K⟩⟩
     ⟨xk P ks fl r ((env.put (some d) (.bool (!want))).put dst (.tup [])) l K⟩ ⟨xk P ks fl r (env.put dst (.tup [])) l K⟩:=Gp (propext ⟨fun h=>h.2,fun h=>⟨fun h0=>(by cases h0),h⟩⟩)
theorem xk5 {d:Nat} {want:Bool}:xk P ks (true::fl) (⟨dst,args,some (d,want),k⟩::r) env l K=@Ej (env d) want
     ⟨Bj (·∉ks) (args.map (·.eval (env.put (some d) (.bool want))))∧@opG P k l (args.map (·.eval (env.put (some d) (.bool want)))) ⟨fun x l'=>effB ks k l l'∧xk P ks fl r ((env.put (some d) (.bool want)).put dst x) l' K⟩⟩
     ⟨xk P ks fl r ((env.put (some d) (.bool (!want))).put dst (.tup [])) l K⟩ ⟨xk P ks fl r (env.put dst (.tup [])) l K⟩:=Gp (propext ⟨fun h=>⟨h.1 rfl,h.2⟩,fun h=>⟨fun _=>h.1,h.2⟩⟩)
variable {l2:List Grp}
theorem xk6 {w s:Nat} {z:AV}:effB ks (.app w s z) l l2=B7 0 ks l l2:=rfl
theorem xk7:effB ks .mapSet l l2=B7 0 ks l l2:=rfl
theorem xk8:effB ks .mkMap l l2=B7 0 ks l l2:=rfl
theorem ztq  : effB ks (.mv ) l l2=True:=rfl
theorem zds  : effB ks (.pick ) l l2=True:=rfl
theorem z5z {a0:AV} {a1:Nat}:effB ks (.alloc a0 a1) l l2=True:=rfl
theorem zl6  : effB ks (.box ) l l2=True:=rfl
theorem z60 {a0:List AV} {a1:List (Nat × Nat)} {a2:List Nat}:effB ks (.build a0 a1 a2) l l2=True:=rfl
theorem Z1 {a0:Nat} {a1:Nat} {a2:AV} {a3:List Nat}:effB ks (.bslice a0 a1 a2 a3) l l2=True:=rfl
theorem zdt {a0:Bool} {a1:Nat}:effB ks (.load a0 a1) l l2=True:=rfl
theorem z61 {a0:Nat}:effB ks (.store a0) l l2=True:=rfl
theorem Re  : effB ks (.nilCheck ) l l2=True:=rfl
theorem zl7 {a0:BinOp}:effB ks (.bin a0) l l2=True:=rfl
theorem zl8 {a0:Bool}:effB ks (.eqb a0) l l2=True:=rfl
theorem zl9 {a0:Bool} {a1:List Nat}:effB ks (.eqs a0 a1) l l2=True:=rfl
theorem zla {a0:Bool}:effB ks (.eqn a0) l l2=True:=rfl
theorem ztr {a0:UnOp}:effB ks (.un a0) l l2=True:=rfl
theorem zdu {a0:IntKind}:effB ks (.conv a0) l l2=True:=rfl
theorem z62  : effB ks (.toStr ) l l2=True:=rfl
theorem z63 {a0:Nat} {a1:Bool} {a2:Bool} {a3:Bool}:effB ks (.slice a0 a1 a2 a3) l l2=True:=rfl
theorem z64 {a0:Bool} {a1:Nat} {a2:Nat}:effB ks (.faddr a0 a1 a2) l l2=True:=rfl
theorem z65 {a0:Bool} {a1:Nat} {a2:Nat}:effB ks (.field a0 a1 a2) l l2=True:=rfl
theorem z67 {a0:Nat}:effB ks (.iaddr a0) l l2=True:=rfl
theorem Z2 {a0:Nat} {a1:Nat} {a2:Bool}:effB ks (.iaddrA a0 a1 a2) l l2=True:=rfl
theorem z68 {a0:Nat} {a1:Nat} {a2:Bool}:effB ks (.index a0 a1 a2) l l2=True:=rfl
theorem Rf  : effB ks (.indexStr ) l l2=True:=rfl
theorem Ua {a0:Nat}:effB ks (.extract a0) l l2=True:=rfl
theorem zlb {a0:Bool}:effB ks (.len a0) l l2=True:=rfl
theorem zlc  : effB ks (.max ) l l2=True:=rfl
theorem zld  : effB ks (.min ) l l2=True:=rfl
theorem Ub {a0:Nat} {a1:Nat} {a2:AV}:effB ks (.mkSlice a0 a1 a2) l l2=True:=rfl
theorem Z3 {a0:Nat}:effB ks (.mkFunc a0) l l2=True:=rfl
theorem Z4 {a0:AV}:effB ks (.mapGet a0) l l2=True:=rfl
theorem zdv  : effB ks (.call ) l l2=True:=rfl
theorem sb1 {i:Nat}:B7 i ks [] l=True:=rfl
theorem sb2 {i:Nat} {G G2:Grp}:B7 i ks (G::l) (G2::l2)=((i∈ks∨G=G2)∧B7 (i+1) ks l l2):=rfl
end
theorem xx:type_of% (And.intro @xk1 <| And.intro @xk2 <| And.intro @xk3 <| And.intro @xk4 <| And.intro @xk5 <| And.intro @xk6 <| And.intro @xk7 <| And.intro @xk8 <| And.intro @ztq <| And.intro @zds <| And.intro @z5z <| And.intro @zl6 <| And.intro @z60 <| And.intro @Z1 <| And.intro @zdt <| And.intro @z61 <| And.intro @Re <| And.intro @zl7 <| And.intro @zl8 <| And.intro @zl9 <| And.intro @zla <| And.intro @ztr <| And.intro @zdu <| And.intro @z62 <| And.intro @z63 <| And.intro @z64 <| And.intro @z65 <| And.intro @z67 <| And.intro @Z2 <| And.intro @z68 <| And.intro @Rf <| And.intro @Ua <| And.intro @zlb <| And.intro @zlc <| And.intro @zld <| And.intro @Ub <| And.intro @Z3 <| And.intro @Z4 <| And.intro @zdv <| And.intro @sb1 <| @sb2):=And.intro @xk1 <| And.intro @xk2 <| And.intro @xk3 <| And.intro @xk4 <| And.intro @xk5 <| And.intro @xk6 <| And.intro @xk7 <| And.intro @xk8 <| And.intro @ztq <| And.intro @zds <| And.intro @z5z <| And.intro @zl6 <| And.intro @z60 <| And.intro @Z1 <| And.intro @zdt <| And.intro @z61 <| And.intro @Re <| And.intro @zl7 <| And.intro @zl8 <| And.intro @zl9 <| And.intro @zla <| And.intro @ztr <| And.intro @zdu <| And.intro @z62 <| And.intro @z63 <| And.intro @z64 <| And.intro @z65 <| And.intro @z67 <| And.intro @Z2 <| And.intro @z68 <| And.intro @Rf <| And.intro @Ua <| And.intro @zlb <| And.intro @zlc <| And.intro @zld <| And.intro @Ub <| And.intro @Z3 <| And.intro @Z4 <| And.intro @zdv <| And.intro @sb1 <| @sb2
theorem ziy {P:Program} {l:List Grp} {xs:List AV} {K:AV→List Grp→Prop}:@opG P .mapSet l xs ⟨K⟩=@opK P .mapSet (hl l) xs ⟨fun x H'=>∀ l',H'=hl l'→K x l'⟩:=(z9b rfl rfl).trans (by simp only[AK.appOk,Vi,true_and])
attribute [push_cast] zia ziy
def effY (ks:List Nat):AK→List Grp→List Grp→Prop
 | .app ..,l,l'=>B7 0 ks l l'
 | .mkMap,l,l'=>B7 0 ks l l'
 | .mapSet,l,l'=>B7 0 ks l l'
 | .store _,l,l'=>B7 0 ks l l'∧l'.length=l.length
 | _,_,_=>True
theorem Wv {ks:List Nat} {k:AK} {l l':List Grp} (h:effY ks k l l'):((k.eff=some 1∨k.eff=some 2)→l.length≤l'.length∧∀ g,g∉ks→g<l.length→l'.getD g default=l.getD g default)∧(k.eff=some 1→l'.length=l.length):=by
 have key:(k.eff=some 1∨k.eff=some 2)→B7 0 ks l l':=fun h2=>by cases k<;>first|exact h|exact h.1|(simp[AK.eff] at h2)
 refine⟨fun h2=>?_,fun h2=>by cases k<;>first|exact h.2|(simp[AK.eff] at h2)⟩;obtain⟨a,c⟩:=(key h2).of;exact⟨a,fun g hg=>c g (by simpa using hg)⟩
class KM where
 f:Int→Int→Prop
def twoI (x y:AV) [K:KM]:Prop:=match x,y with
 | .int _ a,.int _ b=>K.f a b
 | _,_=>False
structure KL where
 f:Grp→AV→Prop
def zpi (k:AK) (xs:List AV) (g:Nat) (K:KL):Prop:=match k,xs with
 | .alloc z w,[]=>K.f ⟨w,2,true,[z]⟩ (.ptr g 2 0 0)
 | .box,[y]=>Eo y.cells=true∧0<y.cells.length∧K.f ⟨y.cells.length,2,true,[y]⟩ (.ptr g 2 0 0)
 | .mkSlice w bytes z,[a,b]=>@twoI a b ⟨fun l c=>0≤l∧l≤c∧c * bytes≤140737488355328∧K.f ⟨w,2,true,List.replicate c.toNat z⟩ (.ref g 2 0 l.toNat)⟩
 | _,_=>False
theorem ziz {k:AK} {xs:List AV} {g:Nat} {K:KL} (h:zpi k xs g K):∃ G x,z1n k xs g G x∧K.f G x:=by
 unfold zpi at h;split at h
 · exact⟨_,_,⟨rfl,rfl⟩,h⟩
 · exact⟨_,_,⟨h.1,h.2.1,rfl,rfl⟩,h.2.2⟩
 · rename_i a b
   cases a<;>cases b<;>try exact h.elim
   obtain⟨h1,h2,h3,h4⟩:=h;exact⟨_,_,⟨h1,h2,h3,rfl,rfl⟩,h4⟩
 · exact h.elim
def gsOk:List (Option Nat)→List AOp→Bool
 | _,[]=>true
 | gs,o::r=>(match gs.headD none with|some _=>o.guard.isNone&&o.k.laid|none=>!o.k.laid)&&gsOk gs.tail r
def xy (P:Program) (ks:List Nat):List (Option Nat)→List Bool→List AOp→Env→List Grp→(Env→List Grp→Prop)→Prop
 | _,_,[],env,l,K=>K env l
 | gs,fl,⟨dst,args,none,k⟩::r,env,l,K=>match gs.headD none with
   | some g=>zpi k (args.map (·.eval env)) g ⟨fun G x=>g<l.length∧(hl l).at_ g=⟨G.w,1,true,[]⟩∧g∈ks∧∀ l',(hl l).set g G=hl l'→xy P ks gs.tail fl.tail r (env.put dst x) l' K⟩
   | none=>(fl.headD false=true→Bj (·∉ks) (args.map (·.eval env)))∧@opG P k l (args.map (·.eval env)) ⟨fun x l'=>effY ks k l l'∧xy P ks gs.tail fl.tail r (env.put dst x) l' K⟩
 | gs,fl,⟨dst,args,some (d,want),k⟩::r,env,l,K=>@Ej (env d) want
     ⟨(fl.headD false=true→Bj (·∉ks) (args.map (·.eval (env.put (some d) (.bool want)))))∧@opG P k l (args.map (·.eval (env.put (some d) (.bool want)))) ⟨fun x l'=>effY ks k l l'∧xy P ks gs.tail fl.tail r ((env.put (some d) (.bool want)).put dst x) l' K⟩⟩
     ⟨xy P ks gs.tail fl.tail r ((env.put (some d) (.bool (!want))).put dst (.tup [])) l K⟩ ⟨xy P ks gs.tail fl.tail r (env.put dst (.tup [])) l K⟩
theorem Ow (P:Program) (ks:List Nat):∀ (L:List AOp) (gs:List (Option Nat)) (fl:List Bool) (env:Env) (l:List Grp) {K:Env→List Grp→Prop},gsOk gs L=true→xy P ks gs fl L env l K→runY P ks fl L env l K
 | [],_,_,_,_,_,_,h=>by simpa only[xy,runY] using h
 | ⟨dst,args,none,k⟩::r,gs,fl,env,l,K,hg,h=>by
   simp only[gsOk,Bool.and_eq_true] at hg;simp only[xy] at h;simp only[runY,F8,AOp.vals,if_true];cases hh:gs.headD none with
   | some g =>
     rw[hh] at h hg;have hla:k.laid=true:=by simpa using hg.1
     obtain⟨G,x,hG,h1,h2,h3,h4⟩:=ziz h;rw[if_pos hla];exact⟨_,_,⟨g,G,hG,h1,h2,h3,rfl⟩,Ow P ks r _ _ _ _ hg.2 (h4 _ (Gm _ _ _ h1))⟩
   | none =>
     rw[hh] at h hg;have hl:k.laid=false:=by simpa using hg.1
     rw[if_neg (by rw[hl];simp)];obtain⟨h0,h'⟩:=h;have:=M4 h';split at this
     · rename_i he
       rw[if_pos he];obtain⟨x,h1,h2⟩:=this;exact⟨h0,x,h1,Ow P ks r _ _ _ _ hg.2 h2.2⟩
     · rename_i he
       rw[if_neg he];obtain⟨x,l',b1,b2,b3⟩:=this;exact⟨x,l',b1,b2,(Wv b3.1).1,(Wv b3.1).2,h0,Ow P ks r _ _ _ _ hg.2 b3.2⟩
 | ⟨dst,args,some (d,want),k⟩::r,gs,fl,env,l,K,hg,h=>by
   simp only[gsOk,Bool.and_eq_true] at hg
   have hl:k.laid=false:=by
     cases hh:gs.headD none with
     | some g=>rw[hh] at hg;simp at hg
     | none=>rw[hh] at hg;simpa using hg.1
   have h':F7 (env d) want ((fl.headD false=true→Bj (·∉ks) (args.map (·.eval (env.put (some d) (.bool want)))))∧@opG P k l (args.map (·.eval (env.put (some d) (.bool want)))) ⟨fun x l'=>effY ks k l l'∧xy P ks gs.tail fl.tail r ((env.put (some d) (.bool want)).put dst x) l' K⟩)
     (xy P ks gs.tail fl.tail r ((env.put (some d) (.bool (!want))).put dst (.tup [])) l K) (xy P ks gs.tail fl.tail r (env.put dst (.tup [])) l K):=h
   simp only[runY,F8,AOp.vals,if_true,Bool.false_eq_true,if_false];refine La (fun h1=>?_) (fun h1=>Ow P ks r _ _ _ _ hg.2 h1) (fun h1=>Ow P ks r _ _ _ _ hg.2 h1) h';rw[if_neg (by rw[hl];simp)];obtain⟨h0,h1⟩:=h1;have:=M4 h1;split at this
   · rename_i he
     obtain⟨x,h1,h2⟩:=this;rw[if_pos he];exact⟨h0,x,h1,Ow P ks r _ _ _ _ hg.2 h2.2⟩
   · rename_i he
     rw[if_neg he];obtain⟨x,l',b1,b2,b3⟩:=this;exact⟨x,l',b1,b2,(Wv b3.1).1,(Wv b3.1).2,h0,Ow P ks r _ _ _ _ hg.2 b3.2⟩
section
variable {P:Program} {n b:Nat} {Q:Ex→Env→Ac→Prop} {ks:List Nat} {gs:List (Option Nat)} {g:Nat} {env:Env} {l:List Grp} {K:Env→List Grp→Prop} {f:Bool} {fl:List Bool} {r:List AOp} {dst:Option Nat} {args:List AArg} {k:AK}
theorem zdw {L:List AOp} (ks:List Nat) (ws:List Nat) (gs:List (Option Nat)) (hw:∀ w∈ws,0<w) (hg:gsOk gs L=true) (h:xy P ks gs fl L env (l++ws.map Io) fun env' l'=>Q .normal env' (hl l')):@Kj ⟨T P n b (.gry fl L) env (hl l) Q⟩:=z1x ws hw (zqw ks (Ow P ks L gs fl env _ hg h))
theorem xy1:xy P ks gs fl [] env l K=K env l:=by simp only[xy]
theorem xy2:xy P ks (none::gs) (false::fl) (⟨dst,args,none,k⟩::r) env l K=@opG P k l (args.map (·.eval env)) ⟨fun x l'=>effY ks k l l'∧xy P ks gs fl r (env.put dst x) l' K⟩:=by simp only[xy];exact propext ⟨fun h=>h.2,fun h=>⟨fun h0=>(by cases h0),h⟩⟩
theorem xy3:xy P ks (none::gs) (true::fl) (⟨dst,args,none,k⟩::r) env l K=(Bj (·∉ks) (args.map (·.eval env))∧@opG P k l (args.map (·.eval env)) ⟨fun x l'=>effY ks k l l'∧xy P ks gs fl r (env.put dst x) l' K⟩):=by simp only[xy];exact propext ⟨fun h=>⟨h.1 rfl,h.2⟩,fun h=>⟨fun _=>h.1,h.2⟩⟩
theorem xy4 {d:Nat} {want:Bool}:xy P ks (none::gs) (false::fl) (⟨dst,args,some (d,want),k⟩::r) env l K=@Ej (env d) want
     ⟨@opG P k l (args.map (·.eval (env.put (some d) (.bool want)))) ⟨fun x l'=>effY ks k l l'∧xy P ks gs fl r ((env.put (some d) (.bool want)).put dst x) l' K⟩⟩
     ⟨xy P ks gs fl r ((env.put (some d) (.bool (!want))).put dst (.tup [])) l K⟩ ⟨xy P ks gs fl r (env.put dst (.tup [])) l K⟩:=by simp only[xy];exact Gp (propext ⟨fun h=>h.2,fun h=>⟨fun h0=>(by cases h0),h⟩⟩)
theorem xy5 {d:Nat} {want:Bool}:xy P ks (none::gs) (true::fl) (⟨dst,args,some (d,want),k⟩::r) env l K=@Ej (env d) want
     ⟨Bj (·∉ks) (args.map (·.eval (env.put (some d) (.bool want))))∧@opG P k l (args.map (·.eval (env.put (some d) (.bool want)))) ⟨fun x l'=>effY ks k l l'∧xy P ks gs fl r ((env.put (some d) (.bool want)).put dst x) l' K⟩⟩
     ⟨xy P ks gs fl r ((env.put (some d) (.bool (!want))).put dst (.tup [])) l K⟩ ⟨xy P ks gs fl r (env.put dst (.tup [])) l K⟩:=by simp only[xy];exact Gp (propext ⟨fun h=>⟨h.1 rfl,h.2⟩,fun h=>⟨fun _=>h.1,h.2⟩⟩)
theorem xy6 {z:AV} {w:Nat}:xy P ks (some g::gs) (f::fl) (⟨dst,[],none,.alloc z w⟩::r) env l K=(g<l.length∧(hl l).at_ g=⟨w,1,true,[]⟩∧g∈ks∧∀ l',(hl l).set g ⟨w,2,true,[z]⟩=hl l'→xy P ks gs fl r (env.put dst (.ptr g 2 0 0)) l' K):=by simp only[xy];rfl
theorem xy6b {a:AArg}:xy P ks (some g::gs) (f::fl) (⟨dst,[a],none,.box⟩::r) env l K=(Eo (a.eval env).cells=true∧0<(a.eval env).cells.length∧g<l.length∧(hl l).at_ g=⟨(a.eval env).cells.length,1,true,[]⟩∧g∈ks∧∀ l',(hl l).set g ⟨(a.eval env).cells.length,2,true,[a.eval env]⟩=hl l'→xy P ks gs fl r (env.put dst (.ptr g 2 0 0)) l' K):=by simp only[xy];rfl
theorem xy6m {a a':AArg} {w m:Nat} {z:AV}:xy P ks (some g::gs) (f::fl) (⟨dst,[a,a'],none,.mkSlice w m z⟩::r) env l K=@twoI (a.eval env) (a'.eval env) ⟨fun i c=>0≤i∧i≤c∧c * m≤140737488355328∧g<l.length∧(hl l).at_ g=⟨w,1,true,[]⟩∧g∈ks∧∀ l',(hl l).set g ⟨w,2,true,List.replicate c.toNat z⟩=hl l'→xy P ks gs fl r (env.put dst (.ref g 2 0 i.toNat)) l' K⟩:=by simp only[xy];rfl
theorem z69 {k k':IntKind} {a c:Int} {K:Int→Int→Prop}:@twoI (.int k a) (.int k' c) ⟨K⟩=K a c:=rfl
theorem xy7:xy P ks [] fl (⟨dst,args,none,k⟩::r) env l K=xy P ks [none] fl (⟨dst,args,none,k⟩::r) env l K:=by simp only[xy];rfl
theorem xy8 {d:Nat} {want:Bool}:xy P ks [] fl (⟨dst,args,some (d,want),k⟩::r) env l K=xy P ks [none] fl (⟨dst,args,some (d,want),k⟩::r) env l K:=by simp only[xy];rfl
variable {l2:List Grp}
theorem zle {w s:Nat} {z:AV}:effY ks (.app w s z) l l2=B7 0 ks l l2:=rfl
theorem Z5:effY ks .mapSet l l2=B7 0 ks l l2:=rfl
theorem z6a:effY ks .mkMap l l2=B7 0 ks l l2:=rfl
theorem z6b {s:Nat}:effY ks (.store s) l l2=(B7 0 ks l l2∧l2.length=l.length):=rfl
theorem zts  : effY ks (.mv ) l l2=True:=rfl
theorem zdx  : effY ks (.pick ) l l2=True:=rfl
theorem z6c {a0:AV} {a1:Nat}:effY ks (.alloc a0 a1) l l2=True:=rfl
theorem zlf  : effY ks (.box ) l l2=True:=rfl
theorem z6d {a0:List AV} {a1:List (Nat × Nat)} {a2:List Nat}:effY ks (.build a0 a1 a2) l l2=True:=rfl
theorem Z6 {a0:Nat} {a1:Nat} {a2:AV} {a3:List Nat}:effY ks (.bslice a0 a1 a2 a3) l l2=True:=rfl
theorem zdy {a0:Bool} {a1:Nat}:effY ks (.load a0 a1) l l2=True:=rfl
theorem Rh  : effY ks (.nilCheck ) l l2=True:=rfl
theorem zlg {a0:BinOp}:effY ks (.bin a0) l l2=True:=rfl
theorem zlh {a0:Bool}:effY ks (.eqb a0) l l2=True:=rfl
theorem zli {a0:Bool} {a1:List Nat}:effY ks (.eqs a0 a1) l l2=True:=rfl
theorem zlj {a0:Bool}:effY ks (.eqn a0) l l2=True:=rfl
theorem ztt {a0:UnOp}:effY ks (.un a0) l l2=True:=rfl
theorem zdz {a0:IntKind}:effY ks (.conv a0) l l2=True:=rfl
theorem z6e  : effY ks (.toStr ) l l2=True:=rfl
theorem z6f {a0:Nat} {a1:Bool} {a2:Bool} {a3:Bool}:effY ks (.slice a0 a1 a2 a3) l l2=True:=rfl
theorem z6g {a0:Bool} {a1:Nat} {a2:Nat}:effY ks (.faddr a0 a1 a2) l l2=True:=rfl
theorem z6h {a0:Bool} {a1:Nat} {a2:Nat}:effY ks (.field a0 a1 a2) l l2=True:=rfl
theorem z6i {a0:Nat}:effY ks (.iaddr a0) l l2=True:=rfl
theorem Z7 {a0:Nat} {a1:Nat} {a2:Bool}:effY ks (.iaddrA a0 a1 a2) l l2=True:=rfl
theorem z6j {a0:Nat} {a1:Nat} {a2:Bool}:effY ks (.index a0 a1 a2) l l2=True:=rfl
theorem Ri  : effY ks (.indexStr ) l l2=True:=rfl
theorem Uc {a0:Nat}:effY ks (.extract a0) l l2=True:=rfl
theorem zlk {a0:Bool}:effY ks (.len a0) l l2=True:=rfl
theorem zll  : effY ks (.max ) l l2=True:=rfl
theorem zlm  : effY ks (.min ) l l2=True:=rfl
theorem Ud {a0:Nat} {a1:Nat} {a2:AV}:effY ks (.mkSlice a0 a1 a2) l l2=True:=rfl
theorem Z8 {a0:Nat}:effY ks (.mkFunc a0) l l2=True:=rfl
theorem Z9 {a0:AV}:effY ks (.mapGet a0) l l2=True:=rfl
theorem ze0  : effY ks (.call ) l l2=True:=rfl
end
theorem yy:type_of% (And.intro @xy1 <| And.intro @xy2 <| And.intro @xy3 <| And.intro @xy4 <| And.intro @xy5 <| And.intro @xy6 <| And.intro @xy6b <| And.intro @xy6m <| And.intro @z69 <| And.intro @xy7 <| And.intro @xy8 <| And.intro @zle <| And.intro @Z5 <| And.intro @z6a <| And.intro @z6b <| And.intro @zts <| And.intro @zdx <| And.intro @z6c <| And.intro @zlf <| And.intro @z6d <| And.intro @Z6 <| And.intro @zdy <| And.intro @Rh <| And.intro @zlg <| And.intro @zlh <| And.intro @zli <| And.intro @zlj <| And.intro @ztt <| And.intro @zdz <| And.intro @z6e <| And.intro @z6f <| And.intro @z6g <| And.intro @z6h <| And.intro @z6i <| And.intro @Z7 <| And.intro @z6j <| And.intro @Ri <| And.intro @Uc <| And.intro @zlk <| And.intro @zll <| And.intro @zlm <| And.intro @Ud <| And.intro @Z8 <| And.intro @Z9 <| And.intro @ze0 <| And.intro @sb1 <| @sb2):=And.intro @xy1 <| And.intro @xy2 <| And.intro @xy3 <| And.intro @xy4 <| And.intro @xy5 <| And.intro @xy6 <| And.intro @xy6b <| And.intro @xy6m <| And.intro @z69 <| And.intro @xy7 <| And.intro @xy8 <| And.intro @zle <| And.intro @Z5 <| And.intro @z6a <| And.intro @z6b <| And.intro @zts <| And.intro @zdx <| And.intro @z6c <| And.intro @zlf <| And.intro @z6d <| And.intro @Z6 <| And.intro @zdy <| And.intro @Rh <| And.intro @zlg <| And.intro @zlh <| And.intro @zli <| And.intro @zlj <| And.intro @ztt <| And.intro @zdz <| And.intro @z6e <| And.intro @z6f <| And.intro @z6g <| And.intro @z6h <| And.intro @z6i <| And.intro @Z7 <| And.intro @z6j <| And.intro @Ri <| And.intro @Uc <| And.intro @zlk <| And.intro @zll <| And.intro @zlm <| And.intro @Ud <| And.intro @Z8 <| And.intro @Z9 <| And.intro @ze0 <| And.intro @sb1 <| @sb2
def Ent (n b:Nat) (env:Env) (H:Ac) (env':Env) (H':Ac):Prop:=∀ (S:MS) (val:Nat→Value),b≤S.n→SRel S H→(∀ i,i<n→VRel S (env i) (val i)) →
 ∃ S',S'.w=S.w∧BEvo b S S'∧SRel S' H'∧∀ i,i<n→VRel S' (env' i) (val i)
section
variable {P:Program} {n b:Nat} {env env':Env} {H H':Ac} {Q:Ex→Env→Ac→Prop}
theorem Ent.refl:Ent n b env H env H:=fun S val hb hS hv=>⟨S,rfl,.refl hb,hS,hv⟩
theorem Ent.trans {env2:Env} {H2:Ac} (h1:Ent n b env H env' H') (h2:Ent n b env' H' env2 H2):Ent n b env H env2 H2:=fun S val hb hS hv=>by
 obtain⟨S1,a1,a2,a3,a4⟩:=h1 S val hb hS hv;obtain⟨S2,c1,c2,c3,c4⟩:=h2 S1 val a2.n a3 a4;exact⟨S2,c1.trans a1,a2.trans c2,c3,c4⟩
theorem Rj {c:AC} (he:Ent n b env H env' H') (h:T P n b c env' H' Q):T P n b c env H Q:=by
 intro rd mm hrd code hc S a hbS hS hF;obtain⟨S',hw,hev,hS',hv⟩:=he S (fun i=>a.tmps.getD i undef) hbS hS hF.val;have:=h rd mm hrd code hc S' a hev.n hS' ⟨hF.size,hF.defers.of hev.base hev.size hev.keep hev.fresh (fun b hb=>hev.kept b (.inr hb)),hv⟩;rw[hw] at this;exact wpIn_mono this fun e a w hh=>hh.trans hev
theorem Ng {σ:Type} (Fact:σ→Prop) (μ:σ→Nat) (envs:σ→Env) (heap:σ→Ac) {c:AC} (s0:σ) (h0:Fact s0) (he:Ent n b env H (envs s0) (heap s0))
   (round:∀ s,Fact s→T P n b c (envs s) (heap s) (Ex.then (fun env' H'=>∃ s',Ent n b env' H' (envs s') (heap s')∧Fact s'∧μ s'<μ s) Q)):T P n b (.loop c) env H Q:=by
 refine zkw (fun s env H=>Fact s∧Ent n b env H (envs s) (heap s)) μ s0 ⟨h0,he⟩ fun s env H hI=>?_;refine Rj hI.2 (T.mono (round s hI.1) fun x env' H' hh=>?_);cases x with
 | normal=>obtain⟨s',k1,k2,k3⟩:=hh;exact⟨s',⟨k2,k1⟩,k3⟩
 | exit id=>exact hh
 | ret=>exact hh
theorem J5 (live:List (Nat × AV)) (h:∀ p∈live,env p.1=p.2):Ent n b env H (C8 live) H:=fun S val hb hS hv=>by
 refine⟨S,rfl,.refl hb,hS,fun i hi=>?_⟩
 have key:∀ (l:List (Nat × AV)),(∀ p∈l,env p.1=p.2)→VRel S (C8 l i) (val i):=fun l=>by
   induction l with
   | nil=>exact fun _=>trivial
   | cons p l ih =>
     intro hp;obtain⟨t,y⟩:=p;show VRel S (if i=t then y else C8 l i) _;split
     · rename_i hit
       subst hit;have e:env i=y:=hp (i,y) (by simp);rw[←e];exact hv i hi
     · exact ih fun p hp'=>hp p (by simp[hp'])
 exact key live h
mutual
theorem z6k:∀ x:AV,ren (fun g=>g) x=x
 | .any|.bool _|.int _ _|.str _|.nilS|.nul|.emp|.nilP|.nilF|.yld _|.lst _ _|.full _ _|.cptr _|.map _ _|.ref _ _ _ _|.ptr _ _ _ _=>rfl
 | .agg cs=>by rw[ren,I8 cs]
 | .tup cs=>by rw[ren,I8 cs]
 | .fn f cs=>by rw[ren,I8 cs]
theorem I8:∀ xs:List AV,renL (fun g=>g) xs=xs
 | []=>rfl
 | x::xs=>by rw[renL,z6k x,I8 xs]
end
theorem Ww {l gar:List Grp} (hb:b≤l.length) (hcl:∀ G∈l,ltL l.length G.xs) (hlive:∀ i,i<n→ltV l.length (env i)):Ent n b env (hl (l++gar)) env (hl l):=fun S val hbS hS hv=>by
 have hn:S.n=l.length+gar.length:=by rw[←List.length_append];exact hS.n
 have hat:∀ g,g<l.length→(hl (l++gar)).at_ g=(hl l).at_ g:=fun g hg=>by
   rw[Ck,Ck];simp[List.getD,List.getElem?_append_left hg]
 let S':MS:={ S with n:=l.length }
 have hdown:∀ (x:AV) {v:Value},ltV l.length x→VRel S x v→VRel S' x v:=fun x v hx h=>by
   rw[←z6k x] at h;exact z5p (A:=S') (B:=S) (σ:=fun g=>g) (m:=l.length) rfl (fun b hb=>hb) (fun g hg=>⟨hg,rfl,rfl,rfl,rfl⟩) x hx h
 have hdownL:∀ (xs:List AV) {vs:List Value},ltL l.length xs→Ae S xs vs→Ae S' xs vs:=fun xs vs hx h=>by
   rw[←I8 xs] at h;exact Fp (A:=S') (B:=S) (σ:=fun g=>g) (m:=l.length) rfl (fun b hb=>hb) (fun g hg=>⟨hg,rfl,rfl,rfl,rfl⟩) xs hx h
 refine⟨S',rfl,⟨rfl,rfl,rfl,rfl,Nat.le_refl _,fun _ _=>rfl,fun _ h=>h,fun _ h=>h,fun _ h=>.inl h,hb,fun _ _=>Nat.le_refl _,fun _ _ _=>⟨rfl,rfl,rfl⟩⟩,⟨rfl,fun g hg=>?_,fun g g' hg hg' hne hw hw'=>?_,hS.im⟩,fun i hi=>hdown _ (hlive i hi) (hv i hi)⟩
 · have hg':g<l.length:=hg
   have hG:=hS.grp g (by show g<(l++gar).length;rw[List.length_append];omega);rw[hat g hg'] at hG;have hm:(hl l).at_ g∈l:=by rw[Ck,List.getD_eq_getElem?_getD,List.getElem?_eq_getElem hg'];exact List.getElem_mem _
   have hc:=hcl _ hm;refine⟨hG.ver,hG.wid,fun hw hcap=>?_,hG.len,hG.full,fun hw he=>?_⟩
   · obtain⟨⟨cells,TT,vs,a1,a2,a3,a4⟩,a5⟩:=hG.live hw hcap
     exact⟨⟨cells,TT,vs,a1,a2,hdownL _ hc a3,a4⟩,a5⟩
   · obtain⟨⟨es,clock,a1,a2⟩,a5⟩:=hG.mlive hw he
     exact⟨⟨es,clock,a1,hdownL _ hc a2⟩,a5⟩
 · have hg1:g<l.length:=hg
   have hg2:g'<l.length:=hg';rw[←hat g hg1] at hw;rw[←hat g' hg2] at hw';exact hS.apart g g' (by show g<(l++gar).length;rw[List.length_append];omega) (by show g'<(l++gar).length;rw[List.length_append];omega) hne hw hw'
theorem z6l {l:List Grp} (ws:List Nat) (hw:∀ w∈ws,0<w):Ent n b env (hl l) env (hl (l++ws.map Io)):=fun S val hbS hS hv=>by
 obtain⟨S',e1,e2,e3,e4⟩:=Wo ws (env:=fun i=>if i<n then env i else .any) (val:=val) hw hS (fun i=>by
   show VRel S (if i<n then env i else .any) _;split
   · exact hv i (by assumption)
   · trivial)
 refine⟨S',e1,e2.down hbS,e3,fun i hi=>?_⟩;have:=e4 i;simp only[if_pos hi] at this;exact this
theorem zln {l l':List Grp} (h:Ic l l l') (hv:∀ i,i<n→leS l (env i) (env' i)):Ent n b env (hl l) env' (hl l'):=fun S val hbS hS hval =>
 ⟨S,rfl,.refl hbS,Jy hS h,fun i hi=>Yx (.inl hS) _ (hv i hi) (hval i hi)⟩
theorem ze1 (i d:Nat) (ks:List Nat) (hok:Cn d (H.only ks) (env i)):Ent n b env H (env.put (some i) (frzV d (H.only ks) (env i))) (H.kill ks):=fun S val hbS hS hv=>by
 refine⟨S.kill H ks,rfl,(Gn ks hS).down hbS,Pg ks hS,fun j hj=>?_⟩;show VRel _ (if j=i then _ else _) _;split
 · rename_i hji
   subst hji;exact Ph ks hS d hok (hv j hj)
 · exact VRel.mono (Gn ks hS) _ (hv j hj)
theorem zpj {c:AC} (he:Ent n b env H env' H') (h:@Kj ⟨T P n b c env' H' Q⟩):@Kj ⟨T P n b c env H Q⟩:=Rj he h
end
end Go.Proofs.YtbcjoeadpjfcfaaGreat.Abs
namespace Go.Proofs.YtbcjoeadpjfcfaaGreat
open Abs
def Cf (r:Rule):Bool:=decide ((r.guards.length:Int)=0)
def toD (l:List Rule) (i:Nat):List Int:=(l.filter fun r=>Cf r&&decide (r.from_=i)).map (·.to_)
def inD (l:List Rule) (j:Nat):Int:=((l.filter fun r=>Cf r&&decide (r.to_=j)).length:Int)
def cntE (l:List Rule) (P:List Int) (j:Nat):Int:=((l.filter fun r=>Cf r&&(decide (r.to_=j)&&!decide (r.from_∈P))).length:Int)
theorem Wx (l:List Rule) (j:Nat):cntE l [] j=inD l j:=by simp[cntE,inD]
theorem zpk (l:List Rule) (P:List Int) (j:Nat):0≤cntE l P j:=by simp only[cntE];omega
theorem zpl (l:List Rule) (P:List Int) (j:Nat):cntE l P j≤cntE l [] j:=by
 simp only[cntE]
 have:(l.filter fun r=>Cf r&&(decide (r.to_=j)&&!decide (r.from_∈P))).length≤(l.filter fun r=>Cf r&&(decide (r.to_=j)&&!decide (r.from_∈([]:List Int)))).length:=by
   induction l with
   | nil=>simp
   | cons r l ih =>
     simp only[List.filter_cons];cases Cf r<;>cases decide (r.to_=(j:Int))<;>cases decide (r.from_∈P)<;>simp at ih ⊢<;>omega
 omega
theorem Wz {s j:Nat} {P:List Int} (hs:(s:Int)∉P):∀ l:List Rule,cntE l (P++[(s:Int)]) j+((toD l s).count (j:Int):Int)=cntE l P j
 | []=>by simp[cntE,toD]
 | r::l=>by
   have ih:=Wz (j:=j) hs l;simp only[cntE,toD,List.filter_cons] at ih ⊢;cases he:Cf r
   · simpa using ih
   · simp only[Bool.true_and]
     by_cases ht:r.to_=j
     · by_cases hf:r.from_=s
       · have h1:r.from_∈P++[(s:Int)]:=by simp[hf]
         have h2:r.from_∉P:=by rw[hf];exact hs
         simp only[ht,hf] at h1 h2 ⊢;simp only[decide_true,h1,h2,decide_false,Bool.not_true,Bool.not_false,Bool.and_false,Bool.and_true,if_true,Bool.false_eq_true,if_false,List.length_cons,List.map_cons,List.count_cons_self,ht]
         push_cast
         omega
       · have h1:(r.from_∈P++[(s:Int)])↔r.from_∈P:=by simp[hf]
         by_cases h2:r.from_∈P
         · simp only[ht,hf,h1,h2,decide_true,decide_false,Bool.not_true,Bool.and_false,Bool.false_eq_true,if_false]
           exact ih
         · simp only[ht,hf,h1,h2,decide_true,decide_false,Bool.not_false,Bool.and_true,if_true,Bool.false_eq_true,if_false,List.length_cons]
           push_cast
           omega
     · by_cases hf:r.from_=s
       · simp only[ht,hf,decide_false,decide_true,Bool.false_and,Bool.false_eq_true,if_false,if_true,List.map_cons]
         rw[List.count_cons_of_ne ht];exact ih
       · simp only[ht,hf,decide_false,Bool.false_and,Bool.false_eq_true,if_false]
         exact ih
theorem J6:∀ {a b:List Int},a.Nodup→(∀ x∈a,x∈b)→a.length≤b.length
 | [],b,_,_=>Nat.zero_le _
 | x::a,b,hn,h=>by
   obtain⟨h1,h2⟩:=List.nodup_cons.1 hn;have hx:=h x (by simp);have:=J6 (a:=a) (b:=b.erase x) h2 fun y hy=>(List.mem_erase_of_ne (fun (e:y=x)=>h1 (by rw[←e];exact hy))).2 (h y (by simp[hy]));rw[List.length_erase_of_mem hx] at this;have:=List.length_pos_of_mem hx;simp only[List.length_cons];omega
def idsN (n:Nat):List Int:=(List.range n).map fun (i:Nat)=>(i:Int)
theorem ze2 (n:Nat):(idsN n).Nodup:=by
 rw[idsN,List.nodup_iff_pairwise_ne,List.pairwise_map];exact (List.nodup_iff_pairwise_ne.1 (List.nodup_range)).imp fun h e=>h (by omega)
theorem W0 {n:Nat} {x:Int}:x∈idsN n↔0≤x∧x<n:=by
 simp only[idsN,List.mem_map,List.mem_range];constructor
 · rintro⟨i,hi,rfl⟩;omega
 · rintro⟨h1,h2⟩;exact⟨x.toNat,by omega,by omega⟩
def zlo (l:List Rule) (n:Nat) (C:Int→Prop):Prop:=∀ j,C j→(0≤j∧j<n)∧∃ r∈l,Cf r=true∧r.to_=j∧C r.from_
def cycP (l:List Rule) (n:Nat):Prop:=∃ C,zlo l n C∧∃ j,C j
structure KInv (l:List Rule) (n:Nat) (D:List Int) (I:Nat→Int):Prop where
 nodup:D.Nodup
 range:∀ x∈D,0≤x∧x<n
 zero:∀ j,j<n→((j:Int)∈D↔I j=0)
 apart:∀ C,zlo l n C→∀ x∈D,¬C x
theorem KInv.len {l:List Rule} {n:Nat} {D:List Int} {I:Nat→Int} (h:KInv l n D I):D.length≤n:=by
 have:=J6 h.nodup fun x hx=>W0.2 (h.range x hx);simpa [idsN] using this
def Lg (f:Nat→Int) (k:Nat):List Int:=((List.range k).filter fun j=>decide (f j=0)).map fun (j:Nat)=>(j:Int)
theorem z9l (f:Nat→Int) (k:Nat):Lg f (k+1)=if f k=0 then Lg f k++[(k:Int)] else Lg f k:=by
 rw[Lg,List.range_succ,List.filter_append,List.map_append];split
 · rename_i h;simp[Lg,h]
 · rename_i h;simp[Lg,h]
theorem ze3 (f:Nat→Int) (k:Nat):(Lg f k).length≤k:=by
 have:=List.length_filter_le (fun j=>decide (f j=0)) (List.range k);simpa [Lg] using this
theorem zpm {l:List Rule} {r:Rule} {j:Nat} (hr:r∈l) (he:Cf r=true) (ht:r.to_=j):0<inD l j:=by
 have:0<(l.filter fun r=>Cf r&&decide (r.to_=j)).length:=List.length_pos_of_mem (List.mem_filter.2 ⟨hr,by simp[he,ht]⟩);simp only[inD];omega
theorem zj0 {l:List Rule} {P:List Int} {r:Rule} {j:Nat} (hr:r∈l) (he:Cf r=true) (ht:r.to_=j) (hf:r.from_∉P):0<cntE l P j:=by
 have:0<(l.filter fun r=>Cf r&&(decide (r.to_=j)&&!decide (r.from_∈P))).length:=List.length_pos_of_mem (List.mem_filter.2 ⟨hr,by simp[he,ht,hf]⟩);simp only[cntE];omega
theorem z9m (l:List Rule) (n:Nat):KInv l n (Lg (inD l) n) (cntE l []) where
 nodup:=by
   rw[Lg,List.nodup_iff_pairwise_ne,List.pairwise_map];exact ((List.nodup_iff_pairwise_ne.1 (List.nodup_range)).filter _).imp fun h e=>h (by omega)
 range x hx:=by
   obtain⟨i,hi,rfl⟩:=List.mem_map.1 hx;have:=(List.mem_filter.1 hi).1;simp at this;omega
 zero j hj:=by
   rw[Wx];simp only[Lg,List.mem_map,List.mem_filter,List.mem_range,decide_eq_true_eq];constructor
   · rintro⟨i,⟨h1,h2⟩,e⟩
     obtain rfl:i=j:=by omega
     exact h2
   · intro h;exact⟨j,⟨hj,h⟩,rfl⟩
 apart C hC x hx hCx:=by
   obtain⟨i,hi,rfl⟩:=List.mem_map.1 hx;have h0:=(List.mem_filter.1 hi).2;simp only[decide_eq_true_eq] at h0;obtain⟨_,r,hr,he,ht,_⟩:=hC _ hCx;have:=zpm hr he ht;omega
def E0 (l:List Rule) (P:List Int) (s m:Nat) (j:Nat):Int:=cntE l P j-(((toD l s).take m).count (j:Int):Int)
theorem Ue (l:List Rule) (P:List Int) (s:Nat):E0 l P s 0=cntE l P:=by funext j;simp[E0]
theorem ze4 {l:List Rule} {P:List Int} {s:Nat} (hs:(s:Int)∉P):E0 l P s (toD l s).length=cntE l (P++[(s:Int)]):=by
 funext j;have:=Wz (j:=j) hs l;rw[E0,List.take_length];omega
theorem z6m {l:List Rule} {P:List Int} {s m j:Nat} (hs:(s:Int)∉P):cntE l (P++[(s:Int)]) j≤E0 l P s m j:=by
 have h1:=Wz (j:=j) hs l;have h2:=(List.take_sublist m (toD l s)).count_le (j:Int);rw[E0];omega
theorem Nh {l:List Rule} {P:List Int} {s m t:Nat} (hm:m<(toD l s).length) (ht:nth (toD l s) m=t):E0 l P s (m+1)=fun j=>if j=t then E0 l P s m t-1 else E0 l P s m j:=by
 funext j;rw[E0,take_at hm,List.count_append,ht];by_cases e:j=t
 · subst e;simp[E0];omega
 · have h0:List.count (j:Int) [(t:Int)]=0:=List.count_eq_zero.2 (by simp;omega)
   rw[if_neg e,h0,E0];omega
theorem z00 {l:List Rule} {P:List Int} {s m t:Nat} (hs:(s:Int)∉P) (hm:m<(toD l s).length) (ht:nth (toD l s) m=t):0<E0 l P s m t:=by
 have h1:=z6m (l:=l) (m:=m+1) (j:=t) hs;have h2:=zpk l (P++[(s:Int)]) t;rw[Nh hm ht] at h1;simp only[if_true] at h1;omega
theorem ze5 {l:List Rule} {n:Nat} {P td:List Int} {s m t:Nat} (hs:(s:Int)∉P) (hm:m<(toD l s).length) (ht:nth (toD l s) m=t) (htn:t<n) (h:KInv l n (P++[(s:Int)]++td) (E0 l P s m)) :
   KInv l n (P++[(s:Int)]++if E0 l P s m t-1=0 then td++[(t:Int)] else td) (E0 l P s (m+1)):=by
 have hp:=z00 hs hm ht
 have hno:(t:Int)∉P++[(s:Int)]++td:=fun hh=>by
   have:=(h.zero t htn).1 hh;omega
 have hst:=Nh (P:=P) hm ht;split
 · rename_i h0
   rw[←List.append_assoc];refine⟨List.nodup_append.2 ⟨h.nodup,by simp,fun a ha b hb=>?_⟩,fun x hx=>?_,fun j hj=>?_,fun C hC x hx hCx=>?_⟩
   · simp only[List.mem_singleton] at hb
     subst hb;exact fun e=>hno (e ▸ ha)
   · rcases List.mem_append.1 hx with hx|hx
     · exact h.range x hx
     · simp only[List.mem_singleton] at hx;omega
   · rw[hst,List.mem_append,List.mem_singleton]
     by_cases e:j=t
     · subst e;simp[h0]
     · simp only[if_neg e]
       rw[←h.zero j hj];exact⟨fun hh=>hh.elim id fun hh=>absurd hh (by omega),.inl⟩
   · rcases List.mem_append.1 hx with hx|hx
     · exact h.apart C hC x hx hCx
     · simp only[List.mem_singleton] at hx
       subst hx;obtain⟨_,r,hr,he,hrt,hrf⟩:=hC _ hCx;have hf:r.from_∉P++[(s:Int)]:=fun hh=>h.apart C hC _ (List.mem_append.2 (.inl hh)) hrf;have h1:=zj0 hr he hrt hf;have h2:=z6m (l:=l) (m:=m+1) (j:=t) hs;rw[hst] at h2;simp only[if_true] at h2;omega
 · rename_i h0
   refine⟨h.nodup,h.range,fun j hj=>?_,h.apart⟩;rw[hst];by_cases e:j=t
   · subst e;simp only[if_true];exact⟨fun hh=>absurd hh hno,fun hh=>absurd hh h0⟩
   · simp only[if_neg e];exact h.zero j hj
theorem ze6 {l:List Rule} {n:Nat} {P:List Int} (hl:∀ r∈l,0≤r.from_∧r.from_<n) (h:KInv l n P (cntE l P)):P.length<n↔cycP l n:=by
 constructor
 · intro hlt
   refine⟨fun j=>(0≤j∧j<n)∧j∉P,fun j hj=>⟨hj.1,?_⟩,?_⟩
   · have h0:cntE l P j.toNat≠0:=fun h0=>hj.2 (by
       have:=(h.zero j.toNat (by omega)).2 h0
       rwa [show ((j.toNat:Nat):Int)=j by omega] at this)
     have:0<(l.filter fun r=>Cf r&&(decide (r.to_=(j.toNat:Nat))&&!decide (r.from_∈P))).length:=by
       simp only[cntE] at h0;omega
     obtain⟨r,hr⟩:=List.exists_mem_of_length_pos this;obtain⟨h1,h2⟩:=List.mem_filter.1 hr;simp only[Bool.and_eq_true,decide_eq_true_eq,Bool.not_eq_true',decide_eq_false_iff_not] at h2;exact⟨r,h1,h2.1,by rw[h2.2.1];omega,hl r h1,h2.2.2⟩
   · refine Classical.byContradiction fun hno=>?_
     have:=J6 (ze2 n) fun x hx=>Classical.byContradiction fun hp=>hno ⟨x,W0.1 hx,hp⟩;simp[idsN] at this;omega
 · rintro⟨C,hC,j,hj⟩
   have hr:=(hC j hj).1;have hjP:j∉P:=fun hh=>h.apart C hC j hh hj
   have:=J6 (a:=j::P) (b:=idsN n) (List.nodup_cons.2 ⟨hjP,h.nodup⟩) fun x hx=>by
     rcases List.mem_cons.1 hx with rfl|hx
     · exact W0.2 hr
     · exact W0.2 (h.range x hx)
   simp[idsN] at this;omega
def onF (l:List Rule) (on:Nat→Bool) (j:Nat):Bool:=l.any fun r=>Cf r&&(on r.from_.toNat&&decide (r.to_=j))
def onK (l:List Rule):Nat→Nat→Bool
 | 0=>fun _=>true
 | k+1=>onF l (onK l k)
def Kl (l:List Rule) (on:Nat→Bool):Bool:=l.any fun r=>Cf r&&on r.from_.toNat
def cycR (l:List Rule) (n:Nat):Bool:=(List.range (n+1)).all fun k=>Kl l (onK l k)
theorem zj1 {l:List Rule} {p q:Nat→Bool} (h:∀ j,p j=true→q j=true) (j:Nat):onF l p j=true→onF l q j=true:=by
 simp only[onF,List.any_eq_true,Bool.and_eq_true,decide_eq_true_eq];rintro⟨r,hr,h1,h2,h3⟩;exact⟨r,hr,h1,h _ h2,h3⟩
theorem W2 (l:List Rule):∀ (k j:Nat),onK l (k+1) j=true→onK l k j=true
 | 0,j,_=>rfl
 | k+1,j,h=>zj1 (fun j=>W2 l k j) j h
theorem filter_lt {p q:Nat→Bool} (h:∀ j,p j=true→q j=true):∀ {l:List Nat} {x:Nat},x∈l→q x=true→p x=false→(l.filter p).length<(l.filter q).length
 | [],_,hx,_,_=>by cases hx
 | y::l,x,hx,hq,hp=>by
   have hle:∀ l:List Nat,(l.filter p).length≤(l.filter q).length:=fun l=>by
     induction l with
     | nil=>simp
     | cons a l ih =>
       simp only[List.filter_cons];have:=h a;cases hpa:p a<;>cases hqa:q a<;>simp_all<;>omega
   simp only[List.filter_cons];rcases List.mem_cons.1 hx with rfl|hx
   · have:=hle l
     simp only[hp,hq,Bool.false_eq_true,if_false,if_true,List.length_cons];omega
   · have ih:=filter_lt h hx hq hp
     have:=h y;cases hpa:p y<;>cases hqa:q y<;>simp_all<;>omega
theorem z6n {l:List Rule} {n:Nat} (hl:∀ r∈l,(0≤r.from_∧r.from_<n)∧0≤r.to_∧r.to_<n):cycR l n=true↔cycP l n:=by
 rw[cycR,List.all_eq_true];constructor
 · intro h
   have hex:∃ k,k≤n∧∀ j,j<n→onK l k j=true→onK l (k+1) j=true:=by
     refine Classical.byContradiction fun hno=>?_
     have hstep:∀ k,k≤n→∃ j,j<n∧onK l k j=true∧onK l (k+1) j=false:=fun k hk=>Classical.byContradiction fun hc=>hno ⟨k,hk,fun j hj h1=>by
       cases h2:onK l (k+1) j
       · exact absurd ⟨j,hj,h1,h2⟩ hc
       · rfl⟩
     have key:∀ k,k≤n+1→((List.range n).filter (onK l k)).length+k≤n:=fun k=>by
       induction k with
       | zero =>
         intro _;have:=List.length_filter_le (onK l 0) (List.range n);simpa using this
       | succ k ih =>
         intro hk;obtain⟨j,hj,h1,h2⟩:=hstep k (by omega);have:=filter_lt (fun j=>W2 l k j) (List.mem_range.2 hj) h1 h2;have:=ih (by omega);omega
     have:=key (n+1) (Nat.le_refl _);omega
   obtain⟨k,hk,hs⟩:=hex;refine⟨fun j=>0≤j∧j<n∧onK l k j.toNat=true,fun j hj=>⟨⟨hj.1,hj.2.1⟩,?_⟩,?_⟩
   · have h1:=hs j.toNat (by omega) hj.2.2
     simp only[onK,onF,List.any_eq_true,Bool.and_eq_true,decide_eq_true_eq] at h1;obtain⟨r,hr,he,hf,ht⟩:=h1;have hb:=hl r hr;exact⟨r,hr,he,by omega,by omega,by omega,hf⟩
   · have h1:=h k (by simp;omega)
     simp only[Kl,List.any_eq_true,Bool.and_eq_true] at h1;obtain⟨r,hr,_,hf⟩:=h1;have hb:=hl r hr;exact⟨r.from_,by omega,by omega,hf⟩
 · rintro⟨C,hC,j,hj⟩ k _
   have key:∀ k i,C i→onK l k i.toNat=true:=fun k=>by
     induction k with
     | zero=>exact fun _ _=>rfl
     | succ k ih =>
       intro i hi;obtain⟨h1,r,hr,he,ht,hf⟩:=hC i hi;simp only[onK,onF,List.any_eq_true,Bool.and_eq_true,decide_eq_true_eq];exact⟨r,hr,he,ih _ hf,by omega⟩
   obtain⟨_,r,hr,he,_,hf⟩:=hC j hj;simp only[Kl,List.any_eq_true,Bool.and_eq_true];exact⟨r,hr,he,key k _ hf⟩
end Go.Proofs.YtbcjoeadpjfcfaaGreat
namespace Go.Proofs.YtbcjoeadpjfcfaaGreat.Abs
theorem z9n {n b:Nat} {env:Env} {l l':List Grp} {g w v d:Nat} {ex:Bool} {x:AV} (ks:List Nat) (hw:0<w) (hlt:g<l.length) (hg:l.getD g default=⟨w,v,ex,[x]⟩) (hk:g∉ks)
   (hok:Cn d ((hl l).only ks) x) (hl':(Es 0 ks l).set g ⟨w,v,ex,[frzV d ((hl l).only ks) x]⟩=l'):Ent n b env (hl l) env (hl l'):=fun S val hb hS hv=>by
 subst hl';have hS1:=Pg ks hS;have he:=Gn ks hS;refine⟨S.kill (hl l) ks,rfl,he.down hb,?_,fun i hi=>VRel.mono he _ (hv i hi)⟩;have hlk:g<(Es 0 ks l).length:=by rw[Ga];exact hlt
 have hat0:∀ j,j<l.length→((hl l).kill ks).at_ j=(Es 0 ks l).getD j default:=fun j hj=>by
   rw[Lw 0 ks l j hj,Nat.zero_add];rfl
 have hn:(hl ((Es 0 ks l).set g ⟨w,v,ex,[frzV d ((hl l).only ks) x]⟩)).n=((hl l).kill ks).n:=by simp[hl,Ac.kill,Ga]
 have hlen:((hl l).kill ks).n=l.length:=rfl
 have hat:∀ j,j<l.length→(hl ((Es 0 ks l).set g ⟨w,v,ex,[frzV d ((hl l).only ks) x]⟩)).at_ j=if j=g then ⟨w,v,ex,[frzV d ((hl l).only ks) x]⟩ else ((hl l).kill ks).at_ j:=fun j hj=>by
   rw[Ck];by_cases e:j=g
   · subst e;rw[if_pos rfl];exact K7 _ hlk
   · rw[if_neg e,hat0 j hj];exact Fl _ (Ne.symm e)
 have hgk:((hl l).kill ks).at_ g=⟨w,v,ex,[x]⟩:=by
   show (if g∈ks then _ else _)=_;rw[if_neg hk,Ck,hg]
 have h1:GRel (S.kill (hl l) ks) ⟨w,v,ex,[x]⟩ g:=by have:=hS1.grp g (by rw[hlen];exact hlt);rwa [hgk] at this
 have h0:GRel S ⟨w,v,ex,[x]⟩ g:=by have:=hS.grp g hlt;rwa [Ck,hg] at this
 have hG:GRel (S.kill (hl l) ks) ⟨w,v,ex,[frzV d ((hl l).only ks) x]⟩ g:=by
   refine⟨h1.ver,h1.wid,fun _ hc=>?_,fun hh=>h1.len hh,fun hh he=>h1.full hh he,fun hh=>by simp only at hh;omega⟩;obtain⟨⟨cells,TT,vs,a1,a2,a3,a4⟩,_⟩:=h0.live hw hc;refine⟨⟨cells,TT,vs,a1,a2,?_,a4⟩,(h1.live hw hc).2⟩;obtain⟨u,r,rfl,hu,hr⟩:=a3;exact⟨u,r,rfl,Ph ks hS d hok hu,hr.mono he⟩
 have hhas:∀ j,j<l.length→((hl ((Es 0 ks l).set g ⟨w,v,ex,[frzV d ((hl l).only ks) x]⟩)).at_ j).has ((S.kill (hl l) ks).cap j)→(((hl l).kill ks).at_ j).has ((S.kill (hl l) ks).cap j):=fun j hj h=>by
   rw[hat j hj] at h;by_cases e:j=g
   · subst e;rw[if_pos rfl] at h;rw[hgk];exact h
   · rw[if_neg e] at h;exact h
 refine⟨hS1.n.trans hn.symm,fun j hj=>?_,fun j j' a c hne p q=>hS1.apart j j' (by rwa [hn] at a) (by rwa [hn] at c) hne (hhas j (by rwa [hn] at a) p) (hhas j' (by rwa [hn] at c) q),hS1.im⟩;rw[hn] at hj;rw[hat j hj];by_cases e:j=g
 · subst e;rw[if_pos rfl];exact hG
 · rw[if_neg e];exact hS1.grp j hj
mutual
theorem zlp {m:Nat} {σ:Nat→Nat} (h:∀ g,g<m→σ g=g):∀ x:AV,ltV m x→ren σ x=x
 | .any,_|.bool _,_|.int _ _,_|.str _,_|.nilS,_|.nul,_|.emp,_|.nilP,_|.nilF,_|.yld _,_|.lst _ _,_|.full _ _,_|.cptr _,_=>rfl
 | .map g v,hx=>by rw[ren,h g hx]
 | .ref g v o n,hx=>by rw[ren,h g hx]
 | .ptr g v i o,hx=>by rw[ren,h g hx]
 | .agg cs,hx=>by rw[ren,Ni h cs hx]
 | .tup cs,hx=>by rw[ren,Ni h cs hx]
 | .fn f cs,hx=>by rw[ren,Ni h cs hx]
theorem Ni {m:Nat} {σ:Nat→Nat} (h:∀ g,g<m→σ g=g):∀ xs:List AV,ltL m xs→renL σ xs=xs
 | [],_=>rfl
 | x::xs,hx=>by rw[renL,zlp h x hx.1,Ni h xs hx.2]
end
theorem zj2 {m N g:Nat} (h:g<m):sg (List.range m) N g=g:=by
 unfold sg;rw[if_pos (by simpa using h)];simp[List.getD,h]
theorem ze7 {m:Nat} {σ:Nat→Nat} (h:∀ g,g<m→σ g=g) {G:Grp} (hG:ltL m G.xs):renG σ G=G:=by
 cases G with
 | mk w v e xs=>rw[reG,Ni h xs hG]
theorem Uf:∀ (r extra pre:List Grp) (l:List Grp),l.length=r.length→setG ((List.range r.length).map (·+pre.length)) r (pre++l++extra)=pre++r++extra
 | [],extra,pre,l,h=>by
   have:l=[]:=List.eq_nil_of_length_eq_zero (by simpa using h);subst this;simp[setG]
 | G::r,extra,pre,[],h=>by simp at h
 | G::r,extra,pre,a::l,h=>by
   rw[List.length_cons,List.range_succ_eq_map,List.map_cons,List.map_map,zdc];have e1:(pre++a::l++extra).set (0+pre.length) G=(pre++[G])++l++extra:=by simp
   have e2:(List.range r.length).map ((fun x=>x+pre.length) ∘ Nat.succ)=(List.range r.length).map (·+(pre++[G]).length):=List.map_congr_left fun i _=>by simp;omega
   rw[e1,e2,Uf r extra (pre++[G]) l (by simpa using h)];simp
theorem ze8 {P:Program} {f:Nat} {xs:List AV} {l0 extra:List Grp} {K0 K:AV→Ac→Prop} (h:Bi P f xs (hl l0) K0) (hlt:ltL l0.length xs) (hltG:∀ G∈l0,ltL l0.length G.xs)
   (hK:∀ y H',K0 y H'→∃ l',H'=hl l'∧l'.length=l0.length∧ltV l0.length y∧(∀ G∈l',ltL l0.length G.xs)∧@nx y (hl (l'++extra)) ⟨K⟩):@Vw P f xs (hl (l0++extra)) ⟨K⟩:=by
 have hs:∀ g,g<l0.length→sg (List.range l0.length) (l0++extra).length g=g:=fun g hg=>zj2 hg;have hll:(List.range l0.length).length=l0.length:=by simp
 refine Q5 (List.range l0.length) h List.nodup_range (fun k hk=>by simp at hk ⊢;omega) (Ni hs xs hlt) ?_ (by rw[hll];exact hlt) (by rw[hll];exact hltG) ?_
 · refine List.ext_getElem (by simp) fun i h1 h2=>?_
   have hi:i<l0.length:=by simpa using h1
   simp only[List.getElem_map,List.getElem_range];rw[ze7 hs (hltG _ (List.getElem_mem hi))];simp[List.getD,List.getElem?_append_left hi,hi]
 · intro y H' hy
   obtain⟨l',rfl,h1,h2,h3,h4⟩:=hK y H' hy;refine⟨l',rfl,by rw[hll,h1];exact Nat.le_refl _,?_⟩;rw[zlp hs y h2];have e1:l'.map (renG (sg (List.range l0.length) (l0++extra).length))=l':=(List.map_congr_left fun G hG=>ze7 hs (h3 G hG)).trans (List.map_id _);rw[e1];have e2:=Uf l' extra [] l0 h1.symm;simp only[List.length_nil,Nat.add_zero,List.map_id',List.nil_append,h1] at e2;rw[e2];exact h4
end Go.Proofs.YtbcjoeadpjfcfaaGreat.Abs
