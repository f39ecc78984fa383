/-
  Parts of the proof that the law holds whatever the input; without conditions.
-/
import Derived.Test.YtbcjoeadpjfcfaaGreatRQ4
import Derived.Test.YtbcjoeadpjfcfaaGreatRQ3
set_option linter.unusedSimpArgs false
set_option linter.unusedVariables false
set_option linter.unusedSectionVars false
namespace Go.Proofs.YtbcjoeadpjfcfaaGreat
open Abs O1 O2 O3
def sumP(w:List Int):List Part->Int->Option Int
 |[],a=>some a
 |p::l,a=>if EC p w.length then sumP w l (IntKind.i64.wrap (a+val1 p (nth w p.at_.toNat))) else none
def symB(x:Int):Bool:=decide (0<=x/\x<=1114111)
def Ei(t:Term)(w:List Int):Option Int :=
 if w.all symB then
  match sumP w t.parts t.sum with
  |some x=>if valB t.outer x&&decide (x<=1114111) then some (IntKind.i64.wrap (t.base+valP t.outer x)) else none
  |none=>none
 else none
abbrev optV(o:Option Int):AV:=.tup [.int .i64 (o.getD 0),.bool o.isSome]
theorem zfg{w:List Int}{l:List Part}{k:Nat}{a:Int}(h:k<l.length):sumP w (l.drop k) a=if EC (nth l k) w.length then sumP w (l.drop (k+1)) (IntKind.i64.wrap (a+val1 (nth l k) (nth w (nth l k).at_.toNat))) else none:=by
 rw[drop_at h,sumP]
theorem HB{p:Part}{n:Int}(h:EC p n=true):0<=p.at_/\p.at_<n:=by
 simp only[EC,Ab,Ad] at h;exact h.1
theorem QI{w:List Int}{k:Nat}(h:k<w.length):(w.drop k).all symB=(symB (nth w k)&&(w.drop (k+1)).all symB):=by rw[drop_at h,List.all_cons]
theorem z0g(t:Term)(w:List Int)(hl:t.parts.length<=1000000000000)(hw:w.length<=1000000000000)(h32:∀x∈w,-2147483648<=x/\x<=2147483647):PC Tryz.prog 103 [F5 t,A4 w] (optV (Ei t w)):=by
 refine BA UC ?_;unfold MH;(with_reducible repeat'(first|simp (disch:=omega) only[push_cast,↓zz,seval]|apply Aa|refine sp_ ?_ ?_<;>intro hc<;>push_cast at hc|omega|intro _));refine AQ (AX (λ(k:Nat)=>k<=w.length/\w.all symB=(w.drop k).all symB) (λk=>w.length-k) (λk=>[(1,A4 w),(2,.ptr 0 1 0 0),(15,A4 w),(16,.int .i64 w.length),(17,.int .i64 k)]) (λ_=>[⟨6,1,true,[F5 t]⟩]) (λenv _=>[Cf 0 (env 2)]) 0 (by simp) ?_ ?_)
 ·(with_reducible repeat'(first|simp (disch:=omega) only[push_cast,↓zz,seval]|apply Aa|refine sp_ ?_ ?_<;>intro hc<;>push_cast at hc|omega|intro _))
 rintro k ⟨hk,hr⟩;refine W_T ?_;(with_reducible repeat'(first|simp (disch:=omega) only[push_cast,↓zz,seval]|apply Aa|refine sp_ ?_ ?_<;>intro hc<;>push_cast at hc|omega|intro _))
 ·have e:Ei t w=none:=by
   rw[QI (by omega)] at hr;have:symB (nth w k)=false:=by simp[symB];omega
   simp[Ei,hr,this]
  rw[e];(repeat'(first|(simp(disch:=omega)only[push_cast,↓zz,seval,Dq])|omega|(with_reducible refine Aa ?_ ?_)))
 ·refine⟨k+1,?_⟩
  (with_reducible repeat'(first|simp (disch:=omega) only[push_cast,↓zz,seval]|apply Aa|refine sp_ ?_ ?_<;>intro hc<;>push_cast at hc|omega|intro _));rw[hr,QI (by omega)];have:symB (nth w k)=true:=by simp[symB];omega
  simp[this]
 ·have e:Ei t w=none:=by
   rw[QI (by omega)] at hr;have:symB (nth w k)=false:=by simp[symB];omega
   simp[Ei,hr,this]
  rw[e];(repeat'(first|(simp(disch:=omega)only[push_cast,↓zz,seval,Dq])|omega|(with_reducible refine Aa ?_ ?_)))
 ·have hall:w.all symB=true:=by rw[hr,Aj (by omega)];rfl
  clear hr;have hw32:∀j,j<w.length->IntKind.i64.wrap (nth w j)=nth w j:=λj hj=>by have:=h32 _ (AL hj);exact IntWalk.i64_in _ (by omega)
  refine AQ (AX (λ(s:Nat × Int)=>s.1<=t.parts.length/\sumP w t.parts t.sum=sumP w (t.parts.drop s.1) s.2) (λs=>t.parts.length-s.1) (λs=>[(1,A4 w),(2,.ptr 0 1 0 0),(8,.int .i64 s.2),(31,G7 t.parts),(32,.int .i64 t.parts.length),(33,.int .i64 s.1)]) (λ_=>[⟨6,1,true,[F5 t]⟩]) (λenv _=>[Cf 0 (env 2)]) (0,t.sum) (by simp) ?_ ?_)
  ·(with_reducible repeat'(first|simp (disch:=omega) only[push_cast,↓zz,seval]|apply Aa|refine sp_ ?_ ?_<;>intro hc<;>push_cast at hc|omega|intro _))
  rintro⟨k,a⟩ ⟨hk,hr2⟩;simp only at hk hr2;refine W_T ?_;(with_reducible repeat'(first|simp (disch:=omega) only[push_cast,↓zz,seval,hw32]|apply Aa|refine sp_ ?_ ?_<;>intro hc<;>push_cast at hc<;>(try have hk:=HB hc)|(have q_:=Hh (nth t.parts k) w.length;refine ee q_ ?_;clear q_)|(have q_:=Im (nth t.parts k) (nth w (nth t.parts k).at_.toNat);refine ee q_ ?_;clear q_)|(have q_:=GH t;refine ee q_ ?_;clear q_)|(have q_:=Im t.outer a;refine ee q_ ?_;clear q_)|(have q_:=Hh (nth t.parts k) w.length;refine cc q_ ?_;clear q_;(simp(disch:=omega)only[push_cast,↓zz,seval,hw32]);(fail_if_success change False))|(have q_:=Im (nth t.parts k) (nth w (nth t.parts k).at_.toNat);refine cc q_ ?_;clear q_;(simp(disch:=omega)only[push_cast,↓zz,seval,hw32]);(fail_if_success change False))|(have q_:=GH t;refine cc q_ ?_;clear q_;(simp(disch:=omega)only[push_cast,↓zz,seval,hw32]);(fail_if_success change False))|(have q_:=Im t.outer a;refine cc q_ ?_;clear q_;(simp(disch:=omega)only[push_cast,↓zz,seval,hw32]);(fail_if_success change False))|omega|intro _))
  all_goals first
   |(rw[zfg (by omega)] at hr2
     first
     |(have e:Ei t w=none:=by simp[Ei, *]
       rw[e];(repeat'(first|(simp(disch:=omega)only[push_cast,↓zz,seval,Dq])|omega|(with_reducible refine Aa ?_ ?_)));done)
     |(refine⟨(k+1,IntKind.i64.wrap (a+val1 (nth t.parts k) (nth w (nth t.parts k).at_.toNat))),?_⟩
       (with_reducible repeat'(first|simp (disch:=omega) only[push_cast,↓zz,seval]|apply Aa|refine sp_ ?_ ?_<;>intro hc<;>push_cast at hc|omega|intro _))
       rw[hr2];simp[‹EC (nth t.parts k) w.length=true›];done))
   |(rw[Aj (by omega)] at hr2
     (have hs:sumP w t.parts t.sum=some a:=hr2)
     (have hv:Ei t w=if valB t.outer a&&decide (a<=1114111) then some (IntKind.i64.wrap (t.base+valP t.outer a)) else none:=by simp only[Ei,hall,hs,AY])
     first
     |(rw[hv,Ac (by simp only[Ab,Ad,not_and];intro h;first|omega|(rw[‹valB t.outer a=false›] at h;cases h))];(repeat'(first|(simp(disch:=omega)only[push_cast,↓zz,seval,Dq])|omega|(with_reducible refine Aa ?_ ?_)));done)
     |((have hv1:val1 t.outer a=valP t.outer a:=by simp only[val1,‹valB t.outer a=true›,AY])
       rw[hv,Ae (by simp only[Ab,Ad];exact⟨‹_›,by omega⟩),hv1];(repeat'(first|(simp(disch:=omega)only[push_cast,↓zz,seval,Dq])|omega|(with_reducible refine Aa ?_ ?_)));done))
theorem z5i(t:Term)(w:List Int)(hl:t.parts.length<=1000000000000)(hw:w.length<=1000000000000)(h32:∀x∈w,-2147483648<=x/\x<=2147483647):PC Tryz.prog 112 [F5 t,A4 w] (optV (Ei t w)):=by
 refine BA Sl ?_;unfold Lp;(with_reducible repeat'(first|simp (disch:=omega) only[push_cast,↓zz,seval]|apply Aa|refine sp_ ?_ ?_<;>intro hc<;>push_cast at hc|omega|intro _));refine AQ (AX (λ(k:Nat)=>k<=w.length/\w.all symB=(w.drop k).all symB) (λk=>w.length-k) (λk=>[(1,A4 w),(2,.ptr 0 1 0 0),(6,.int .i64 k)]) (λ_=>[⟨6,1,true,[F5 t]⟩]) (λenv _=>[Cf 0 (env 2)]) 0 (by simp) ?_ ?_)
 ·(with_reducible repeat'(first|simp (disch:=omega) only[push_cast,↓zz,seval]|apply Aa|refine sp_ ?_ ?_<;>intro hc<;>push_cast at hc|omega|intro _))
 rintro k ⟨hk,hr⟩;refine W_T ?_;(with_reducible repeat'(first|simp (disch:=omega) only[push_cast,↓zz,seval]|apply Aa|refine sp_ ?_ ?_<;>intro hc<;>push_cast at hc|omega|intro _))
 ·have e:Ei t w=none:=by
   rw[QI (by omega)] at hr;have:symB (nth w k)=false:=by simp[symB];omega
   simp[Ei,hr,this]
  rw[e];(repeat'(first|(simp(disch:=omega)only[push_cast,↓zz,seval,Dq])|omega|(with_reducible refine Aa ?_ ?_)))
 ·refine⟨k+1,?_⟩
  (with_reducible repeat'(first|simp (disch:=omega) only[push_cast,↓zz,seval]|apply Aa|refine sp_ ?_ ?_<;>intro hc<;>push_cast at hc|omega|intro _));rw[hr,QI (by omega)];have:symB (nth w k)=true:=by simp[symB];omega
  simp[this]
 ·have e:Ei t w=none:=by
   rw[QI (by omega)] at hr;have:symB (nth w k)=false:=by simp[symB];omega
   simp[Ei,hr,this]
  rw[e];(repeat'(first|(simp(disch:=omega)only[push_cast,↓zz,seval,Dq])|omega|(with_reducible refine Aa ?_ ?_)))
 ·have hall:w.all symB=true:=by rw[hr,Aj (by omega)];rfl
  clear hr;have hw32:∀j,j<w.length->IntKind.i64.wrap (nth w j)=nth w j:=λj hj=>by have:=h32 _ (AL hj);exact IntWalk.i64_in _ (by omega)
  refine AQ (AX (λ(s:Nat × Int)=>s.1<=t.parts.length/\sumP w t.parts t.sum=sumP w (t.parts.drop s.1) s.2) (λs=>t.parts.length-s.1) (λs=>[(1,A4 w),(2,.ptr 0 1 0 0),(7,.int .i64 s.2),(8,.int .i64 s.1)]) (λ_=>[⟨6,1,true,[F5 t]⟩]) (λenv _=>[Cf 0 (env 2)]) (0,t.sum) (by simp) ?_ ?_)
  ·(with_reducible repeat'(first|simp (disch:=omega) only[push_cast,↓zz,seval]|apply Aa|refine sp_ ?_ ?_<;>intro hc<;>push_cast at hc|omega|intro _))
  rintro⟨k,a⟩ ⟨hk,hr2⟩;simp only at hk hr2;refine W_T ?_;(with_reducible repeat'(first|simp (disch:=omega) only[push_cast,↓zz,seval,hw32]|apply Aa|refine sp_ ?_ ?_<;>intro hc<;>push_cast at hc<;>(try have hk:=HB hc)|(have q_:=IC (nth t.parts k) w.length;refine ee q_ ?_;clear q_)|(have q_:=Ht (nth t.parts k) (nth w (nth t.parts k).at_.toNat);refine ee q_ ?_;clear q_)|(have q_:=Io t;refine ee q_ ?_;clear q_)|(have q_:=Ht t.outer a;refine ee q_ ?_;clear q_)|(have q_:=IC (nth t.parts k) w.length;refine cc q_ ?_;clear q_;(simp(disch:=omega)only[push_cast,↓zz,seval,hw32]);(fail_if_success change False))|(have q_:=Ht (nth t.parts k) (nth w (nth t.parts k).at_.toNat);refine cc q_ ?_;clear q_;(simp(disch:=omega)only[push_cast,↓zz,seval,hw32]);(fail_if_success change False))|(have q_:=Io t;refine cc q_ ?_;clear q_;(simp(disch:=omega)only[push_cast,↓zz,seval,hw32]);(fail_if_success change False))|(have q_:=Ht t.outer a;refine cc q_ ?_;clear q_;(simp(disch:=omega)only[push_cast,↓zz,seval,hw32]);(fail_if_success change False))|omega|intro _))
  all_goals first
   |(rw[zfg (by omega)] at hr2
     first
     |(have e:Ei t w=none:=by simp[Ei, *]
       rw[e];(repeat'(first|(simp(disch:=omega)only[push_cast,↓zz,seval,Dq])|omega|(with_reducible refine Aa ?_ ?_)));done)
     |(refine⟨(k+1,IntKind.i64.wrap (a+val1 (nth t.parts k) (nth w (nth t.parts k).at_.toNat))),?_⟩
       (with_reducible repeat'(first|simp (disch:=omega) only[push_cast,↓zz,seval]|apply Aa|refine sp_ ?_ ?_<;>intro hc<;>push_cast at hc|omega|intro _))
       rw[hr2];simp[‹EC (nth t.parts k) w.length=true›];done))
   |(rw[Aj (by omega)] at hr2
     (have hs:sumP w t.parts t.sum=some a:=hr2)
     (have hv:Ei t w=if valB t.outer a&&decide (a<=1114111) then some (IntKind.i64.wrap (t.base+valP t.outer a)) else none:=by simp only[Ei,hall,hs,AY])
     first
     |(rw[hv,Ac (by simp only[Ab,Ad,not_and,valB];intro h;first|omega|(rw[‹valB t.outer a=false›] at h;cases h))];(repeat'(first|(simp(disch:=omega)only[push_cast,↓zz,seval,Dq])|omega|(with_reducible refine Aa ?_ ?_)));done)
     |(rw[hv,Ac (by simp only[Ab,Ad,not_and];intro h;first|omega|(rw[‹valB t.outer a=false›] at h;cases h))];(repeat'(first|(simp(disch:=omega)only[push_cast,↓zz,seval,Dq])|omega|(with_reducible refine Aa ?_ ?_)));done)
     |((have hv1:val1 t.outer a=valP t.outer a:=by simp only[val1,‹valB t.outer a=true›,AY])
       rw[hv,Ae (by simp only[Ab,Ad];exact⟨‹_›,by omega⟩),hv1];(repeat'(first|(simp(disch:=omega)only[push_cast,↓zz,seval,Dq])|omega|(with_reducible refine Aa ?_ ?_)));done))
theorem z5j{x:Int}:Hu x=true ↔ -1114111<=x/\x<=1114111:=by simp[Hu]
theorem GK{x:Int}(h:Hu x=true):-1114111<=x/\x<=1114111:=z5j.1 h
abbrev wr(n:Int):Int:=IntKind.i64.wrap n
theorem z5k(n:Int):wr n=(n+9223372036854775808) % 18446744073709551616-9223372036854775808:=by
 show IntKind.i64.wrap n=_;rw[IntWalk.i64_left];unfold RowKit.wrap64;rfl
theorem zjk{n:Int}(h:-9223372036854775808<=n/\n<=9223372036854775807):wr n=n:=by rw[z5k];omega
theorem wr_wr(a b:Int):wr (wr a+b)=wr (a+b):=by rw[z5k,z5k a,z5k (a+b)];omega
theorem wr_bd(a:Int):-9223372036854775808<=wr a/\wr a<=9223372036854775807:=by rw[z5k];omega
def totP(w:List Int):List Part->Int
 |[]=>0
 |p::l=>val1 p (nth w p.at_.toNat)+totP w l
def Mq(w:List Int)(l:List Part):Bool:=l.all λp=>EC p w.length
theorem z5l(w:List Int):∀(l:List Part)(a:Int),wr a=a->sumP w l a=if Mq w l then some (wr (a+totP w l)) else none
 |[],a,h=>by simp[sumP,Mq,totP,h]
 |p::l,a,h=>by
  rw[sumP];cases hp:EC p w.length
  ·simp[Mq,hp]
  ·have ih:=z5l w l (wr (a+val1 p (nth w p.at_.toNat))) (by rw[zjk (wr_bd _)])
   rw[Ae rfl];have e:wr (wr (a+val1 p (nth w p.at_.toNat))+totP w l)=wr (a+totP w (p::l)):=by rw[wr_wr,totP];congr 1;omega
   rw[e] at ih;simp only[Mq,List.all_cons,hp,AF] at ih ⊢;exact ih
theorem z5m{p:Part}{x:Int}(h:GX p=true)(hx:0<=x/\x<=2097151):EK p=true/\valB p x=true/\valP p x=x:=by
 simp only[GX,Ad] at h;obtain⟨h1,h2,h3⟩:=h;have hb:EK p=true:=by simp[EK,h1,h2,h3]
 refine⟨hb,(SB hb hx).1,?_⟩;rw[valP,h1,h2,h3];show x / 2 ^ 0 % 2 ^ 21 * 2 ^ 0=x;omega
end Go.Proofs.YtbcjoeadpjfcfaaGreat
namespace Go.Proofs.YtbcjoeadpjfcfaaGreat
open Abs O1 O2 O3 Go.RowKit
abbrev shI:Sh:=.int .i64
abbrev z5n:Sh:=.sl true [shI,shI]
abbrev SF:Sh:=.sl false [z5n]
abbrev SG:Sh:=.sl false [.int .i32]
abbrev z5o:Sh:=.sl true [shI,shI,shI,shI]
abbrev z5p:List Sh:=[shI,shI,shI,shI,shI,z5o]
abbrev WM:Sh:=.sl true z5p
abbrev z5q:List Sh:=[shI,shI,SF,shI,WM]
abbrev Y7:List Sh:=[shI,SF,WM]
abbrev SH:List Sh:=[shI,shI,shI,shI,.sl true z5q,.sl true Y7]
theorem wf_i64{n:Int}(h:(Lit.int .i64 n).wf=true):-9223372036854775808<=n/\n<=9223372036854775807:=by
 simpa [Lit.wf,IntKind.min,IntKind.max,IntKind.signed,IntKind.bits] using h
theorem wf_i32{n:Int}(h:(Lit.int .i32 n).wf=true):-2147483648<=n/\n<=2147483647:=by
 simpa [Lit.wf,IntKind.min,IntKind.max,IntKind.signed,IntKind.bits] using h
theorem KA{α:Type}{agg:Bool}{fs:List Sh}{x:AV}(f:α->AV)(Q:α->Prop)(hp:∀l:List α,A6 (l.map f)=true)(hpos:0<fs.length)
 (he:∀cs,IsL fs cs->∃a,AV.le (if agg then .agg cs else cs.headD .any) (f a)/\Q a) (h:Is (.sl agg fs) x):∃l:List α,AV.le x (.lst fs.length (l.map f))/\l.length<=maxLen/\∀a∈l,Q a:=by
 rcases h with rfl|⟨xs,rfl,hl,hx⟩
 ·exact⟨[],AV.le_nilS hpos,Aw _,λ_ h=>by cases h⟩
 ·have key:∀xs:List AV,(∀y∈xs,∃cs,y=(if agg then AV.agg cs else cs.headD .any)/\IsL fs cs)->∃l:List α,l.length=xs.length/\leL xs (l.map f)/\∀a∈l,Q a:=by
   intro xs
   induction xs with
   |nil=>intro _;exact⟨[],rfl,Fo,λ_ h=>by cases h⟩
   |cons y r ih =>
    intro hy;obtain⟨l,h1,h2,h3⟩:=ih λz hz=>hy z (List.mem_cons_of_mem _ hz);obtain⟨cs,rfl,hcs⟩:=hy y (List.mem_cons_self ..);obtain⟨a,h4,h5⟩:=he cs hcs;refine⟨a::l,by simp[h1],Bp h4 h2,λb hb=>?_⟩;rcases Ai.1 hb with rfl|hb
    ·exact h5
    ·exact h3 b hb
  obtain⟨l,h1,h2,h3⟩:=key xs hx;exact⟨l,AV.le_lst (by simp[h1]) (hp l) h2,by rw[h1];exact hl,h3⟩
def i64s(l:List Int):Prop:=∀n∈l,(Lit.int .i64 n).wf=true
theorem SI{k:IntKind}{x:AV}(h:Is (.sl false [.int k]) x):∃l:List Int,AV.le x (.lst 1 (l.map (AV.int k)))/\l.length<=maxLen/\∀n∈l,(Lit.int k n).wf=true :=
 KA (fs:=[.int k]) (AV.int k) (λn=>(Lit.int k n).wf=true) (AE k) (by simp) (λcs h=>by
  obtain⟨_,_,rfl,⟨n,rfl,h3⟩,_⟩:=h
  exact⟨n,AV.le_refl _,h3⟩) h
def QJ(s:Span):Prop:=i64s [s.lo,s.hi]
theorem zc0{x:AV}(h:Is z5n x):∃l:List Span,AV.le x (Bn l)/\l.length<=maxLen/\∀s∈l,QJ s :=
 KA C8 QJ Dn (by decide) (λcs h=>by
  obtain⟨_,_,rfl,⟨a,rfl,ha⟩,_,_,rfl,⟨b,rfl,hb⟩,rfl⟩:=h
  exact⟨⟨a,b⟩,AV.le_refl _,by simp[QJ,i64s,ha,hb]⟩) h
theorem Vd{x:AV}(h:Is SF x):∃l:List (List Span),AV.le x (Cv l)/\l.length<=maxLen/\∀g∈l,g.length<=maxLen/\∀s∈g,QJ s :=
 KA Bn (λg=>g.length<=maxLen/\∀s∈g,QJ s) Bs (by decide) (λcs h=>by
  obtain⟨c,_,rfl,hc,_⟩:=h;obtain⟨l,h1,h2,h3⟩:=zc0 hc
  exact⟨l,h1,h2,h3⟩) h
def Y8(p:Part):Prop:=i64s [p.at_,p.drop,p.take,p.up]
theorem zc1{x:AV}(h:Is z5o x):∃l:List Part,AV.le x (G7 l)/\l.length<=maxLen/\∀s∈l,Y8 s :=
 KA F4 Y8 GF (by decide) (λcs h=>by
  obtain⟨_,_,rfl,⟨a,rfl,ha⟩,_,_,rfl,⟨b,rfl,hb⟩,_,_,rfl,⟨c,rfl,hc⟩,_,_,rfl,⟨d,rfl,hd⟩,rfl⟩:=h
  exact⟨⟨a,b,c,d⟩,AV.le_refl _,by simp[Y8,i64s,ha,hb,hc,hd]⟩) h
def Y9(t:Term):Prop:=i64s [t.base,t.drop,t.take,t.up,t.sum]/\t.parts.length<=maxLen/\∀p∈t.parts,Y8 p
theorem zc2{cs:List AV}(h:IsL z5p cs):∃t:Term,AV.le (.agg cs) (F5 t)/\Y9 t:=by
 obtain⟨_,_,rfl,⟨a,rfl,ha⟩,_,_,rfl,⟨b,rfl,hb⟩,_,_,rfl,⟨c,rfl,hc⟩,_,_,rfl,⟨d,rfl,hd⟩,_,_,rfl,⟨e,rfl,he⟩,x,_,rfl,hx,rfl⟩:=h;obtain⟨l,h1,h2,h3⟩:=zc1 hx;exact⟨⟨a,b,c,d,e,l⟩,AV.le_agg (Bp (AV.le_refl _) (Bp (AV.le_refl _) (Bp (AV.le_refl _) (Bp (AV.le_refl _) (Bp (AV.le_refl _) (Bp h1 Fo)))))),by simp[i64s,ha,hb,hc,hd,he],h2,h3⟩
theorem YA{x:AV}(h:Is WM x):∃l:List Term,AV.le x (FU l)/\l.length<=maxLen/\∀t∈l,Y9 t :=
 KA F5 Y9 BP (by decide) (λcs h=>by simpa using zc2 h) h
def YB(g:List (List Span)):Prop:=g.length<=maxLen/\∀l∈g,l.length<=maxLen/\∀s∈l,QJ s
def z5r(l:List Term):Prop:=l.length<=maxLen/\∀t∈l,Y9 t
def z5s(r:Rule):Prop:=i64s [r.from_,r.to_,r.eat]/\YB r.guards/\z5r r.out
def WN(f:FS):Prop:=i64s [f.from_]/\YB f.guards/\z5r f.out
theorem zjl{cs:List AV}(h:IsL z5q cs):∃r:Rule,AV.le (.agg cs) (z09 r)/\z5s r:=by
 obtain⟨_,_,rfl,⟨a,rfl,ha⟩,_,_,rfl,⟨b,rfl,hb⟩,x,_,rfl,hx,_,_,rfl,⟨c,rfl,hc⟩,y,_,rfl,hy,rfl⟩:=h;obtain⟨g,g1,g2,g3⟩:=Vd hx;obtain⟨o,o1,o2,o3⟩:=YA hy;exact⟨⟨a,b,g,c,o⟩,AV.le_agg (Bp (AV.le_refl _) (Bp (AV.le_refl _) (Bp g1 (Bp (AV.le_refl _) (Bp o1 Fo))))),by simp[i64s,ha,hb,hc],⟨g2,g3⟩,o2,o3⟩
theorem zc3{cs:List AV}(h:IsL Y7 cs):∃r:FS,AV.le (.agg cs) (QA r)/\WN r:=by
 obtain⟨_,_,rfl,⟨a,rfl,ha⟩,x,_,rfl,hx,y,_,rfl,hy,rfl⟩:=h;obtain⟨g,g1,g2,g3⟩:=Vd hx;obtain⟨o,o1,o2,o3⟩:=YA hy;exact⟨⟨a,g,o⟩,AV.le_agg (Bp (AV.le_refl _) (Bp g1 (Bp o1 Fo))),by simp[i64s,ha],⟨g2,g3⟩,o2,o3⟩
def zo6(d:Desc):Prop:=i64s [d.in_,d.out,d.states,d.start]/\(d.rules.length<=maxLen/\∀r∈d.rules,z5s r)/\d.finals.length<=maxLen/\∀f∈d.finals,WN f
theorem WO{x:AV}(h:IsP (.rcd SH) x):∃d:Desc,AV.le x (Cu d)/\zo6 d:=by
 obtain⟨_,rfl,_,_,rfl,⟨a,rfl,ha⟩,_,_,rfl,⟨b,rfl,hb⟩,_,_,rfl,⟨c,rfl,hc⟩,_,_,rfl,⟨e,rfl,he⟩,x,_,rfl,hx,y,_,rfl,hy,rfl⟩:=h;obtain⟨r,r1,r2,r3⟩:=KA z09 z5s BF (by decide) (λcs h=>by simpa using zjl h) hx;obtain⟨f,f1,f2,f3⟩:=KA QA WN B9 (by decide) (λcs h=>by simpa using zc3 h) hy;exact⟨⟨a,b,c,e,r,f⟩,AV.le_agg (Bp (AV.le_refl _) (Bp (AV.le_refl _) (Bp (AV.le_refl _) (Bp (AV.le_refl _) (Bp r1 (Bp f1 Fo)))))),by simp[i64s,ha,hb,hc,he],⟨r2,r3⟩,f2,f3⟩
theorem zc4{o:Option Int}(h:o.isSome=true):o=some (o.getD 0):=by cases o<;>simp_all
def Dr(r:Rule):Bool:=decide ((r.guards.length:Int)=0)
def toD(l:List Rule)(i:Nat):List Int:=(l.filter λr=>Dr r&&decide (r.from_=i)).map (·.to_)
def inD(l:List Rule)(j:Nat):Int:=((l.filter λr=>Dr r&&decide (r.to_=j)).length:Int)
def cntE(l:List Rule)(P:List Int)(j:Nat):Int:=((l.filter λr=>Dr r&&(decide (r.to_=j)&&!decide (r.from_∈P))).length:Int)
theorem SJ(l:List Rule)(j:Nat):cntE l [] j=inD l j:=by simp[cntE,inD]
theorem zjm(l:List Rule)(P:List Int)(j:Nat):0<=cntE l P j:=by simp only[cntE];omega
theorem zjn(l:List Rule)(P:List Int)(j:Nat):cntE l P j<=cntE l [] j:=by
 simp only[cntE]
 have:(l.filter λr=>Dr r&&(decide (r.to_=j)&&!decide (r.from_∈P))).length<=(l.filter λr=>Dr r&&(decide (r.to_=j)&&!decide (r.from_∈([]:List Int)))).length:=by
  induction l with
  |nil=>simp
  |cons r l ih =>
   simp only[Ci];cases Dr r<;>cases decide (r.to_=(j:Int))<;>cases decide (r.from_∈P)<;>simp at ih ⊢<;>omega
 omega
theorem SK{s j:Nat}{P:List Int}(hs:(s:Int)∉P):∀l:List Rule,cntE l (P++[(s:Int)]) j+((toD l s).count (j:Int):Int)=cntE l P j
 |[]=>by simp[cntE,toD]
 |r::l=>by
  have ih:=SK (j:=j) hs l;simp only[cntE,toD,Ci] at ih ⊢;cases he:Dr r
  ·simpa using ih
  ·simp only[AF]
   by_cases ht:r.to_=j
   ·by_cases hf:r.from_=s
    ·have h1:r.from_∈P++[(s:Int)]:=by simp[hf]
     have h2:r.from_∉P:=by rw[hf];exact hs
     simp only[ht,hf] at h1 h2 ⊢;simp only[Df,h1,h2,Cl,Dy,E3,Cm,Dx,AY,Au,AZ,List.length_cons,Bj,List.count_cons_self,ht]
     push_cast
     omega
    ·have h1:(r.from_∈P++[(s:Int)])↔r.from_∈P:=by simp[hf]
     by_cases h2:r.from_∈P
     ·simp only[ht,hf,h1,h2,Df,Cl,Dy,Cm,Au,AZ]
      exact ih
     ·simp only[ht,hf,h1,h2,Df,Cl,E3,Dx,AY,Au,AZ,List.length_cons]
      push_cast
      omega
   ·by_cases hf:r.from_=s
    ·simp only[ht,hf,Cl,Df,AI,Au,AZ,AY,Bj]
     rw[List.count_cons_of_ne ht];exact ih
    ·simp only[ht,hf,Cl,AI,Au,AZ]
     exact ih
theorem JK:∀{a b:List Int},a.Nodup->(∀x∈a,x∈b)->a.length<=b.length
 |[],b,_,_=>Aw _
 |x::a,b,hn,h=>by
  obtain⟨h1,h2⟩:=BO.1 hn;have hx:=h x (by simp);have:=JK (a:=a) (b:=b.erase x) h2 λy hy=>(List.mem_erase_of_ne (λ(e:y=x)=>h1 (by rw[<-e];exact hy))).2 (h y (by simp[hy]));rw[List.length_erase_of_mem hx] at this;have:=Dt hx;simp only[List.length_cons];omega
def idsN(n:Nat):List Int:=(List.range n).map λ(i:Nat)=>(i:Int)
theorem z5t(n:Nat):(idsN n).Nodup:=by
 rw[idsN,CP,DG];exact (CP.1 (Dk)).imp λh e=>h (by omega)
theorem SL{n:Nat}{x:Int}:x∈idsN n↔0<=x/\x<n:=by
 simp only[idsN,Ar,Bf];constructor
 ·rintro⟨i,hi,rfl⟩;omega
 ·rintro⟨h1,h2⟩;exact⟨x.toNat,by omega,by omega⟩
def zfh(l:List Rule)(n:Nat)(C:Int->Prop):Prop:=∀j,C j->(0<=j/\j<n)/\∃r∈l,Dr r=true/\r.to_=j/\C r.from_
def cycP(l:List Rule)(n:Nat):Prop:=∃C,zfh l n C/\∃j,C j
structure KInv(l:List Rule)(n:Nat)(D:List Int)(I:Nat->Int):Prop where
 nodup:D.Nodup
 range:∀x∈D,0<=x/\x<n
 zero:∀j,j<n->((j:Int)∈D↔I j=0)
 apart:∀C,zfh l n C->∀x∈D,¬C x
theorem KInv.len{l:List Rule}{n:Nat}{D:List Int}{I:Nat->Int}(h:KInv l n D I):D.length<=n:=by
 have:=JK h.nodup λx hx=>SL.2 (h.range x hx);simpa [idsN] using this
def KB(f:Nat->Int)(k:Nat):List Int:=((List.range k).filter λj=>decide (f j=0)).map λ(j:Nat)=>(j:Int)
theorem z0h(f:Nat->Int)(k:Nat):KB f (k+1)=if f k=0 then KB f k++[(k:Int)] else KB f k:=by
 rw[KB,D1,Cg,Az];split
 ·rename_i h;simp[KB,h]
 ·rename_i h;simp[KB,h]
theorem z5u(f:Nat->Int)(k:Nat):(KB f k).length<=k:=by
 have:=Bz (λj=>decide (f j=0)) (List.range k);simpa [KB] using this
theorem zjo{l:List Rule}{r:Rule}{j:Nat}(hr:r∈l)(he:Dr r=true)(ht:r.to_=j):0<inD l j:=by
 have:0<(l.filter λr=>Dr r&&decide (r.to_=j)).length:=Dt (AW.2 ⟨hr,by simp[he,ht]⟩);simp only[inD];omega
theorem zc5{l:List Rule}{P:List Int}{r:Rule}{j:Nat}(hr:r∈l)(he:Dr r=true)(ht:r.to_=j)(hf:r.from_∉P):0<cntE l P j:=by
 have:0<(l.filter λr=>Dr r&&(decide (r.to_=j)&&!decide (r.from_∈P))).length:=Dt (AW.2 ⟨hr,by simp[he,ht,hf]⟩);simp only[cntE];omega
theorem z0i(l:List Rule)(n:Nat):KInv l n (KB (inD l) n) (cntE l []) where
 nodup:=by
  rw[KB,CP,DG];exact ((CP.1 (Dk)).filter _).imp λh e=>h (by omega)
 range x hx:=by
  obtain⟨i,hi,rfl⟩:=Ar.1 hx;have:=(AW.1 hi).1;simp at this;omega
 zero j hj:=by
  rw[SJ];simp only[KB,Ar,AW,Bf,Ad];constructor
  ·rintro⟨i,⟨h1,h2⟩,e⟩
   obtain rfl:i=j:=by omega
   exact h2
  ·intro h;exact⟨j,⟨hj,h⟩,rfl⟩
 apart C hC x hx hCx:=by
  obtain⟨i,hi,rfl⟩:=Ar.1 hx;have h0:=(AW.1 hi).2;simp only[Ad] at h0;obtain⟨_,r,hr,he,ht,_⟩:=hC _ hCx;have:=zjo hr he ht;omega
def Gs(l:List Rule)(P:List Int)(s m:Nat)(j:Nat):Int:=cntE l P j-(((toD l s).take m).count (j:Int):Int)
theorem QK(l:List Rule)(P:List Int)(s:Nat):Gs l P s 0=cntE l P:=by funext j;simp[Gs]
theorem z5v{l:List Rule}{P:List Int}{s:Nat}(hs:(s:Int)∉P):Gs l P s (toD l s).length=cntE l (P++[(s:Int)]):=by
 funext j;have:=SK (j:=j) hs l;rw[Gs,A3];omega
theorem YC{l:List Rule}{P:List Int}{s m j:Nat}(hs:(s:Int)∉P):cntE l (P++[(s:Int)]) j<=Gs l P s m j:=by
 have h1:=SK (j:=j) hs l;have h2:=(F7 m (toD l s)).count_le (j:Int);rw[Gs];omega
theorem Mr{l:List Rule}{P:List Int}{s m t:Nat}(hm:m<(toD l s).length)(ht:nth (toD l s) m=t):Gs l P s (m+1)=λj=>if j=t then Gs l P s m t-1 else Gs l P s m j:=by
 funext j;rw[Gs,take_at hm,List.count_append,ht];by_cases e:j=t
 ·subst e;simp[Gs];omega
 ·have h0:List.count (j:Int) [(t:Int)]=0:=List.count_eq_zero.2 (by simp;omega)
  rw[Ac e,h0,Gs];omega
theorem Ve{l:List Rule}{P:List Int}{s m t:Nat}(hs:(s:Int)∉P)(hm:m<(toD l s).length)(ht:nth (toD l s) m=t):0<Gs l P s m t:=by
 have h1:=YC (l:=l) (m:=m+1) (j:=t) hs;have h2:=zjm l (P++[(s:Int)]) t;rw[Mr hm ht] at h1;simp only[AY] at h1;omega
theorem z5w{l:List Rule}{n:Nat}{P td:List Int}{s m t:Nat}(hs:(s:Int)∉P)(hm:m<(toD l s).length)(ht:nth (toD l s) m=t)(htn:t<n)(h:KInv l n (P++[(s:Int)]++td) (Gs l P s m)):
 KInv l n (P++[(s:Int)]++if Gs l P s m t-1=0 then td++[(t:Int)] else td) (Gs l P s (m+1)):=by
 have hp:=Ve hs hm ht
 have hno:(t:Int)∉P++[(s:Int)]++td:=λhh=>by
  have:=(h.zero t htn).1 hh;omega
 have hst:=Mr (P:=P) hm ht;split
 ·rename_i h0
  rw[<-Av];refine⟨CH.2 ⟨h.nodup,by simp,λa ha b hb=>?_⟩,λx hx=>?_,λj hj=>?_,λC hC x hx hCx=>?_⟩
  ·simp only[Ao] at hb
   subst hb;exact λe=>hno (e ▸ ha)
  ·rcases Am.1 hx with hx|hx
   ·exact h.range x hx
   ·simp only[Ao] at hx;omega
  ·rw[hst,Am,Ao]
   by_cases e:j=t
   ·subst e;simp[h0]
   ·simp only[Ac e]
    rw[<-h.zero j hj];exact⟨λhh=>hh.elim id λhh=>absurd hh (by omega),.inl⟩
  ·rcases Am.1 hx with hx|hx
   ·exact h.apart C hC x hx hCx
   ·simp only[Ao] at hx
    subst hx;obtain⟨_,r,hr,he,hrt,hrf⟩:=hC _ hCx;have hf:r.from_∉P++[(s:Int)]:=λhh=>h.apart C hC _ (Am.2 (.inl hh)) hrf;have h1:=zc5 hr he hrt hf;have h2:=YC (l:=l) (m:=m+1) (j:=t) hs;rw[hst] at h2;simp only[AY] at h2;omega
 ·rename_i h0
  refine⟨h.nodup,h.range,λj hj=>?_,h.apart⟩;rw[hst];by_cases e:j=t
  ·subst e;simp only[AY];exact⟨λhh=>absurd hh hno,λhh=>absurd hh h0⟩
  ·simp only[Ac e];exact h.zero j hj
theorem z5x{l:List Rule}{n:Nat}{P:List Int}(hl:∀r∈l,0<=r.from_/\r.from_<n)(h:KInv l n P (cntE l P)):P.length<n↔cycP l n:=by
 constructor
 ·intro hlt
  refine⟨λj=>(0<=j/\j<n)/\j∉P,λj hj=>⟨hj.1,?_⟩,?_⟩
  ·have h0:cntE l P j.toNat≠0:=λh0=>hj.2 (by
    have:=(h.zero j.toNat (by omega)).2 h0
    rwa [show ((j.toNat:Nat):Int)=j by omega] at this)
   have:0<(l.filter λr=>Dr r&&(decide (r.to_=(j.toNat:Nat))&&!decide (r.from_∈P))).length:=by
    simp only[cntE] at h0;omega
   obtain⟨r,hr⟩:=List.exists_mem_of_length_pos this;obtain⟨h1,h2⟩:=AW.1 hr;simp only[Ab,Ad,Cb,B3] at h2;exact⟨r,h1,h2.1,by rw[h2.2.1];omega,hl r h1,h2.2.2⟩
  ·refine AU λhno=>?_
   have:=JK (z5t n) λx hx=>AU λhp=>hno ⟨x,SL.1 hx,hp⟩;simp[idsN] at this;omega
 ·rintro⟨C,hC,j,hj⟩
  have hr:=(hC j hj).1;have hjP:j∉P:=λhh=>h.apart C hC j hh hj
  have:=JK (a:=j::P) (b:=idsN n) (BO.2 ⟨hjP,h.nodup⟩) λx hx=>by
   rcases Ai.1 hx with rfl|hx
   ·exact SL.2 hr
   ·exact SL.2 (h.range x hx)
  simp[idsN] at this;omega
def onF(l:List Rule)(on:Nat->Bool)(j:Nat):Bool:=l.any λr=>Dr r&&(on r.from_.toNat&&decide (r.to_=j))
def onK(l:List Rule):Nat->Nat->Bool
 |0=>λ_=>true
 |k+1=>onF l (onK l k)
def JZ(l:List Rule)(on:Nat->Bool):Bool:=l.any λr=>Dr r&&on r.from_.toNat
def cycR(l:List Rule)(n:Nat):Bool:=(List.range (n+1)).all λk=>JZ l (onK l k)
theorem zc6{l:List Rule}{p q:Nat->Bool}(h:∀j,p j=true->q j=true)(j:Nat):onF l p j=true->onF l q j=true:=by
 simp only[onF,B8,Ab,Ad];rintro⟨r,hr,h1,h2,h3⟩;exact⟨r,hr,h1,h _ h2,h3⟩
theorem SN(l:List Rule):∀(k j:Nat),onK l (k+1) j=true->onK l k j=true
 |0,j,_=>rfl
 |k+1,j,h=>zc6 (λj=>SN l k j) j h
theorem filter_lt{p q:Nat->Bool}(h:∀j,p j=true->q j=true):∀{l:List Nat}{x:Nat},x∈l->q x=true->p x=false->(l.filter p).length<(l.filter q).length
 |[],_,hx,_,_=>by cases hx
 |y::l,x,hx,hq,hp=>by
  have hle:∀l:List Nat,(l.filter p).length<=(l.filter q).length:=λl=>by
   induction l with
   |nil=>simp
   |cons a l ih =>
    simp only[Ci];have:=h a;cases hpa:p a<;>cases hqa:q a<;>simp_all<;>omega
  simp only[Ci];rcases Ai.1 hx with rfl|hx
  ·have:=hle l
   simp only[hp,hq,Au,AZ,AY,List.length_cons];omega
  ·have ih:=filter_lt h hx hq hp
   have:=h y;cases hpa:p y<;>cases hqa:q y<;>simp_all<;>omega
theorem YD{l:List Rule}{n:Nat}(hl:∀r∈l,(0<=r.from_/\r.from_<n)/\0<=r.to_/\r.to_<n):cycR l n=true↔cycP l n:=by
 rw[cycR,AJ];constructor
 ·intro h
  have hex:∃k,k<=n/\∀j,j<n->onK l k j=true->onK l (k+1) j=true:=by
   refine AU λhno=>?_
   have hstep:∀k,k<=n->∃j,j<n/\onK l k j=true/\onK l (k+1) j=false:=λk hk=>AU λhc=>hno ⟨k,hk,λj hj h1=>by
    cases h2:onK l (k+1) j
    ·exact absurd ⟨j,hj,h1,h2⟩ hc
    ·rfl⟩
   have key:∀k,k<=n+1->((List.range n).filter (onK l k)).length+k<=n:=λk=>by
    induction k with
    |zero =>
     intro _;have:=Bz (onK l 0) (List.range n);simpa using this
    |succ k ih =>
     intro hk;obtain⟨j,hj,h1,h2⟩:=hstep k (by omega);have:=filter_lt (λj=>SN l k j) (Bf.2 hj) h1 h2;have:=ih (by omega);omega
   have:=key (n+1) (Af _);omega
  obtain⟨k,hk,hs⟩:=hex;refine⟨λj=>0<=j/\j<n/\onK l k j.toNat=true,λj hj=>⟨⟨hj.1,hj.2.1⟩,?_⟩,?_⟩
  ·have h1:=hs j.toNat (by omega) hj.2.2
   simp only[onK,onF,B8,Ab,Ad] at h1;obtain⟨r,hr,he,hf,ht⟩:=h1;have hb:=hl r hr;exact⟨r,hr,he,by omega,by omega,by omega,hf⟩
  ·have h1:=h k (by simp;omega)
   simp only[JZ,B8,Ab] at h1;obtain⟨r,hr,_,hf⟩:=h1;have hb:=hl r hr;exact⟨r.from_,by omega,by omega,hf⟩
 ·rintro⟨C,hC,j,hj⟩ k _
  have key:∀k i,C i->onK l k i.toNat=true:=λk=>by
   induction k with
   |zero=>exact λ_ _=>rfl
   |succ k ih =>
    intro i hi;obtain⟨h1,r,hr,he,ht,hf⟩:=hC i hi;simp only[onK,onF,B8,Ab,Ad];exact⟨r,hr,he,ih _ hf,by omega⟩
  obtain⟨_,r,hr,he,_,hf⟩:=hC j hj;simp only[JZ,B8,Ab];exact⟨r,hr,he,key k _ hf⟩
end Go.Proofs.YtbcjoeadpjfcfaaGreat
namespace Go.Proofs.YtbcjoeadpjfcfaaGreat.Abs
theorem z0j{n b:Nat}{env:Env}{l l':List Grp}{g w v d:Nat}{ex:Bool}{x:AV}(ks:List Nat)(hw:0<w)(hlt:g<l.length)(hg:l.getD g default=⟨w,v,ex,[x]⟩)(hk:g∉ks)
 (hok:Dv d ((hl l).only ks) x) (hl':(Fv 0 ks l).set g ⟨w,v,ex,[frzV d ((hl l).only ks) x]⟩=l'):Ent n b env (hl l) env (hl l'):=λS val hb hS hv=>by
 subst hl';have hS1:=Nx ks hS;have he:=H7 ks hS;refine⟨S.kill (hl l) ks,rfl,he.down hb,?_,λi hi=>VRel.mono he _ (hv i hi)⟩;have hlk:g<(Fv 0 ks l).length:=by rw[Hp];exact hlt
 have hat0:∀j,j<l.length->((hl l).kill ks).at_ j=(Fv 0 ks l).getD j default:=λj hj=>by
  rw[KY 0 ks l j hj,Ba];rfl
 have hn:(hl ((Fv 0 ks l).set g ⟨w,v,ex,[frzV d ((hl l).only ks) x]⟩)).n=((hl l).kill ks).n:=by simp[hl,Ax.kill,Hp]
 have hlen:((hl l).kill ks).n=l.length:=rfl
 have hat:∀j,j<l.length->(hl ((Fv 0 ks l).set g ⟨w,v,ex,[frzV d ((hl l).only ks) x]⟩)).at_ j=if j=g then ⟨w,v,ex,[frzV d ((hl l).only ks) x]⟩ else ((hl l).kill ks).at_ j:=λj hj=>by
  rw[DL];by_cases e:j=g
  ·subst e;rw[Ae rfl];exact Kx _ hlk
  ·rw[Ac e,hat0 j hj];exact GM _ (CW e)
 have hgk:((hl l).kill ks).at_ g=⟨w,v,ex,[x]⟩:=by
  show (if g∈ks then _ else _)=_;rw[Ac hk,DL,hg]
 have h1:GRel (S.kill (hl l) ks) ⟨w,v,ex,[x]⟩ g:=by have:=hS1.grp g (by rw[hlen];exact hlt);rwa [hgk] at this
 have h0:GRel S ⟨w,v,ex,[x]⟩ g:=by have:=hS.grp g hlt;rwa [DL,hg] at this
 have hG:GRel (S.kill (hl l) ks) ⟨w,v,ex,[frzV d ((hl l).only ks) x]⟩ g:=by
  refine⟨h1.ver,h1.wid,λ_ hc=>?_,λhh=>h1.len hh,λhh he=>h1.full hh he,λhh=>by simp only at hh;omega⟩;obtain⟨⟨cells,TT,vs,a1,a2,a3,a4⟩,_⟩:=h0.live hw hc;refine⟨⟨cells,TT,vs,a1,a2,?_,a4⟩,(h1.live hw hc).2⟩;obtain⟨u,r,rfl,hu,hr⟩:=a3;exact⟨u,r,rfl,Ny ks hS d hok hu,hr.mono he⟩
 have hhas:∀j,j<l.length->((hl ((Fv 0 ks l).set g ⟨w,v,ex,[frzV d ((hl l).only ks) x]⟩)).at_ j).has ((S.kill (hl l) ks).cap j)->(((hl l).kill ks).at_ j).has ((S.kill (hl l) ks).cap j):=λj hj h=>by
  rw[hat j hj] at h;by_cases e:j=g
  ·subst e;rw[Ae rfl] at h;rw[hgk];exact h
  ·rw[Ac e] at h;exact h
 refine⟨hS1.n.trans hn.symm,λj hj=>?_,λj j' a c hne p q=>hS1.apart j j' (by rwa [hn] at a) (by rwa [hn] at c) hne (hhas j (by rwa [hn] at a) p) (hhas j' (by rwa [hn] at c) q),hS1.im⟩;rw[hn] at hj;rw[hat j hj];by_cases e:j=g
 ·subst e;rw[Ae rfl];exact hG
 ·rw[Ac e];exact hS1.grp j hj
mutual
theorem zfi{m:Nat}{σ:Nat->Nat}(h:∀g,g<m->σ g=g):∀x:AV,ltV m x->ren σ x=x
 |.any,_|.bool _,_|.int _ _,_|.str _,_|.nilS,_|.nul,_|.emp,_|.nilP,_|.nilF,_|.yld _,_|.lst _ _,_|.full _ _,_|.cptr _,_=>rfl
 |.map g v,hx=>by rw[ren,h g hx]
 |.ref g v o n,hx=>by rw[ren,h g hx]
 |.ptr g v i o,hx=>by rw[ren,h g hx]
 |.agg cs,hx=>by rw[ren,Ms h cs hx]
 |.tup cs,hx=>by rw[ren,Ms h cs hx]
 |.fn f cs,hx=>by rw[ren,Ms h cs hx]
theorem Ms{m:Nat}{σ:Nat->Nat}(h:∀g,g<m->σ g=g):∀xs:List AV,ltL m xs->renL σ xs=xs
 |[],_=>rfl
 |x::xs,hx=>by rw[renL,zfi h x hx.1,Ms h xs hx.2]
end
theorem zc7{m N g:Nat}(h:g<m):sg (List.range m) N g=g:=by
 unfold sg;rw[Ae (by simpa using h)];simp[List.getD,h]
theorem z5y{m:Nat}{σ:Nat->Nat}(h:∀g,g<m->σ g=g){G:Grp}(hG:ltL m G.xs):renG σ G=G:=by
 cases G with
 |mk w v e xs=>rw[reG,Ms h xs hG]
theorem QL:∀(r extra pre:List Grp)(l:List Grp),l.length=r.length->setG ((List.range r.length).map (·+pre.length)) r (pre++l++extra)=pre++r++extra
 |[],extra,pre,l,h=>by
  have:l=[]:=Ay (by simpa using h);subst this;simp[setG]
 |G::r,extra,pre,[],h=>by simp at h
 |G::r,extra,pre,a::l,h=>by
  rw[List.length_cons,List.range_succ_eq_map,Bj,Do,z4y];have e1:(pre++a::l++extra).set (0+pre.length) G=(pre++[G])++l++extra:=by simp
  have e2:(List.range r.length).map ((λx=>x+pre.length) ∘ Nat.succ)=(List.range r.length).map (·+(pre++[G]).length):=AD λi _=>by simp;omega
  rw[e1,e2,QL r extra (pre++[G]) l (by simpa using h)];simp
theorem z5z{P:Program}{f:Nat}{xs:List AV}{l0 extra:List Grp}{K0 K:AV->Ax->Prop}(h:BB P f xs (hl l0) K0)(hlt:ltL l0.length xs)(hltG:∀G∈l0,ltL l0.length G.xs)
 (hK:∀y H',K0 y H'->∃l',H'=hl l'/\l'.length=l0.length/\ltV l0.length y/\(∀G∈l',ltL l0.length G.xs)/\@nx y (hl (l'++extra)) ⟨K⟩):@RO P f xs (hl (l0++extra)) ⟨K⟩:=by
 have hs:∀g,g<l0.length->sg (List.range l0.length) (l0++extra).length g=g:=λg hg=>zc7 hg;have hll:(List.range l0.length).length=l0.length:=by simp
 refine GU (List.range l0.length) h Dk (λk hk=>by simp at hk ⊢;omega) (Ms hs xs hlt) ?_ (by rw[hll];exact hlt) (by rw[hll];exact hltG) ?_
 ·refine BI (by simp) λi h1 h2=>?_
  have hi:i<l0.length:=by simpa using h1
  simp only[EN,Es];rw[z5y hs (hltG _ (BZ hi))];simp[List.getD,A8 hi,hi]
 ·intro y H' hy
  obtain⟨l',rfl,h1,h2,h3,h4⟩:=hK y H' hy;refine⟨l',rfl,by rw[hll,h1];exact Af _,?_⟩;rw[zfi hs y h2];have e1:l'.map (renG (sg (List.range l0.length) (l0++extra).length))=l':=(AD λG hG=>z5y hs (h3 G hG)).trans (List.map_id _);rw[e1];have e2:=QL l' extra [] l0 h1.symm;simp only[List.length_nil,Nat.add_zero,List.map_id',List.nil_append,h1] at e2;rw[e2];exact h4
end Go.Proofs.YtbcjoeadpjfcfaaGreat.Abs
