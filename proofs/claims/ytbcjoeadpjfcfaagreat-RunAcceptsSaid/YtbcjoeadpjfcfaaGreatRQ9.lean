/-
  Parts of the proof that the law holds whatever the input; without conditions.
-/
import Derived.Test.YtbcjoeadpjfcfaaGreatRQ8
import Derived.Test.YtbcjoeadpjfcfaaGreatRQ7
set_option linter.unusedSimpArgs false
set_option linter.unusedVariables false
set_option linter.unusedSectionVars false
set_option maxRecDepth 100000
namespace Go.Proofs.YtbcjoeadpjfcfaaGreat
open Abs O1 O2 O3
theorem zec(a b:List Int)(hl:a.length<=1000000000):PC Tryz.prog 140 [A4 a,A4 b] (.int .i64 (CN a b)):=by
 have pa:A6 (a.map (AV.int .i32))=true:=AE .i32 _;have pb:A6 (b.map (AV.int .i32))=true:=AE .i32 _;refine BA So ?_;unfold Lt;(with_reducible repeat'(first|simp (disch:=omega) only[push_cast,↓zz,seval]|apply Aa|refine sp_ ?_ ?_<;>intro hc<;>push_cast at hc|omega|intro _))
 refine AQ (AX (λ(k:Nat)=>k<=a.length/\k<=b.length/\CN a b=k+CN (a.drop k) (b.drop k)) (λk=>a.length-k)
  (λk=>[(0,A4 a),(1,A4 b),(5,.int .i64 k)]) (λs=>[]) (λenv _=>[]) 0 (by simp) ?_ ?_)
 ·(with_reducible repeat'(first|simp (disch:=omega) only[push_cast,↓zz,seval,pa,pb]|apply Aa|refine sp_ ?_ ?_<;>intro hc<;>push_cast at hc|omega|intro _))
 rintro k ⟨hk,hkb,hr⟩;refine W_T ?_;by_cases h:k<a.length/\k<b.length/\nth a k=nth b k
 ·obtain⟨h1,h2,h3⟩:=h
  have hs:=Rx h1 h2 h3;(with_reducible repeat'(first|simp (disch:=omega) only[push_cast,↓zz,seval,pa,pb,h3]|apply Aa|refine sp_ ?_ ?_<;>intro hc<;>push_cast at hc|omega|intro _))
  all_goals
   refine⟨k+1,?_⟩;(with_reducible repeat'(first|simp (disch:=omega) only[push_cast,↓zz,seval,pa,pb]|apply Aa|refine sp_ ?_ ?_<;>intro hc<;>push_cast at hc|omega|intro _))
  all_goals first|omega|trace_state
 ·have hs:=Ry h
  rw[hs] at hr;by_cases h1:k<a.length
  ·by_cases h2:k<b.length
   ·have h3:¬nth a k=nth b k:=λe=>h ⟨h1,h2,e⟩
    (with_reducible repeat'(first|simp (disch:=omega) only[push_cast,↓zz,seval,pa,pb,h3]|apply Aa|refine sp_ ?_ ?_<;>intro hc<;>push_cast at hc|omega|intro _))
    all_goals first|omega|trace_state
   ·(with_reducible repeat'(first|simp (disch:=omega) only[push_cast,↓zz,seval,pa,pb]|apply Aa|refine sp_ ?_ ?_<;>intro hc<;>push_cast at hc|omega|intro _))
    all_goals first|omega|trace_state
  ·(with_reducible repeat'(first|simp (disch:=omega) only[push_cast,↓zz,seval,pa,pb]|apply Aa|refine sp_ ?_ ?_<;>intro hc<;>push_cast at hc|omega|intro _))
   all_goals first|omega|trace_state
theorem R4(a b:List Int)(ha:a.length<=1000000000)(hb:b.length<=1000000000):PC Tryz.prog 111 [A4 a,A4 b] (.int .i64 (cmpL a b)):=by
 have pa:A6 (a.map (AV.int .i32))=true:=AE .i32 _;have pb:A6 (b.map (AV.int .i32))=true:=AE .i32 _;have hF:=zec a b ha;have hfl:=Tu a b
 have hst:CN a b<a.length->CN a b<b.length->¬nth a (CN a b)=nth b (CN a b):=λh1 h2 e=>by
  have key:∀(a b:List Int),CN a b<a.length->CN a b<b.length->nth a (CN a b)=nth b (CN a b)->False:=λa=>by
   induction a with
   |nil=>intro b h;simp at h
   |cons y l ih =>
    intro b h1 h2 he;cases b with
    |nil=>simp at h2
    |cons z m =>
     rw[CN] at h1 h2 he;split at h1
     ·rename_i hyz
      rw[Ae hyz] at h2 he;exact ih m (by simpa using h1) (by simpa using h2) (by simpa [La] using he)
     ·rename_i hyz
      rw[Ac hyz] at he;exact hyz he
  exact key a b h1 h2 e
 rw[P5];generalize CN a b=f at *;refine BA O5 ?_;unfold Jj;by_cases h1:f=a.length
 ·by_cases h2:f=b.length
  ·rw[Ae ⟨h1,h2⟩]
   (with_reducible repeat'(first|simp (disch:=omega) only[push_cast,↓zz,seval,pa,pb]|apply Aa|refine sp_ ?_ ?_<;>intro hc<;>push_cast at hc|refine ee hF ?_|(refine cc hF ?_;(simp(disch:=omega)only[push_cast,↓zz,seval,pa,pb]);(fail_if_success change False))|omega|intro _))
   all_goals first|omega|trace_state
  ·rw[Ac (λh=>h2 h.2),Ae h1]
   (with_reducible repeat'(first|simp (disch:=omega) only[push_cast,↓zz,seval,pa,pb]|apply Aa|refine sp_ ?_ ?_<;>intro hc<;>push_cast at hc|refine ee hF ?_|(refine cc hF ?_;(simp(disch:=omega)only[push_cast,↓zz,seval,pa,pb]);(fail_if_success change False))|omega|intro _))
   all_goals first|omega|trace_state
 ·rw[Ac (λh=>h1 h.1),Ac h1]
  by_cases h2:f=b.length
  ·rw[Ae h2]
   (with_reducible repeat'(first|simp (disch:=omega) only[push_cast,↓zz,seval,pa,pb]|apply Aa|refine sp_ ?_ ?_<;>intro hc<;>push_cast at hc|refine ee hF ?_|(refine cc hF ?_;(simp(disch:=omega)only[push_cast,↓zz,seval,pa,pb]);(fail_if_success change False))|omega|intro _))
   all_goals first|omega|trace_state
  ·rw[Ac h2]
   have hne:=hst (by omega) (by omega);by_cases h3:nth a f<nth b f
   ·rw[Ae h3]
    (with_reducible repeat'(first|simp (disch:=omega) only[push_cast,↓zz,seval,pa,pb]|apply Aa|refine sp_ ?_ ?_<;>intro hc<;>push_cast at hc|refine ee hF ?_|(refine cc hF ?_;(simp(disch:=omega)only[push_cast,↓zz,seval,pa,pb]);(fail_if_success change False))|omega|intro _))
    all_goals first|omega|trace_state
   ·rw[Ac h3,Ae (by omega)]
    (with_reducible repeat'(first|simp (disch:=omega) only[push_cast,↓zz,seval,pa,pb]|apply Aa|refine sp_ ?_ ?_<;>intro hc<;>push_cast at hc|refine ee hF ?_|(refine cc hF ?_;(simp(disch:=omega)only[push_cast,↓zz,seval,pa,pb]);(fail_if_success change False))|omega|intro _))
    all_goals first|omega|trace_state
theorem z8s{w:List Int}:∀{l:List (List Int)}{lo:Nat},Hx l->lo<=l.length->(∀i,i<lo->ltW (nth l i) w=true)->(∀i,lo<=i->i<l.length->ltW (nth l i) w=false) ->
 (lo<l.length/\nth l lo=w->insU w l=l)/\(¬(lo<l.length/\nth l lo=w)->insU w l=l.take lo++w::l.drop lo)
 |[],lo,_,hlo,_,_=>by
  obtain rfl:lo=0:=by simpa using hlo
  exact⟨λh=>absurd h.1 (by simp),λ_=>rfl⟩
 |a::l,0,hs,_,_,h2=>by
  have h:=h2 0 (Af _) (by simp);rw[RS] at h;refine⟨λ⟨_,e⟩=>?_,λhn=>?_⟩
  ·rw[RS] at e
   subst e;rw[insU,Ac (by rw[Fa];simp),Ac (by rw[Fa];simp)]
  ·have hne:¬a=w:=λe=>hn ⟨by simp,e⟩
   have hlt:ltW w a=true:=by
    cases hh:ltW w a with
    |true=>rfl
    |false=>exact absurd (Iz _ _ h hh) hne
   rw[insU,Ae hlt];rfl
 |a::l,lo+1,hs,hlo,h1,h2=>by
  have h:=h1 0 (by omega);rw[RS] at h
  have hn:ltW w a=false:=by
   cases hh:ltW w a with
   |false=>rfl
   |true=>have:=Gb _ _ _ h hh;rw[Fa] at this;cases this
  have hs2:Hx l:=by rw[Hx,A9] at hs;exact hs.2
  obtain⟨k1,k2⟩:=z8s (w:=w) (l:=l) (lo:=lo) hs2 (by simpa using hlo) (λi hi=>by have:=h1 (i+1) (by omega);rwa [La] at this) (λi hi hl=>by have:=h2 (i+1) (by omega) (by simpa using hl);rwa [La] at this);have e:insU w (a::l)=a::insU w l:=by rw[insU,Ac (by rw[hn];simp),Ae h]
  rw[La,e];refine⟨λ⟨c1,c2⟩=>by rw[k1 ⟨by simpa using c1,c2⟩],λc=>by rw[k2 λc'=>c ⟨by simpa using c'.1,c'.2⟩];rfl⟩
def insK(l:List (List Int))(w:List Int)(lo:Nat):Nat->List (List Int)
 |0=>[]
 |k+1=>(if k=lo then insK l w lo k++[w] else insK l w lo k)++[nth l k]
theorem z8t{l:List (List Int)}{w:List Int}{lo:Nat}(hlo:lo<=l.length):∀k,k<=l.length->insK l w lo k=if lo<k then l.take lo++w::(l.take k).drop lo else l.take k
 |0,_=>by simp[insK]
 |k+1,hk=>by
  have ih:=z8t (l:=l) (w:=w) hlo k (by omega);rw[insK,ih,take_at (by omega)];by_cases h1:lo<k
  ·rw[Ae h1,Ac (by omega),Ae (by omega),Dc (by simp;omega)]
   simp
  ·rw[Ac h1]
   by_cases h2:k=lo
   ·subst h2
    rw[Ae rfl,Ae (by omega),Dc (by simp;omega),Aj (by rw[BR];omega)];simp
   ·rw[Ac h2,Ac (by omega)]
theorem T5{l:List (List Int)}{w:List Int}{lo:Nat}:∀k,(insK l w lo k).length<=k+1/\(k<=lo->(insK l w lo k).length=k)
 |0=>by simp[insK]
 |k+1=>by
  have ih:=T5 (l:=l) (w:=w) (lo:=lo) k;rw[insK];split
  ·rename_i h
   refine⟨?_,λh2=>by omega⟩;have:=ih.2 (by omega);simp;omega
  ·refine⟨by simp;omega,λh2=>by have:=ih.2 (by omega);simp;omega⟩
theorem zop(l:List (List Int))(w:List Int)(hl:l.length<=1000000000)(hlw:∀v∈l,v.length<=1000000000)(hw:w.length<=1000000000)(hs:Hx l):PC Tryz.prog 69 [EW l,A4 w] (EW (insU w l)):=by
 have pW:=BL l;have pw:A6 (w.map (AV.int .i32))=true:=AE .i32 _;refine BA Wx ?_;unfold Ox;(with_reducible repeat'(first|simp (disch:=omega) only[push_cast,↓zz,seval,pW,pw]|apply Aa|refine sp_ ?_ ?_<;>intro hc<;>push_cast at hc|omega|intro _))
 refine AQ (AX (λ(q:Nat × Nat)=>(q.1<=q.2/\q.2<=l.length)/\Hold ((∀i,i<q.1->ltW (nth l i) w=true)/\∀i,q.2<=i->i<l.length->ltW (nth l i) w=false)) (λq=>q.2-q.1)
  (λq=>[(0,EW l),(1,A4 w),(5,.int .i64 q.1),(6,.int .i64 q.2)]) (λ_=>[]) (λ_ _=>[]) (0,l.length) ⟨⟨Aw _,Af _⟩,⟨λi hi=>absurd hi (AP _),λi h1 h2=>by omega⟩⟩ ?_ ?_)
 ·(with_reducible repeat'(first|simp (disch:=omega) only[push_cast,↓zz,seval,pW,pw]|apply Aa|refine sp_ ?_ ?_<;>intro hc<;>push_cast at hc|omega|intro _))
 rintro⟨lo,hi⟩ ⟨⟨h1,h2⟩,⟨hlt,hge⟩⟩;simp only at h1 h2 hlt hge ⊢;rcases Ah lo hi with hlh|hlh
 ·obtain⟨k,hk⟩:∃k,k=(lo+hi) / 2:=⟨_,rfl⟩
  have hkl:k<l.length:=by omega
  have hq:((lo:Int)+(hi:Int)).tdiv 2=(k:Int):=by rw[Int.tdiv_eq_ediv_of_nonneg (by omega),hk];omega
  have hmem:=AL hkl;have hC:=R4 (nth l k) w (hlw _ hmem) hw
  have hmono:∀i j,i<j->j<l.length->ltW (nth l i) (nth l j)=true:=λi j hij hj=>by
   rw[Fq hj,Fq (by omega)];exact BW.1 hs i j (by omega) hj hij
  by_cases hc:cmpL (nth l k) w<0
  ·have hltk:=(P6 _ _).1 hc
   have hA:Hold ((∀i,i<k+1->ltW (nth l i) w=true)/\∀i,hi<=i->i<l.length->ltW (nth l i) w=false):=⟨λi hik=>by
    rcases Ah i k with h|h
    ·exact Gb _ _ _ (hmono i k h hkl) hltk
    ·obtain rfl:i=k:=by omega
     exact hltk,hge⟩
   clear hlt hge hmono;generalize cmpL (nth l k) w=c at *;generalize hwe:nth l k=v at *;have pv:A6 (v.map (AV.int .i32))=true:=AE .i32 _;refine W_T ?_;(with_reducible repeat'(first|simp (disch:=omega) only[push_cast,↓zz,seval,pW,pw,hq,hwe,pv]|apply Aa|refine sp_ ?_ ?_<;>intro hc<;>push_cast at hc|refine ee hC ?_|(refine cc hC ?_;(simp(disch:=omega)only[push_cast,↓zz,seval,pW,pw,hq,hwe,pv]);(fail_if_success change False))|omega|intro _));exact⟨(k+1,hi),⟨by simp,rfl⟩,⟨⟨by omega,h2⟩,hA⟩,by simp only;omega⟩
  ·have hltk:ltW (nth l k) w=false:=by
    cases hh:ltW (nth l k) w with
    |false=>rfl
    |true=>exact absurd ((P6 _ _).2 hh) hc
   have hA:Hold ((∀i,i<lo->ltW (nth l i) w=true)/\∀i,k<=i->i<l.length->ltW (nth l i) w=false):=⟨hlt,λi hik hil=>by
    rcases Ah k i with h|h
    ·cases hh:ltW (nth l i) w with
     |false=>rfl
     |true=>have:=Gb _ _ _ (hmono k i h hil) hh;rw[hltk] at this;cases this
    ·obtain rfl:i=k:=by omega
     exact hltk⟩
   clear hlt hge hmono;generalize cmpL (nth l k) w=c at *;generalize hwe:nth l k=v at *;have pv:A6 (v.map (AV.int .i32))=true:=AE .i32 _;refine W_T ?_;(with_reducible repeat'(first|simp (disch:=omega) only[push_cast,↓zz,seval,pW,pw,hq,hwe,pv]|apply Aa|refine sp_ ?_ ?_<;>intro hc<;>push_cast at hc|refine ee hC ?_|(refine cc hC ?_;(simp(disch:=omega)only[push_cast,↓zz,seval,pW,pw,hq,hwe,pv]);(fail_if_success change False))|omega|intro _));exact⟨(lo,k),⟨rfl,rfl⟩,⟨⟨by omega,by omega⟩,hA⟩,by simp only;omega⟩
 ·obtain rfl:lo=hi:=by omega
  obtain⟨k1,k2⟩:=z8s (w:=w) hs h2 hlt hge;clear hlt hge;have hC:=λh=>R4 (nth l lo) w (hlw _ (AL (l:=l) (i:=lo) h)) hw;have hz:=Tv (nth l lo) w;by_cases hin:lo<l.length/\nth l lo=w
  ·rw[k1 hin]
   have hC:=hC hin.1;rw[hz.2 hin.2] at hC;have hlo:=hin.1;generalize hwe:nth l lo=v at *;have pv:A6 (v.map (AV.int .i32))=true:=AE .i32 _;refine W_T ?_;(with_reducible repeat'(first|simp (disch:=omega) only[push_cast,↓zz,seval,pW,pw,hwe,pv]|apply Aa|refine sp_ ?_ ?_<;>intro hc<;>push_cast at hc|refine ee hC ?_|(refine cc hC ?_;(simp(disch:=omega)only[push_cast,↓zz,seval,pW,pw,hwe,pv]);(fail_if_success change False))|omega|intro _))
  ·rw[k2 hin]
   have hfin:insK l w lo l.length++(if lo=l.length then [w] else [])=l.take lo++w::l.drop lo:=by
    rw[z8t h2 _ (Af _)];by_cases h:lo<l.length
    ·rw[Ae h,Ac (by omega),A5,A3]
    ·rw[Ac h,Ae (by omega),A3,Al (by omega),Aj (by omega)]
   rw[<-hfin];refine W_T ?_;have hil:=T5 (l:=l) (w:=w) (lo:=lo);rcases Ah lo l.length with hlo|hlo
   focus
    have hC:=hC hlo;have hnz:¬cmpL (nth l lo) w=0:=λh=>hin ⟨hlo,hz.1 h⟩;clear hz k1 k2 hin hfin hil;generalize cmpL (nth l lo) w=c at *;generalize hwe:nth l lo=v at *;have pv:A6 (v.map (AV.int .i32))=true:=AE .i32 _;(with_reducible repeat'(first|simp (disch:=omega) only[push_cast,↓zz,seval,pW,pw,hwe,pv,hnz]|apply Aa|refine sp_ ?_ ?_<;>intro hc<;>push_cast at hc|refine ee hC ?_|(refine cc hC ?_;(simp(disch:=omega)only[push_cast,↓zz,seval,pW,pw,hwe,pv,hnz]);(fail_if_success change False))|omega|intro _))
   rotate_left
   focus
    clear hz k1 k2 hin hfin hC hil;(with_reducible repeat'(first|simp (disch:=omega) only[push_cast,↓zz,seval,pW,pw]|apply Aa|refine sp_ ?_ ?_<;>intro hc<;>push_cast at hc|omega|intro _))
   all_goals
    have hil:=T5 (l:=l) (w:=w) (lo:=lo);refine AQ (AX (λ(k:Nat)=>k<=l.length) (λk=>l.length-k) (λk=>[(0,EW l),(1,A4 w),(5,.int .i64 lo),(8,.ref 0 1 0 (insK l w lo k).length),(9,.int .i64 k)]) (λk=>[⟨1,1,false,(insK l w lo k).map A4⟩]) (λenv _=>[Cf 1 (env 8)]) 0 (Aw _) ?_ ?_)
    ·have e0:insK l w lo 0=[]:=rfl
     (with_reducible repeat'(first|simp (disch:=omega) only[push_cast,↓zz,seval,pW,pw,e0]|apply Aa|refine sp_ ?_ ?_<;>intro hc<;>push_cast at hc|omega|intro _))
    intro k hk;have hAl:=(hil k).1;rcases Ah k l.length with hkl|hkl
    ·by_cases hkq:k=lo
     ·subst hkq
      have e1:insK l w k (k+1)=(insK l w k k++[w])++[nth l k]:=by rw[insK,Ae rfl]
      generalize insK l w k k=A at *;generalize hue:nth l k=u at *;have pA:=BL A;have pu:A6 (u.map (AV.int .i32))=true:=AE .i32 _;refine W_T ?_;(with_reducible repeat'(first|simp (disch:=omega) only[push_cast,↓zz,seval,pW,pw,pA,pu,hue]|apply Aa|refine sp_ ?_ ?_<;>intro hc<;>push_cast at hc|omega|intro _))
      all_goals
       refine⟨k+1,?_⟩;(with_reducible repeat'(first|simp (disch:=omega) only[push_cast,↓zz,seval,pW,pw,pA,pu,e1]|apply Aa|refine sp_ ?_ ?_<;>intro hc<;>push_cast at hc|omega|intro _))
     ·have e1:insK l w lo (k+1)=insK l w lo k++[nth l k]:=by rw[insK,Ac hkq]
      generalize insK l w lo k=A at *;generalize hue:nth l k=u at *;have pA:=BL A;have pu:A6 (u.map (AV.int .i32))=true:=AE .i32 _;refine W_T ?_;(with_reducible repeat'(first|simp (disch:=omega) only[push_cast,↓zz,seval,pW,pw,pA,pu,hkq,hue]|apply Aa|refine sp_ ?_ ?_<;>intro hc<;>push_cast at hc|omega|intro _))
      all_goals
       refine⟨k+1,?_⟩;(with_reducible repeat'(first|simp (disch:=omega) only[push_cast,↓zz,seval,pW,pw,pA,pu,e1]|apply Aa|refine sp_ ?_ ?_<;>intro hc<;>push_cast at hc|omega|intro _))
    ·obtain rfl:k=l.length:=by omega
     generalize insK l w lo l.length=A at *;have pA:=BL A;have tA:List.take (A.length+1) (A.map A4++[A4 w])=A.map A4++[A4 w]:=Al (by simp);refine W_T ?_;by_cases hlq:lo=l.length
     ·rw[Ae hlq]
      (with_reducible repeat'(first|simp (disch:=omega) only[push_cast,↓zz,seval,pW,pw,pA,hlq,tA]|apply Aa|refine sp_ ?_ ?_<;>intro hc<;>push_cast at hc|omega|intro _))
     ·rw[Ac hlq,A5]
      (with_reducible repeat'(first|simp (disch:=omega) only[push_cast,↓zz,seval,pW,pw,pA,hlq]|apply Aa|refine sp_ ?_ ?_<;>intro hc<;>push_cast at hc|omega|intro _))
      all_goals trace_state
set_option maxRecDepth 100000
section
variable {a b:Desc}{x:List Int}
end
set_option maxRecDepth 100000
theorem z8u(x:List Int)(gs:List (List Span))(at_:Nat)(hx:x.length<=1000000)(h32:∀v∈x,-2147483648<=v/\v<=2147483647)(hg:∀g∈gs,g.length<=1000000)(hgl:gs.length<=1000000)(ha:at_<=1000000):
 PC Tryz.prog 68 [Cv gs,A4 x,.int .i64 at_] (.bool (goB x gs at_)):=by
 have pX:A6 (x.map (AV.int .i32))=true:=AE .i32 _;have pG:=Bs gs;refine BA U8 ?_;unfold MD;(with_reducible repeat'(first|simp (disch:=omega) only[push_cast,↓zz,seval,pX,pG]|apply Aa|refine sp_ ?_ ?_<;>intro hc<;>push_cast at hc|omega|intro _))
 ·have:¬gs.length+at_<=x.length:=by omega
  simp[goB,this]
 have hfit:gs.length+at_<=x.length:=by omega
 have hgo:goB x gs at_=(List.range gs.length).all λk=>hasI (nth gs k) (nth x (at_+k)):=by simp[goB,hfit]
 rw[hgo]
 refine AQ (AX (λ(k:Nat)=>k<=gs.length/\Hold (∀j,j<k->hasI (nth gs j) (nth x (at_+j))=true)) (λk=>gs.length-k)
  (λk=>[(0,Cv gs),(1,A4 x),(2,.int .i64 at_),(7,.int .i64 k)]) (λ_=>[]) (λ_ _=>[]) 0 ⟨by simp,⟨λj hj=>by omega⟩⟩ ?_ ?_)
 ·(with_reducible repeat'(first|simp (disch:=omega) only[push_cast,↓zz,seval,pX,pG]|apply Aa|refine sp_ ?_ ?_<;>intro hc<;>push_cast at hc|omega|intro _))
 rintro k ⟨hk,⟨hall⟩⟩;rcases Ah k gs.length with hkl|hkl
 ·have hHas:=LD (nth gs k) (nth x (at_+k)) (by have:=hg _ (AL hkl);omega)
  have hb:=h32 _ (AL (show at_+k<x.length by omega));have hcast:((at_:Int)+k).toNat=at_+k:=by omega
  generalize hge:nth gs k=g at *;have pg:=Dn g;cases hh:hasI g (nth x (at_+k)) with
  |true =>
   rw[hh] at hHas
   have hnx:Hold (∀j,j<k+1->hasI (nth gs j) (nth x (at_+j))=true):=⟨λj hj=>by
    by_cases e:j=k
    ·subst e;rw[hge];exact hh
    ·exact hall j (by omega)⟩
   clear hall;refine W_T ?_;(with_reducible repeat'(first|simp (disch:=omega) only[push_cast,↓zz,seval,pX,pG,hge,pg,hcast]|apply Aa|refine sp_ ?_ ?_<;>intro hc<;>push_cast at hc|refine ee hHas ?_|(refine cc hHas ?_;(simp(disch:=omega)only[push_cast,↓zz,seval,pX,pG,hge,pg,hcast]);(fail_if_success change False))|omega|intro _))
   all_goals first
    |(refine⟨k+1,?_⟩
      (with_reducible repeat'(first|simp (disch:=omega) only[push_cast,↓zz,seval,pX,pG]|apply Aa|refine sp_ ?_ ?_<;>intro hc<;>push_cast at hc|omega|intro _))
      all_goals first|assumption|trace_state)
    |trace_state
  |false =>
   rw[hh] at hHas;have hno:(List.range gs.length).all (λk=>hasI (nth gs k) (nth x (at_+k)))=false:=Kn hkl hall (by rw[hge];exact hh);rw[hno];clear hall hno;refine W_T ?_;(with_reducible repeat'(first|simp (disch:=omega) only[push_cast,↓zz,seval,pX,pG,hge,pg,hcast]|apply Aa|refine sp_ ?_ ?_<;>intro hc<;>push_cast at hc|refine ee hHas ?_|(refine cc hHas ?_;(simp(disch:=omega)only[push_cast,↓zz,seval,pX,pG,hge,pg,hcast]);(fail_if_success change False))|omega|intro _))
 ·obtain rfl:k=gs.length:=by omega
  have hyes:(List.range gs.length).all (λk=>hasI (nth gs k) (nth x (at_+k)))=true:=AJ.2 λj hj=>hall j (by simpa using hj);rw[hyes];clear hall hyes;refine W_T ?_;(with_reducible repeat'(first|simp (disch:=omega) only[push_cast,↓zz,seval,pX,pG]|apply Aa|refine sp_ ?_ ?_<;>intro hc<;>push_cast at hc|omega|intro _))
  all_goals trace_state
theorem VO(out:List Term)(w:List Int)(hw:w.length<=1000000)(h32:∀v∈w,-2147483648<=v/\v<=2147483647)(hol:out.length<=1000000)(hop:∀t∈out,t.parts.length<=1000000):
 PC Tryz.prog 71 [FU out,A4 w] (A4 (C4 out w)):=by
 have pX:A6 (w.map (AV.int .i32))=true:=AE .i32 _;have pT:=BP out;have hV:=λt (ht:t∈out)=>z5i t w (by have:=hop t ht;omega) (by omega) h32;have e0:C4 [] w=[]:=rfl;refine BA PR ?_;unfold Ke;(with_reducible repeat'(first|simp (disch:=omega) only[push_cast,↓zz,seval,pX,pT]|apply Aa|refine sp_ ?_ ?_<;>intro hc<;>push_cast at hc|omega|intro _))
 refine AQ (AX (λ(k:Nat)=>k<=out.length) (λk=>out.length-k)
  (λk=>[(0,FU out),(1,A4 w),(5,.ref 0 1 0 k),(6,.int .i64 k)]) (λk=>[⟨1,1,false,(C4 (out.take k) w).map (AV.int .i32)⟩]) (λenv _=>[Cf 1 (env 5)]) 0 (by simp) ?_ ?_)
 ·(with_reducible repeat'(first|simp (disch:=omega) only[push_cast,↓zz,seval,pX,pT,e0]|apply Aa|refine sp_ ?_ ?_<;>intro hc<;>push_cast at hc|omega|intro _))
 intro k hk;have hlk:(C4 (out.take k) w).length=k:=by simp[C4];omega
 have pL:A6 ((C4 (out.take k) w).map (AV.int .i32))=true:=AE .i32 _;rcases Ah k out.length with hkl|hkl
 ·have hVk:=hV _ (AL hkl)
  have e1:C4 (out.take (k+1)) w=C4 (out.take k) w++[IntKind.i32.wrap ((Ei (nth out k) w).getD 0)]:=by rw[C4,take_at hkl,Az];rfl
  generalize hte:nth out k=t at *;have pP:=GF t.parts;generalize C4 (out.take k) w=L at *;refine W_T ?_;(with_reducible repeat'(first|simp (disch:=omega) only[push_cast,↓zz,seval,pX,pT,hte,pP]|apply Aa|refine sp_ ?_ ?_<;>intro hc<;>push_cast at hc|refine ee hVk ?_|(refine cc hVk ?_;(simp(disch:=omega)only[push_cast,↓zz,seval,pX,pT,hte,pP]);(fail_if_success change False))|omega|intro _))
  all_goals
   refine⟨k+1,?_⟩;(with_reducible repeat'(first|simp (disch:=omega) only[push_cast,↓zz,seval,e1,pL,pX,pT]|apply Aa|refine sp_ ?_ ?_<;>intro hc<;>push_cast at hc|omega|intro _))
 ·obtain rfl:k=out.length:=by omega
  have wt:out.take out.length=out:=A3;rw[wt] at hlk pL ⊢;generalize C4 out w=L at *;have wt2:L.take out.length=L:=Al (by omega);refine W_T ?_;(with_reducible repeat'(first|simp (disch:=omega) only[push_cast,↓zz,seval,pX,pT,pL,hlk,wt2]|apply Aa|refine sp_ ?_ ?_<;>intro hc<;>push_cast at hc|omega|intro _))
  all_goals trace_state
theorem z8v(a b:List Int)(ha:a.length<=1000000000)(hb:b.length<=1000000000):PC Tryz.prog 70 [A4 a,A4 b] (A4 (a++b)):=by
 have pA:A6 (a.map (AV.int .i32))=true:=AE .i32 _;have pB:A6 (b.map (AV.int .i32))=true:=AE .i32 _;refine BA U9 ?_;unfold ME;rcases a with _|⟨a0,a⟩
 ·rcases b with _|⟨b0,b⟩
  ·(with_reducible repeat'(first|simp (disch:=omega) only[push_cast,↓zz,seval]|apply Aa|refine sp_ ?_ ?_<;>intro hc<;>push_cast at hc|omega|intro _))
  ·rw[Bj] at pB
   simp only[List.length_cons] at hb;(with_reducible repeat'(first|simp (disch:=omega) only[push_cast,↓zz,seval,pB,List.isEmpty_cons]|apply Aa|refine sp_ ?_ ?_<;>intro hc<;>push_cast at hc|omega|intro _))
 ·rw[Bj] at pA
  simp only[List.length_cons] at ha;have pAB:A6 (AV.int .i32 a0::(a.map (AV.int .i32)++b.map (AV.int .i32)))=true:=by rw[<-Az,<-Bj];exact AE .i32 _
  have wt:List.take (a.length+1+b.length) (AV.int .i32 a0::(a.map (AV.int .i32)++b.map (AV.int .i32)))=AV.int .i32 a0::(a.map (AV.int .i32)++b.map (AV.int .i32)):=Al (by simp;omega);have wt0:List.take (a.length+1) (AV.int .i32 a0::a.map (AV.int .i32))=AV.int .i32 a0::a.map (AV.int .i32):=Al (by simp);(with_reducible repeat'(first|simp (disch:=omega) only[push_cast,↓zz,seval,pA,pB,pAB,wt,wt0,List.isEmpty_cons]|apply Aa|refine sp_ ?_ ?_<;>intro hc<;>push_cast at hc|omega|intro _))
  all_goals trace_state
theorem zoq(l:List (List Int))(w:List Int)(hl:l.length<=1000000000)(hlw:∀v∈l,v.length<=1000000000):PC Tryz.prog 38 [EW l,A4 w] (.bool (decide (w∈l))):=by
 have pW:=BL l;have pw:A6 (w.map (AV.int .i32))=true:=AE .i32 _;refine BA Wt ?_;unfold Oq;(with_reducible repeat'(first|simp (disch:=omega) only[push_cast,↓zz,seval,pW,pw]|apply Aa|refine sp_ ?_ ?_<;>intro hc<;>push_cast at hc|omega|intro _))
 refine AQ (AX (λ(k:Nat)=>k<=l.length/\decide (w∈l)=decide (w∈l.drop k)) (λk=>l.length-k)
  (λk=>[(0,EW l),(1,A4 w),(5,.int .i64 k)]) (λ_=>[]) (λ_ _=>[]) 0 (by simp) ?_ ?_)
 ·(with_reducible repeat'(first|simp (disch:=omega) only[push_cast,↓zz,seval,pW,pw]|apply Aa|refine sp_ ?_ ?_<;>intro hc<;>push_cast at hc|omega|intro _))
 rintro k ⟨hk,hr⟩;rcases Ah k l.length with hkl|hkl
 ·have hS:=Iy (nth l k) w (by have:=hlw _ (AL hkl);omega)
  rw[drop_at hkl] at hr;generalize hwe:nth l k=v at *;have pv:A6 (v.map (AV.int .i32))=true:=AE .i32 _;by_cases hvw:v=w
  ·rw[A7 hvw] at hS
   rw[hr,A7 (by simp[hvw])];refine W_T ?_;(with_reducible repeat'(first|simp (disch:=omega) only[push_cast,↓zz,seval,pW,pw,hwe,pv]|apply Aa|refine sp_ ?_ ?_<;>intro hc<;>push_cast at hc|refine ee hS ?_|(refine cc hS ?_;(simp(disch:=omega)only[push_cast,↓zz,seval,pW,pw,hwe,pv]);(fail_if_success change False))|omega|intro _))
  ·rw[AM hvw] at hS
   have hr2:decide (w∈l)=decide (w∈l.drop (k+1)):=by
    rw[hr];exact BC.2 (by simp[CW (show v≠w from hvw)])
   clear hr;refine W_T ?_;(with_reducible repeat'(first|simp (disch:=omega) only[push_cast,↓zz,seval,pW,pw,hwe,pv]|apply Aa|refine sp_ ?_ ?_<;>intro hc<;>push_cast at hc|refine ee hS ?_|(refine cc hS ?_;(simp(disch:=omega)only[push_cast,↓zz,seval,pW,pw,hwe,pv]);(fail_if_success change False))|omega|intro _))
   all_goals
    refine⟨k+1,?_⟩;(with_reducible repeat'(first|simp (disch:=omega) only[push_cast,↓zz,seval,pW,pw]|apply Aa|refine sp_ ?_ ?_<;>intro hc<;>push_cast at hc|omega|intro _))
    all_goals first|assumption|trace_state
 ·rw[Aj hkl] at hr
  rw[hr];refine W_T ?_;(with_reducible repeat'(first|simp (disch:=omega) only[push_cast,↓zz,seval,pW,pw]|apply Aa|refine sp_ ?_ ?_<;>intro hc<;>push_cast at hc|omega|intro _))
  all_goals trace_state
theorem T6(d:Desc)(x:List Int)(hd:LM d)(hl:x.length<=9223372036854775807)(h32:∀v∈x,-2147483648<=v/\v<=2147483647):PC Tryz.prog 25 [Cu d,A4 x] (.int .i64 (askV d x)):=by
 have hC:=Xo d hd;have hF:=λ(h:¬1024<x.length)=>zkp d.in_ x (by omega) h32;have pR:=BF d.rules;have pF:=B9 d.finals;have pX:A6 (x.map (AV.int .i32))=true:=AE .i32 _;unfold askV;refine BA Se ?_;unfold Lh;by_cases h:FO d=0
 ·rw[Ac (by simp[h])]
  rw[A7 h] at hC;by_cases h2:1024<x.length
  ·rw[Ae h2]
   clear hF;(with_reducible repeat'(first|simp (disch:=omega) only[push_cast,↓zz,seval,pR,pF,pX]|apply Aa|refine sp_ ?_ ?_<;>intro hc<;>push_cast at hc|refine ee hC ?_|(refine cc hC ?_;(simp(disch:=omega)only[push_cast,↓zz,seval,pR,pF,pX]);(fail_if_success change False))|omega|intro _))
  ·rw[Ac h2]
   have hF:=hF h2;generalize x.all (Ga d.in_)=b at *;cases b with
   |true =>
    rw[Ae rfl];(with_reducible repeat'(first|simp (disch:=omega) only[push_cast,↓zz,seval,pR,pF,pX]|apply Aa|refine sp_ ?_ ?_<;>intro hc<;>push_cast at hc|refine ee hC ?_|refine ee hF ?_|((first|refine cc hC ?_|refine cc hF ?_);(simp(disch:=omega)only[push_cast,↓zz,seval,pR,pF,pX]);(fail_if_success change False))|omega|intro _))
   |false =>
    rw[Ac (by simp)];(with_reducible repeat'(first|simp (disch:=omega) only[push_cast,↓zz,seval,pR,pF,pX]|apply Aa|refine sp_ ?_ ?_<;>intro hc<;>push_cast at hc|refine ee hC ?_|refine ee hF ?_|((first|refine cc hC ?_|refine cc hF ?_);(simp(disch:=omega)only[push_cast,↓zz,seval,pR,pF,pX]);(fail_if_success change False))|omega|intro _))
 ·rw[Ae h]
  rw[AM h] at hC;clear hF;(with_reducible repeat'(first|simp (disch:=omega) only[push_cast,↓zz,seval,pR,pF,pX]|apply Aa|refine sp_ ?_ ?_<;>intro hc<;>push_cast at hc|refine ee hC ?_|(refine cc hC ?_;(simp(disch:=omega)only[push_cast,↓zz,seval,pR,pF,pX]);(fail_if_success change False))|omega|intro _))
  all_goals trace_state
set_option maxRecDepth 100000
structure Plc where
 s:Int
 a:Nat
 o:List Int
 deriving DecidableEq,Inhabited
abbrev plcV(p:Plc):AV:=.agg [.int .i64 p.s,.int .i64 (p.a:Int),A4 p.o]
theorem PI(l:List Plc):A6 (l.map plcV)=true:=FH (λp=>by simp only[plcV,AV.pure,A6,AE,Dx]) l
def Qa(x:List Int)(p:Plc)(f:FS):Bool:=decide (f.from_=p.s)&&(decide (f.guards.length+p.a=x.length)&&goB x f.guards p.a)
def finP(x:List Int)(p:Plc)(O:List (List Int))(f:FS):List (List Int):=if Qa x p f=true then insU (p.o++CM x f.out f.guards p.a) O else O
def Hz(x:List Int)(p:Plc)(l:List FS)(O:List (List Int)):List (List Int):=l.foldl (finP x p) O
def nxP(x:List Int)(p:Plc)(r:Rule):Plc:=⟨r.to_,p.a+r.eat.toNat,p.o++CM x r.out r.guards p.a⟩
def ruOk(x:List Int)(p:Plc)(r:Rule):Bool:=decide (r.from_=p.s)&&goB x r.guards p.a
def putP(T:List Plc)(q:Plc):List Plc:=if q∈T then T else T++[q]
def rusP(x:List Int)(p:Plc):List Rule->List Plc->Option (List Plc)
 |[],T=>some T
 |r::l,T=>if ruOk x p r=true then (if 1500<(putP T (nxP x p r)).length then none else rusP x p l (putP T (nxP x p r))) else rusP x p l T
def bfsP(d:Desc)(x:List Int):Nat->List Plc->List (List Int)->Nat->Option (List (List Int))
 |0,_,_,_=>none
 |f+1,T,O,k=>if k<T.length then (match rusP x (nth T k) d.rules T with|none=>none|some T'=>bfsP d x f T' (Hz x (nth T k) d.finals O) (k+1)) else some O
theorem zed(T:List Plc)(q:Plc):∃r,putP T q=T++r/\∀p∈r,p=q:=by
 unfold putP;split
 ·exact⟨[],by simp,λp h=>(by cases h)⟩
 ·exact⟨[q],rfl,λp h=>Ao.1 h⟩
theorem zee(T:List Plc)(q:Plc):q∈putP T q:=by
 unfold putP;split
 ·assumption
 ·simp
theorem PK{x:List Int}{p:Plc}:∀{l:List Rule}{T T':List Plc},rusP x p l T=some T' ->
 (∃r,T'=T++r/\∀q∈r,∃u∈l,ruOk x p u=true/\q=nxP x p u)/\(∀u∈l,ruOk x p u=true->nxP x p u∈T')/\(T.length<=1500->T'.length<=1500)
 |[],T,T',h=>by
  simp only[rusP,Aq] at h;subst h;exact⟨⟨[],by simp,λq h=>(by cases h)⟩,λu h=>(by cases h),λh=>h⟩
 |r::l,T,T',h=>by
  rw[rusP] at h;split at h
  ·rename_i hr
   split at h
   ·cases h
   ·rename_i hle
    obtain⟨⟨e,h1,h2⟩,h3,h4⟩:=PK h;obtain⟨e0,g1,g2⟩:=zed T (nxP x p r);refine⟨⟨e0++e,by rw[h1,g1,Av],λq hq=>?_⟩,λu hu ho=>?_,λ_=>h4 (by omega)⟩
    ·rcases Am.1 hq with hq|hq
     ·exact⟨r,by simp,hr,g2 q hq⟩
     ·obtain⟨u,hu,ho,e⟩:=h2 q hq
      exact⟨u,List.mem_cons_of_mem _ hu,ho,e⟩
    ·rcases Ai.1 hu with rfl|hu
     ·rw[h1];exact BE _ (zee _ _)
     ·exact h3 u hu ho
  ·rename_i hr
   obtain⟨⟨e,h1,h2⟩,h3,h4⟩:=PK h;refine⟨⟨e,h1,λq hq=>?_⟩,λu hu ho=>?_,h4⟩
   ·obtain⟨u,hu,ho,e⟩:=h2 q hq
    exact⟨u,List.mem_cons_of_mem _ hu,ho,e⟩
   ·rcases Ai.1 hu with rfl|hu
    ·exact absurd ho hr
    ·exact h3 u hu ho
theorem LW{x:List Int}{p:Plc}:∀(l:List FS){O:List (List Int)},Hx O->Hx (Hz x p l O)/\(∀w,w∈Hz x p l O↔w∈O\/∃f∈l,Qa x p f=true/\w=p.o++CM x f.out f.guards p.a)/\(Hz x p l O).length<=O.length+l.length
 |[],O,h=>⟨h,λw=>by simp[Hz],Af _⟩
 |f::l,O,h=>by
  show Hx (Hz x p l (finP x p O f))/\_;unfold finP;by_cases hf:Qa x p f=true
  ·rw[Ae hf]
   obtain⟨h1,h2,h3⟩:=LW l (O:=insU (p.o++CM x f.out f.guards p.a) O) (Py _ h)
   have e:Hz x p (f::l) O=Hz x p l (insU (p.o++CM x f.out f.guards p.a) O):=by
    show Hz x p l (finP x p O f)=_;rw[finP,Ae hf]
   rw[e];refine⟨h1,λw=>?_,?_⟩
   ·rw[h2,N7]
    constructor
    ·rintro ((h|h)|⟨g,h,k⟩)
     ·exact .inr ⟨f,by simp,hf,h⟩
     ·exact .inl h
     ·exact .inr ⟨g,by simp[h],k⟩
    ·rintro (h|⟨g,h,k⟩)
     ·exact .inl (.inr h)
     ·rcases Ai.1 h with rfl|h
      ·exact .inl (.inl k.2)
      ·exact .inr ⟨g,h,k⟩
   ·have:=Tp (p.o++CM x f.out f.guards p.a) O
    rw[List.length_cons];omega
  ·rw[Ac hf]
   obtain⟨h1,h2,h3⟩:=LW l (O:=O) h
   have e:Hz x p (f::l) O=Hz x p l O:=by
    show Hz x p l (finP x p O f)=_;rw[finP,Ac hf]
   rw[e];refine⟨h1,λw=>?_,by rw[List.length_cons];omega⟩;rw[h2];constructor
   ·rintro (h|⟨g,h,k⟩)
    ·exact .inl h
    ·exact .inr ⟨g,by simp[h],k⟩
   ·rintro (h|⟨g,h,k⟩)
    ·exact .inl h
    ·rcases Ai.1 h with rfl|h
     ·exact absurd k.1 hf
     ·exact .inr ⟨g,h,k⟩
structure BInv(d:Desc)(x:List Int)(T:List Plc)(O:List (List Int))(k:Nat):Prop where
 so:Hx O
 lead:∀p∈T,V4 d x 0 d.start p.o p.a p.s
 rel:∀w∈O,RelW d x 0 d.start w
 here:⟨d.start,0,[]⟩∈T
 fin:∀i,i<k->i<T.length->∀f∈d.finals,Qa x (nth T i) f=true->(nth T i).o++CM x f.out f.guards (nth T i).a∈O
 nx:∀i,i<k->i<T.length->∀r∈d.rules,ruOk x (nth T i) r=true->nxP x (nth T i) r∈T
theorem ND{α:Type}[Inhabited α]{T e:List α}{i:Nat}(h:i<T.length):nth (T++e) i=nth T i:=by
 rw[Fq (by rw[An];omega),Fq h,List.getElem_append_left h]
theorem zkq{d:Desc}{x:List Int}{T:List Plc}{O:List (List Int)}{k:Nat}(h:BInv d x T O k)(hk:T.length<=k){a:Nat}{s:Int}{w:List Int}(hr:RelW d x a s w):∀o,(⟨s,a,o⟩:Plc)∈T->o++w∈O:=by
 induction hr with
 |fin f h1 h2 h3 h4 =>
  intro o ho;obtain⟨i,hi,e⟩:=List.mem_iff_getElem.1 ho;have:=h.fin i (by omega) hi f h1;rw[Fq hi,e] at this;exact this (by simp[Qa,h2,h3,h4])
 |step r w h1 h2 h3 h4 ih =>
  intro o ho;obtain⟨i,hi,e⟩:=List.mem_iff_getElem.1 ho;have:=h.nx i (by omega) hi r h1;rw[Fq hi,e] at this;have:=ih _ (this (by simp[ruOk,h2,h3]));rw[<-Av];exact this
theorem zg0{d:Desc}{x:List Int}:∀(f:Nat){T:List Plc}{O O':List (List Int)}{k:Nat},BInv d x T O k->bfsP d x f T O k=some O'->O'=outW d x 0 d.start
 |0,_,_,_,_,_,h=>by cases h
 |f+1,T,O,O',k,hI,h=>by
  rw[bfsP] at h;split at h
  ·rename_i hk
   split at h
   ·cases h
   ·rename_i T' hT
    obtain⟨⟨e,rfl,h2⟩,h3,_⟩:=PK hT;obtain⟨g1,g2,_⟩:=LW (x:=x) (p:=nth T k) d.finals hI.so;have hl:=hI.lead _ (AL hk);refine zg0 f (T:=T++e) ⟨g1,λp hp=>?_,λw hw=>?_,BE _ hI.here,λi hi hil f hf ho=>?_,λi hi hil r hr ho=>?_⟩ h
    ·rcases Am.1 hp with hp|hp
     ·exact hI.lead p hp
     ·obtain⟨u,hu,ho,rfl⟩:=h2 p hp
      simp only[ruOk,Ab,Ad] at ho;exact .step u hl hu ho.1 ho.2
    ·rcases (g2 w).1 hw with h|⟨f,hf,ho,rfl⟩
     ·exact hI.rel w h
     ·simp only[Qa,Ab,Ad] at ho
      exact Zn hl (.fin f hf ho.1 ho.2.1 ho.2.2)
    ·rcases Ah i k with h|h
     ·rw[ND (by omega)] at ho ⊢
      exact (g2 _).2 (.inl (hI.fin i h (by omega) f hf ho))
     ·obtain rfl:i=k:=by omega
      rw[ND hk] at ho ⊢;exact (g2 _).2 (.inr ⟨f,hf,ho,rfl⟩)
    ·rcases Ah i k with h|h
     ·rw[ND (by omega)] at ho ⊢
      exact BE _ (hI.nx i h (by omega) r hr ho)
     ·obtain rfl:i=k:=by omega
      rw[ND hk] at ho ⊢;exact h3 r hr ho
  ·rename_i hk
   cases h;exact (Xp ⟨hI.so,λw=>⟨hI.rel w,λhw=>by simpa using zkq hI (by omega) hw [] hI.here⟩⟩).symm
set_option maxRecDepth 100000
structure BBd(x:List Int)(T:List Plc)(O:List (List Int))(k:Nat):Prop where
 so:Hx O
 tl:T.length<=1500
 kl:k<=T.length
 pa:∀p∈T,p.a<=x.length
 po:∀p∈T,p.o.length<=64 * k
 ol:O.length<=4096 * k
 ow:∀w∈O,w.length<=64 * k
def bfsA(o:Option (List (List Int))):AV:=match o with|none=>.tup [.nilS,.bool false]|some O=>.tup [EW O,.bool true]
set_option maxHeartbeats 2000000 in
theorem M3(d:Desc)(x:List Int){n:Nat}(hk:M2 d x n):PC Tryz.prog 27 [Cu d,A4 x] (bfsA (bfsP d x 1501 [⟨d.start,0,[]⟩] [] 0)):=by
 have pR:=BF d.rules;have pFi:=B9 d.finals;have pX:A6 (x.map (AV.int .i32))=true:=AE .i32 _;have hxl:=hk.xl;have hrl:=hk.rl;have hfl:=hk.fl;refine BA On ?_;unfold Jf;(with_reducible repeat'(first|simp (disch:=omega) only[push_cast,↓zz,seval,pR,pFi,pX]|apply Aa|refine sp_ ?_ ?_<;>intro hc<;>push_cast at hc|omega|intro _))
 refine AQ (AX (λ(q:(List Plc × List (List Int)) × Nat)=>Hold (BBd x q.1.1 q.1.2 q.2)/\bfsP d x 1501 [⟨d.start,0,[]⟩] [] 0=bfsP d x (1501-q.2) q.1.1 q.1.2 q.2) (λq=>1501-q.2)
  (λq=>[(1,A4 x),(2,.ptr 0 1 0 0),(6,.ref 1 1 0 q.1.1.length),(7,EW q.1.2),(8,.int .i64 q.2)])
  (λq=>[⟨6,1,true,[Cu d]⟩,⟨3,1,false,q.1.1.map plcV⟩]) (λenv _=>[Cf 6 (env 2),Cf 3 (env 6)]) (([⟨d.start,0,[]⟩],[]),0) ⟨⟨⟨List.Pairwise.nil,by simp,by simp,λp hp=>(by simp only[Ao] at hp;subst hp;simp),λp hp=>(by simp only[Ao] at hp;subst hp;simp),by simp,λw hw=>(by cases hw)⟩⟩,rfl⟩ ?_ ?_)
 ·(with_reducible repeat'(first|simp (disch:=omega) only[push_cast,↓zz,seval,pR,pFi,pX]|apply Aa|refine sp_ ?_ ?_<;>intro hc<;>push_cast at hc|omega|intro _))
 rintro⟨⟨T,O⟩,k⟩ ⟨⟨hB⟩,hE⟩;simp only at hB hE ⊢;rcases Ah k T.length with hkT|hkT
 ·have hpm:=AL hkT
  have hpa:=hB.pa _ hpm;have hpo:=hB.po _ hpm;have htl:=hB.tl
  have hEk:bfsP d x (1501-k) T O k=(match rusP x (nth T k) d.rules T with|none=>none|some T'=>bfsP d x (1500-k) T' (Hz x (nth T k) d.finals O) (k+1)):=by
   rw[show 1501-k=(1500-k)+1 by omega,bfsP,Ae hkT]<;>rfl
  rw[hE,hEk];refine W_T ?_;generalize hpe:nth T k=p at *;have pT:=PI T;(with_reducible repeat'(first|simp (disch:=omega) only[push_cast,↓zz,seval,pR,pFi,pX,hpe,pT]|apply Aa|refine sp_ ?_ ?_<;>intro hc<;>push_cast at hc|omega|intro _));have hO0:=λj=>LW (x:=x) (p:=p) (d.finals.take j) hB.so
  have hOl:∀j,(Hz x p (d.finals.take j) O).length<=4096 * k+4096:=λj=>by
   have h1:=(hO0 j).2.2;have h2:=hB.ol;have h3:(d.finals.take j).length<=d.finals.length:=by rw[BR];exact Nat.min_le_right _ _
   omega
  have hhl:∀f∈d.finals,∀gs a,(CM x f.out gs a).length<=64:=λf hf gs a=>by
   have:=(hk.fb f hf).2.1;simpa [CM,C4] using this
  have hOw:∀j,∀w∈Hz x p (d.finals.take j) O,w.length<=64 * k+64:=λj w hw=>by
   rcases ((hO0 j).2.1 w).1 hw with h|⟨f,hf,_,rfl⟩
   ·have:=hB.ow w h;omega
   ·have:=hhl f (By hf) f.guards p.a
    rw[An];omega
  have hkk:k<=1500:=by omega
  refine AQ (AX (λ(j:Nat)=>j<=d.finals.length) (λj=>d.finals.length-j)
   (λj=>[(1,A4 x),(2,.ptr 0 1 0 0),(6,.ref 1 1 0 T.length),(7,EW (Hz x p (d.finals.take j) O)),(8,.int .i64 k),(9,.ptr 2 1 0 0),(10,.int .i64 j)])
   (λ_=>[⟨6,1,true,[Cu d]⟩,⟨3,1,false,T.map plcV⟩,⟨3,1,true,[plcV p]⟩]) (λenv _=>[Cf 6 (env 2),Cf 3 (env 6),Cf 3 (env 9)]) 0 (Aw _) ?_ ?_)
  ·have e0:Hz x p [] O=O:=rfl
   have pO:=BL O;(with_reducible repeat'(first|simp (disch:=omega) only[push_cast,↓zz,seval,pR,pFi,pX,pT,pO,e0]|apply Aa|refine sp_ ?_ ?_<;>intro hc<;>push_cast at hc|omega|intro _))
  intro j hj;rcases Ah j d.finals.length with hjl|hjl
  ·have hfm:=AL hjl
   obtain⟨⟨hg1,hg2⟩,hg3,hg4⟩:=hk.fb _ hfm;have hhf:=hhl _ hfm (nth d.finals j).guards p.a;have hFt:=z8u x (nth d.finals j).guards p.a (by omega) hk.x32 hg2 hg1 (by omega);have hWr:=VO (nth d.finals j).out (x.drop p.a) (by rw[List.length_drop];omega) (λv hv=>hk.x32 v (BJ hv)) (by omega) hg4;have e1:Hz x p (d.finals.take (j+1)) O=finP x p (Hz x p (d.finals.take j) O) (nth d.finals j):=by rw[Hz,take_at hjl,Co];rfl
   have hP:=λw (hw:w.length<=1000000000)=>zop (Hz x p (d.finals.take j) O) w (by have:=hOl j;omega) (λv hv=>by have:=hOw j v hv;omega) hw (hO0 j).1;clear hO0 hOl hOw hhl hE hEk hB;generalize Hz x p (d.finals.take j) O=Q at *;generalize hfe:nth d.finals j=f at *;have pQ:=BL Q;have pG:=Bs f.guards;have pTe:=BP f.out;have pPo:A6 (p.o.map (AV.int .i32))=true:=AE .i32 _;refine W_T ?_;by_cases h1:f.from_=p.s
   ·by_cases h2:f.guards.length+p.a=x.length
    ·have h2':(f.guards.length:Int)=(x.length:Int)-p.a:=by omega
     have hhe:CM x f.out f.guards p.a=C4 f.out (x.drop p.a):=by rw[CM,Al (by rw[List.length_drop];omega)]
     cases h3:goB x f.guards p.a with
     |true =>
      rw[h3] at hFt;rw[hhe] at hhf;have e2:finP x p Q f=insU (p.o++C4 f.out (x.drop p.a)) Q:=by rw[finP,Ae (by simp[Qa,h1,h2,h3]),hhe]
      have hJn:=z8v p.o (C4 f.out (x.drop p.a)) (by omega) (by omega);have hP:=hP (p.o++C4 f.out (x.drop p.a)) (by rw[An];omega);generalize C4 f.out (x.drop p.a)=W at *;have pWr:A6 (W.map (AV.int .i32))=true:=AE .i32 _;have pJn:A6 ((p.o++W).map (AV.int .i32))=true:=AE .i32 _;have pDr:A6 ((x.drop p.a).map (AV.int .i32))=true:=AE .i32 _;(with_reducible repeat'(first|simp (disch:=omega) only[push_cast,↓zz,seval,pR,pFi,pX,pT,pQ,pG,pTe,pPo,pWr,pJn,pDr,hfe,h1,h2']|apply Aa|refine sp_ ?_ ?_<;>intro hc<;>push_cast at hc|refine ee hFt ?_|refine ee hWr ?_|refine ee hJn ?_|refine ee hP ?_|((first|refine cc hFt ?_|refine cc hWr ?_|refine cc hJn ?_|refine cc hP ?_);(simp(disch:=omega)only[push_cast,↓zz,seval,pR,pFi,pX,pT,pQ,pG,pTe,pPo,pWr,pJn,pDr,hfe,h1,h2']);(fail_if_success change False))|omega|intro _))
      all_goals
       refine⟨j+1,?_⟩;(with_reducible repeat'(first|simp (disch:=omega) only[push_cast,↓zz,seval,e1,e2]|apply Aa|refine sp_ ?_ ?_<;>intro hc<;>push_cast at hc|omega|intro _))
     |false =>
      rw[h3] at hFt;have e2:finP x p Q f=Q:=by rw[finP,Ac (by simp[Qa,h3])]
      (with_reducible repeat'(first|simp (disch:=omega) only[push_cast,↓zz,seval,pR,pFi,pX,pT,pQ,pG,pTe,pPo,hfe,h1,h2']|apply Aa|refine sp_ ?_ ?_<;>intro hc<;>push_cast at hc|refine ee hFt ?_|(refine cc hFt ?_;(simp(disch:=omega)only[push_cast,↓zz,seval,pR,pFi,pX,pT,pQ,pG,pTe,pPo,hfe,h1,h2']);(fail_if_success change False))|omega|intro _))
      all_goals
       refine⟨j+1,?_⟩;(with_reducible repeat'(first|simp (disch:=omega) only[push_cast,↓zz,seval,e1,e2]|apply Aa|refine sp_ ?_ ?_<;>intro hc<;>push_cast at hc|omega|intro _))
    ·have h2':¬(f.guards.length:Int)=(x.length:Int)-p.a:=by omega
     have e2:finP x p Q f=Q:=by rw[finP,Ac (by simp[Qa,h2])]
     (with_reducible repeat'(first|simp (disch:=omega) only[push_cast,↓zz,seval,pR,pFi,pX,pT,pQ,pG,pTe,pPo,hfe,h1,h2']|apply Aa|refine sp_ ?_ ?_<;>intro hc<;>push_cast at hc|omega|intro _))
     all_goals
      refine⟨j+1,?_⟩;(with_reducible repeat'(first|simp (disch:=omega) only[push_cast,↓zz,seval,e1,e2]|apply Aa|refine sp_ ?_ ?_<;>intro hc<;>push_cast at hc|omega|intro _))
   ·have e2:finP x p Q f=Q:=by rw[finP,Ac (by simp[Qa,h1])]
    (with_reducible repeat'(first|simp (disch:=omega) only[push_cast,↓zz,seval,pR,pFi,pX,pT,pQ,pG,pTe,pPo,hfe,h1]|apply Aa|refine sp_ ?_ ?_<;>intro hc<;>push_cast at hc|omega|intro _))
    all_goals
     refine⟨j+1,?_⟩;(with_reducible repeat'(first|simp (disch:=omega) only[push_cast,↓zz,seval,e1,e2]|apply Aa|refine sp_ ?_ ?_<;>intro hc<;>push_cast at hc|omega|intro _))
  ·obtain rfl:j=d.finals.length:=by omega
   have hOs:=(hO0 d.finals.length).1;have hOl:=hOl d.finals.length;have hOw:=hOw d.finals.length;rw[A3] at hOs hOl hOw ⊢;have hTo:∀q∈T,q.a<=x.length/\q.o.length<=64 * k+64:=λq hq=>⟨hB.pa q hq,by have:=hB.po q hq;omega⟩;clear hO0 hE hEk hB hhl;generalize Hz x p d.finals O=Q at *;have pQ:=BL Q;have hrb:=hk.rb;have hgo:=hk.goes.r;refine W_T ?_;(with_reducible repeat'(first|simp (disch:=omega) only[push_cast,↓zz,seval,pR,pFi,pX,pT,pQ]|apply Aa|refine sp_ ?_ ?_<;>intro hc<;>push_cast at hc|omega|intro _))
   refine AQ (AX (λ(q:List Plc × Nat)=>q.2<=d.rules.length/\Hold ((rusP x p d.rules T=rusP x p (d.rules.drop q.2) q.1/\q.1.length<=1500/\k<q.1.length)/\∀u∈q.1,u.a<=x.length/\u.o.length<=64 * k+64)) (λq=>d.rules.length-q.2)
    (λq=>[(1,A4 x),(2,.ptr 0 1 0 0),(6,.ref 1 1 0 q.1.length),(7,EW Q),(8,.int .i64 k),(9,.ptr 2 1 0 0),(12,.int .i64 q.2)])
    (λq=>[⟨6,1,true,[Cu d]⟩,⟨3,1,false,q.1.map plcV⟩,⟨3,1,true,[plcV p]⟩]) (λenv _=>[Cf 6 (env 2),Cf 3 (env 6),Cf 3 (env 9)]) (T,0) ⟨Aw _,⟨⟨by simp,htl,hkT⟩,hTo⟩⟩ ?_ ?_)
   ·(with_reducible repeat'(first|simp (disch:=omega) only[push_cast,↓zz,seval,pR,pFi,pX,pT,pQ]|apply Aa|refine sp_ ?_ ?_<;>intro hc<;>push_cast at hc|omega|intro _))
   clear hTo hkT htl hpm;rintro⟨T1,j⟩ ⟨hj,⟨⟨hr1,hr2,hr3⟩,hr4⟩⟩;simp only at hj hr1 hr2 hr3 hr4 ⊢;have pT1:=PI T1;rcases Ah j d.rules.length with hjl|hjl
   ·have hrm:=AL hjl
    obtain⟨⟨hg1,hg2⟩,⟨hg3,hg4⟩,hg5,_⟩:=hrb _ hrm;obtain⟨_,_,hea,_⟩:=hgo _ hrm;have hFt:=z8u x (nth d.rules j).guards p.a (by omega) hk.x32 hg2 hg1 (by omega);rw[drop_at hjl,rusP] at hr1;generalize hre:nth d.rules j=r at *;have pG:=Bs r.guards;have pTe:=BP r.out;refine W_T ?_;by_cases h1:r.from_=p.s
    ·cases h3:goB x r.guards p.a with
     |true =>
      rw[h3] at hFt;rw[Ae (by simp[ruOk,h1,h3])] at hr1;have hgl:=FE h3;obtain⟨e,he⟩:∃e:Nat,r.eat=e:=⟨r.eat.toNat,by omega⟩;have hwl:(C4 r.out ((x.drop p.a).take r.guards.length)).length<=64:=by simpa [C4] using hg3
      have hWr:=VO r.out ((x.drop p.a).take r.guards.length) (by rw[BR,List.length_drop];omega) (λv hv=>hk.x32 v (BJ (By hv))) (by omega) hg4;have hJn:=z8v p.o (C4 r.out ((x.drop p.a).take r.guards.length)) (by omega) (by omega);have hq:nxP x p r=⟨r.to_,p.a+e,p.o++C4 r.out ((x.drop p.a).take r.guards.length)⟩:=by rw[nxP,show r.eat.toNat=e by omega];rfl
      rw[hq] at hr1;generalize C4 r.out ((x.drop p.a).take r.guards.length)=W at *;have pPo:A6 (p.o.map (AV.int .i32))=true:=AE .i32 _;have pWr:A6 (W.map (AV.int .i32))=true:=AE .i32 _;have pJn:A6 ((p.o++W).map (AV.int .i32))=true:=AE .i32 _;have pDr:A6 (((x.drop p.a).take r.guards.length).map (AV.int .i32))=true:=AE .i32 _;have hdt:List.drop p.a (List.take (p.a+r.guards.length) x)=(x.drop p.a).take r.guards.length:=by rw[List.drop_take];simp
      have hcat:((p.a:Int)+r.guards.length).toNat=p.a+r.guards.length:=by omega
      have hql:(p.o++W).length<=64 * k+64:=by rw[An];omega
      have hqa:p.a+e<=x.length:=by omega
      (with_reducible repeat'(first|simp (disch:=omega) only[push_cast,↓zz,seval,pR,pFi,pX,pT1,pQ,pG,pTe,pPo,pWr,pJn,pDr,hre,h1,hdt,hcat,he]|apply Aa|refine sp_ ?_ ?_<;>intro hc<;>push_cast at hc|refine ee hFt ?_|refine ee hWr ?_|refine ee hJn ?_|((first|refine cc hFt ?_|refine cc hWr ?_|refine cc hJn ?_);(simp(disch:=omega)only[push_cast,↓zz,seval,pR,pFi,pX,pT1,pQ,pG,pTe,pPo,pWr,pJn,pDr,hre,h1,hdt,hcat,he]);(fail_if_success change False))|omega|intro _));clear hFt hWr hJn hdt hcat hg1 hg2 hg3 hg4 hrb hgo hq hwl h3 hgl pDr pWr;generalize p.o++W=qo at *
      refine AQ (AX (λ(q:Nat × Bool)=>q.1<=T1.length/\Hold ((q.2=true->(⟨r.to_,p.a+e,qo⟩:Plc)∈T1)/\(q.2=false->(⟨r.to_,p.a+e,qo⟩:Plc)∉T1.take q.1))) (λq=>T1.length-q.1)
       (λq=>[(1,A4 x),(2,.ptr 0 1 0 0),(6,.ref 1 1 0 T1.length),(7,EW Q),(8,.int .i64 k),(9,.ptr 2 1 0 0),(12,.int .i64 j),(14,.ptr 3 1 0 0),(15,.bool q.2),(16,.int .i64 q.1)])
       (λ_=>[⟨6,1,true,[Cu d]⟩,⟨3,1,false,T1.map plcV⟩,⟨3,1,true,[plcV p]⟩,⟨3,1,true,[.agg [.int .i64 r.to_,.int .i64 ((p.a:Int)+e),A4 qo]]⟩]) (λenv _=>[Cf 6 (env 2),Cf 3 (env 6),Cf 3 (env 9),Cf 3 (env 14)]) (0,false) ⟨Aw _,⟨λh=>(by cases h),λ_=>by simp⟩⟩ ?_ ?_)
      ·(with_reducible repeat'(first|simp (disch:=omega) only[push_cast,↓zz,seval,pR,pFi,pX,pT1,pQ,pJn,pPo]|apply Aa|refine sp_ ?_ ?_<;>intro hc<;>push_cast at hc|omega|intro _))
      rintro⟨i,th⟩ ⟨hi,⟨ht1,ht2⟩⟩;simp only at hi ht1 ht2 ⊢;cases th with
      |true =>
       have hin:=ht1 rfl;rw[putP,Ae hin,Ac (by omega)] at hr1;clear ht1 ht2;refine W_T ?_;(with_reducible repeat'(first|simp (disch:=omega) only[push_cast,↓zz,seval,pR,pFi,pX,pT1,pQ,pJn,pPo]|apply Aa|refine sp_ ?_ ?_<;>intro hc<;>push_cast at hc|omega|intro _))
       all_goals
        refine⟨(T1,j+1),?_⟩;(with_reducible repeat'(first|simp (disch:=omega) only[push_cast,↓zz,seval]|apply Aa|refine sp_ ?_ ?_<;>intro hc<;>push_cast at hc|omega|intro _))
       all_goals first|exact⟨⟨⟨hr1,hr2,hr3⟩,hr4⟩⟩|trace_state
      |false =>
      have hno:=ht2 rfl;clear ht1 ht2;rcases Ah i T1.length with hil|hil
      ·have htm:=AL hil
       have hS:=Iy (nth T1 i).o qo (by have:=(hr4 _ htm).2;omega);have htk:T1.take (i+1)=T1.take i++[nth T1 i]:=take_at hil;generalize hte:nth T1 i=t at *;have pTo:A6 (t.o.map (AV.int .i32))=true:=AE .i32 _
       have hbad:t≠⟨r.to_,p.a+e,qo⟩->(⟨r.to_,p.a+e,qo⟩:Plc)∉T1.take (i+1):=λh=>by
        rw[htk,Am,Ao];exact λhh=>hh.elim hno λq=>h q.symm
       clear hno htk;refine W_T ?_;by_cases c1:t.s=r.to_
       ·by_cases c2:t.a=p.a+e
        ·have c2':(t.a:Int)=(p.a:Int)+e:=by omega
         by_cases c3:t.o=qo
         ·have hyes:(⟨r.to_,p.a+e,qo⟩:Plc)∈T1:=by rw[<-c1,<-c2,<-c3];exact htm
          rw[A7 c3] at hS;(with_reducible repeat'(first|simp (disch:=omega) only[push_cast,↓zz,seval,pR,pFi,pX,pT1,pQ,pJn,pPo,pTo,hte,c1,c2']|apply Aa|refine sp_ ?_ ?_<;>intro hc<;>push_cast at hc|refine ee hS ?_|(refine cc hS ?_;(simp(disch:=omega)only[push_cast,↓zz,seval,pR,pFi,pX,pT1,pQ,pJn,pPo,pTo,hte,c1,c2']);(fail_if_success change False))|omega|intro _))
          all_goals
           refine⟨(i+1,true),?_⟩;(with_reducible repeat'(first|simp (disch:=omega) only[push_cast,↓zz,seval]|apply Aa|refine sp_ ?_ ?_<;>intro hc<;>push_cast at hc|omega|intro _))
          all_goals first|exact⟨hyes⟩|trace_state
         ·have hb:=hbad λh=>c3 (by rw[h])
          rw[AM c3] at hS;(with_reducible repeat'(first|simp (disch:=omega) only[push_cast,↓zz,seval,pR,pFi,pX,pT1,pQ,pJn,pPo,pTo,hte,c1,c2']|apply Aa|refine sp_ ?_ ?_<;>intro hc<;>push_cast at hc|refine ee hS ?_|(refine cc hS ?_;(simp(disch:=omega)only[push_cast,↓zz,seval,pR,pFi,pX,pT1,pQ,pJn,pPo,pTo,hte,c1,c2']);(fail_if_success change False))|omega|intro _))
          all_goals
           refine⟨(i+1,false),?_⟩;(with_reducible repeat'(first|simp (disch:=omega) only[push_cast,↓zz,seval]|apply Aa|refine sp_ ?_ ?_<;>intro hc<;>push_cast at hc|omega|intro _))
          all_goals first|exact⟨hb⟩|trace_state
        ·have c2':¬(t.a:Int)=(p.a:Int)+e:=by omega
         have hb:=hbad λh=>c2 (by rw[h]);(with_reducible repeat'(first|simp (disch:=omega) only[push_cast,↓zz,seval,pR,pFi,pX,pT1,pQ,pJn,pPo,pTo,hte,c1,c2']|apply Aa|refine sp_ ?_ ?_<;>intro hc<;>push_cast at hc|omega|intro _))
         all_goals
          refine⟨(i+1,false),?_⟩;(with_reducible repeat'(first|simp (disch:=omega) only[push_cast,↓zz,seval]|apply Aa|refine sp_ ?_ ?_<;>intro hc<;>push_cast at hc|omega|intro _))
         all_goals first|exact⟨hb⟩|trace_state
       ·have hb:=hbad λh=>c1 (by rw[h])
        (with_reducible repeat'(first|simp (disch:=omega) only[push_cast,↓zz,seval,pR,pFi,pX,pT1,pQ,pJn,pPo,pTo,hte,c1]|apply Aa|refine sp_ ?_ ?_<;>intro hc<;>push_cast at hc|omega|intro _))
        all_goals
         refine⟨(i+1,false),?_⟩;(with_reducible repeat'(first|simp (disch:=omega) only[push_cast,↓zz,seval]|apply Aa|refine sp_ ?_ ?_<;>intro hc<;>push_cast at hc|omega|intro _))
        all_goals first|exact⟨hb⟩|trace_state
      ·obtain rfl:i=T1.length:=by omega
       rw[A3] at hno;rw[putP,Ac hno,An,List.length_singleton] at hr1;by_cases hm:1500<T1.length+1
       ·rw[Ae hm] at hr1
        rw[hr1];clear hno;refine W_T ?_;(with_reducible repeat'(first|simp (disch:=omega) only[push_cast,↓zz,seval,pR,pFi,pX,pT1,pQ,pJn,pPo,bfsA]|apply Aa|refine sp_ ?_ ?_<;>intro hc<;>push_cast at hc|omega|intro _))
       ·rw[Ac hm] at hr1
        have hr5:∀u∈T1++[⟨r.to_,p.a+e,qo⟩],u.a<=x.length/\u.o.length<=64 * k+64:=λu hu=>by
         rcases Am.1 hu with h|h
         ·exact hr4 u h
         ·rw[Ao.1 h];exact⟨hqa,hql⟩
        have hl1:(T1++[(⟨r.to_,p.a+e,qo⟩:Plc)]).length=T1.length+1:=by simp
        clear hno hr4;refine W_T ?_;(with_reducible repeat'(first|simp (disch:=omega) only[push_cast,↓zz,seval,pR,pFi,pX,pT1,pQ,pJn,pPo]|apply Aa|refine sp_ ?_ ?_<;>intro hc<;>push_cast at hc|omega|intro _))
        all_goals
         refine⟨(T1++[⟨r.to_,p.a+e,qo⟩],j+1),?_⟩;(with_reducible repeat'(first|simp (disch:=omega) only[push_cast,↓zz,seval]|apply Aa|refine sp_ ?_ ?_<;>intro hc<;>push_cast at hc|omega|intro _))
        all_goals first|exact⟨⟨⟨hr1,by omega,by omega⟩,hr5⟩⟩|exact Bc _ _|trace_state
     |false =>
      rw[h3] at hFt;rw[Ac (by simp[ruOk,h3])] at hr1;(with_reducible repeat'(first|simp (disch:=omega) only[push_cast,↓zz,seval,pR,pFi,pX,pT1,pQ,pG,pTe,hre,h1]|apply Aa|refine sp_ ?_ ?_<;>intro hc<;>push_cast at hc|refine ee hFt ?_|(refine cc hFt ?_;(simp(disch:=omega)only[push_cast,↓zz,seval,pR,pFi,pX,pT1,pQ,pG,pTe,hre,h1]);(fail_if_success change False))|omega|intro _))
      all_goals
       refine⟨(T1,j+1),?_⟩;(with_reducible repeat'(first|simp (disch:=omega) only[push_cast,↓zz,seval]|apply Aa|refine sp_ ?_ ?_<;>intro hc<;>push_cast at hc|omega|intro _))
      all_goals first|exact⟨⟨⟨hr1,hr2,hr3⟩,hr4⟩⟩|trace_state
    ·rw[Ac (by simp[ruOk,h1])] at hr1
     (with_reducible repeat'(first|simp (disch:=omega) only[push_cast,↓zz,seval,pR,pFi,pX,pT1,pQ,pG,pTe,hre,h1]|apply Aa|refine sp_ ?_ ?_<;>intro hc<;>push_cast at hc|omega|intro _))
     all_goals
      refine⟨(T1,j+1),?_⟩;(with_reducible repeat'(first|simp (disch:=omega) only[push_cast,↓zz,seval]|apply Aa|refine sp_ ?_ ?_<;>intro hc<;>push_cast at hc|omega|intro _))
     all_goals first|exact⟨⟨⟨hr1,hr2,hr3⟩,hr4⟩⟩|trace_state
   ·obtain rfl:j=d.rules.length:=by omega
    rw[List.drop_length,rusP] at hr1;rw[hr1];have hB2:BBd x T1 Q (k+1):=⟨hOs,hr2,hr3,λu hu=>(hr4 u hu).1,λu hu=>by have:=(hr4 u hu).2;omega,by omega,λw hw=>by have:=hOw w hw;omega⟩;clear hr4 hOw;refine W_T ?_;(with_reducible repeat'(first|simp (disch:=omega) only[push_cast,↓zz,seval,pR,pFi,pX,pT1,pQ]|apply Aa|refine sp_ ?_ ?_<;>intro hc<;>push_cast at hc|omega|intro _))
    all_goals
     refine⟨((T1,Q),k+1),?_⟩;(with_reducible repeat'(first|simp (disch:=omega) only[push_cast,↓zz,seval]|apply Aa|refine sp_ ?_ ?_<;>intro hc<;>push_cast at hc|omega|intro _))
    all_goals first|exact⟨hB2⟩|trace_state
 ·obtain rfl:k=T.length:=Nat.le_antisymm hB.kl hkT
  have hEe:bfsP d x (1501-T.length) T O T.length=some O:=by
   rw[show 1501-T.length=(1500-T.length)+1 by have:=hB.tl;omega,bfsP,Ac (by omega)]
  rw[hE,hEe];have pT:=PI T;have pO:=BL O;refine W_T ?_;(with_reducible repeat'(first|simp (disch:=omega) only[push_cast,↓zz,seval,pR,pFi,pX,pT,pO,bfsA]|apply Aa|refine sp_ ?_ ?_<;>intro hc<;>push_cast at hc|omega|intro _))
  all_goals trace_state
set_option maxRecDepth 100000
theorem z8w{d:Desc}{x:List Int}:∀(f:Nat){T:List Plc}{O O':List (List Int)}{k:Nat},Hx O->bfsP d x f T O k=some O'->O'.length<=O.length+f * d.finals.length
 |0,_,_,_,_,_,h=>by cases h
 |f+1,T,O,O',k,hO,h=>by
  rw[bfsP] at h;split at h
  ·split at h
   ·cases h
   ·obtain⟨g1,_,g3⟩:=LW (x:=x) (p:=nth T k) d.finals hO
    have:=z8w f g1 h;rw[Gf];omega
  ·cases h;omega
theorem z8x(d:Desc)(x:List Int):BInv d x [⟨d.start,0,[]⟩] [] 0 :=
 ⟨List.Pairwise.nil,λp hp=>by rw[Ao.1 hp];exact .here,λw hw=>(by cases hw),by simp,λi hi=>absurd hi (AP _),λi hi=>absurd hi (AP _)⟩
theorem X8{d:Desc}{x:List Int}(hsm:Gq d=true){O:List (List Int)}(h:bfsP d x 1501 [⟨d.start,0,[]⟩] [] 0=some O):O=outW d x 0 d.start/\O.length<=200000:=by
 refine⟨zg0 _ (z8x d x) h,?_⟩;have h1:=z8w _ (z8x d x).so h
 have h2:d.finals.length<=80:=by
  simp only[Gq,Ab,Ad] at hsm;omega
 have h3:1501 * d.finals.length<=1501 * 80:=Nat.mul_le_mul_left _ h2;simp only[List.length_nil] at h1;omega
theorem Qb(d:Desc)(x:List Int)(mo:Int)(hmo:mo<=9223372036854775807)(hl:x.length<=9223372036854775807)(h32:∀v∈x,-2147483648<=v/\v<=2147483647):PC Tryz.prog 5 [Cu d,A4 x,.int .i64 mo] (.bool true):=by
 have hA:=KN;have hG:=KJ d x hl;have pR:=BF d.rules;have pF:=B9 d.finals;have pX:A6 (x.map (AV.int .i32))=true:=AE .i32 _;cases hgr:(!Gq d||(decide (12<x.length)&&decide (x.length<=1024))) with
 |true =>
  rw[hgr] at hG;refine BA DV ?_;unfold Dh;(with_reducible repeat'(first|simp (disch:=omega) only[push_cast,↓zz,seval,pR,pF,pX]|apply Aa|refine sp_ ?_ ?_<;>intro hc<;>push_cast at hc|refine ee hG ?_|refine ee hA ?_|((first|refine cc hG ?_|refine cc hA ?_);(simp(disch:=omega)only[push_cast,↓zz,seval,pR,pF,pX]);(fail_if_success change False))|omega|intro _))
 |false =>
 rw[hgr] at hG
 have hsm:Gq d=true:=by
  cases h:Gq d with
  |true=>rfl
  |false=>rw[h] at hgr;simp at hgr
 have hsh:=KG hsm;have hC:=T6 d x hsh hl h32;by_cases hq:askV d x=0
 ·rw[hq] at hC
  by_cases h1:mo<1
  ·have hR:=GT d x hsh.fin hl h32 mo hmo λ_=>Bb (Gg _ _) (by omega)
   unfold runA at hR;rw[Ac (by simp[hq]),Ae h1] at hR;refine BA DV ?_;unfold Dh;(with_reducible repeat'(first|simp (disch:=omega) only[push_cast,↓zz,seval,pR,pF,pX]|apply Aa|refine sp_ ?_ ?_<;>intro hc<;>push_cast at hc|refine ee hG ?_|refine ee hC ?_|refine ee hR ?_|refine ee hA ?_|((first|refine cc hG ?_|refine cc hC ?_|refine cc hR ?_|refine cc hA ?_);(simp(disch:=omega)only[push_cast,↓zz,seval,pR,pF,pX]);(fail_if_success change False))|omega|intro _))
  ·obtain⟨n,hk⟩:=IP hq
   have hO:=M3 d x hk;cases hb:bfsP d x 1501 [⟨d.start,0,[]⟩] [] 0 with
   |none =>
    rw[hb] at hO;simp only[bfsA] at hO;refine BA DV ?_;unfold Dh;(with_reducible repeat'(first|simp (disch:=omega) only[push_cast,↓zz,seval,pR,pF,pX]|apply Aa|refine sp_ ?_ ?_<;>intro hc<;>push_cast at hc|refine ee hG ?_|refine ee hC ?_|refine ee hO ?_|refine ee hA ?_|((first|refine cc hG ?_|refine cc hC ?_|refine cc hO ?_|refine cc hA ?_);(simp(disch:=omega)only[push_cast,↓zz,seval,pR,pF,pX]);(fail_if_success change False))|omega|intro _))
   |some O =>
    rw[hb] at hO;simp only[bfsA] at hO;obtain⟨e,hle⟩:=X8 hsm hb;rw[e] at hO hle;obtain⟨m,rfl⟩:∃m:Nat,mo=m:=⟨mo.toNat,by omega⟩;have hR:=GT d x hsh.fin hl h32 m hmo λ_=>Bb (Nat.min_le_right _ _) hle;have hW:∀w∈outW d x 0 d.start,w.length<=1000000000000:=λw hw=>by have:=PH hk hw;omega
    have hM:=Pw (outW d x 0 d.start) (outW d x 0 d.start) (by omega) hW;rw[A7 rfl] at hM;clear hb e hW;by_cases hm:(outW d x 0 d.start).length<=m
    ·rw[zeb hq (by omega) hm] at hR
     generalize outW d x 0 d.start=W at *;have pW:=BL W;refine BA DV ?_;unfold Dh;(with_reducible repeat'(first|simp (disch:=omega) only[push_cast,↓zz,seval,pR,pF,pX,pW]|apply Aa|refine sp_ ?_ ?_<;>intro hc<;>push_cast at hc|refine ee hG ?_|refine ee hC ?_|refine ee hO ?_|refine ee hR ?_|refine ee hM ?_|refine ee hA ?_|((first|refine cc hG ?_|refine cc hC ?_|refine cc hO ?_|refine cc hR ?_|refine cc hM ?_|refine cc hA ?_);(simp(disch:=omega)only[push_cast,↓zz,seval,pR,pF,pX,pW]);(fail_if_success change False))|omega|intro _))
    ·rw[z8r hq (by omega) (by omega)] at hR
     generalize outW d x 0 d.start=W at *;have pW:=BL W;refine BA DV ?_;unfold Dh;(with_reducible repeat'(first|simp (disch:=omega) only[push_cast,↓zz,seval,pR,pF,pX,pW]|apply Aa|refine sp_ ?_ ?_<;>intro hc<;>push_cast at hc|refine ee hG ?_|refine ee hC ?_|refine ee hO ?_|refine ee hR ?_|refine ee hA ?_|((first|refine cc hG ?_|refine cc hC ?_|refine cc hO ?_|refine cc hR ?_|refine cc hA ?_);(simp(disch:=omega)only[push_cast,↓zz,seval,pR,pF,pX,pW]);(fail_if_success change False))|omega|intro _))
 ·have hR:=GT d x hsh.fin hl h32 mo hmo λh=>absurd h hq
  rw[zea hq] at hR;generalize askV d x=k at *;refine BA DV ?_;unfold Dh;(with_reducible repeat'(first|simp (disch:=omega) only[push_cast,↓zz,seval,pR,pF,pX,hq]|apply Aa|refine sp_ ?_ ?_<;>intro hc<;>push_cast at hc|refine ee hG ?_|refine ee hC ?_|refine ee hR ?_|refine ee hA ?_|((first|refine cc hG ?_|refine cc hC ?_|refine cc hR ?_|refine cc hA ?_);(simp(disch:=omega)only[push_cast,↓zz,seval,pR,pF,pX,hq]);(fail_if_success change False))|omega|intro _))
  all_goals trace_state
end Go.Proofs.YtbcjoeadpjfcfaaGreat
