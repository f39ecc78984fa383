/-
  Parts of the proof that the law holds whatever the input; without conditions.
-/
import Derived.Shelf.SlSortCmp.Whole1
import Derived.Shelf.Small.Bits
import Derived.Ground.SlsfProg
import Derived.Ground.NamesProg
import Derived.Test.YtbcjoeadpjfcfaaGreatProg
import Derived.Test.YtbcjoeadpjfcfaaGreatRM5
import Derived.Test.YtbcjoeadpjfcfaaGreatRM4
set_option linter.unusedSimpArgs false
set_option linter.unusedVariables false
set_option linter.unusedSectionVars false
namespace Go.Proofs.YtbcjoeadpjfcfaaGreat
open Abs O1 O2 O3
structure GOk(i:Int)(gs:List (List Span)):Prop where
 len:gs.length<=4
 short:∀g∈gs,g.length<=64
 some:∀g∈gs,∃v,memL g v
 dom:∀g∈gs,∀v,memL g v->Hm i v=true
theorem On:∀{l:List Int}{a b:Int},Fi l->(∀x∈l,a<=x/\x<=b)->a<=b+1->(l.length:Int)<=b-a+1
 |[],a,b,_,_,h=>by simp;omega
 |x::l,a,b,hr,hm,h=>by
  obtain⟨r1,r2⟩:=AG.1 hr;have hx:=hm x (by simp);have:=On (a:=x+1) (b:=b) r2 (λy hy=>by have:=r1 y hy;have:=hm y (by simp[hy]);omega) (by omega)
  push_cast [List.length_cons]
  omega
structure zgf(now:List Int):Prop where
 ris:Fi now
 bd:∀x∈now,-1114111<=x/\x<=1114111
 pos:0<now.length
theorem zgf.len{now:List Int}(h:zgf now):now.length<=2228223:=by
 have:=On h.ris h.bd (by omega);omega
set_option maxRecDepth 100000
structure TOk(t:Term)(i:Int)(gs:List (List Span)):Prop where
 parts:∀p∈t.parts,EN p gs.length=true
 four:t.parts.length<=4
 sm:-1114111<=t.sum/\t.sum<=1114111
 sort:i=1\/(i=2/\t.parts.length<=1/\∀p∈t.parts,Ii p=true)
theorem TOk.bits{t:Term}{i:Int}{gs:List (List Span)}(h:TOk t i gs):∀p∈t.parts,FV p=true:=λp hp=>by
 have:=h.parts p hp;simp only[EN,Ab] at this;exact this.2
theorem TOk.at{t:Term}{i:Int}{gs:List (List Span)}(h:TOk t i gs):∀p∈t.parts,0<=p.at_/\p.at_<gs.length:=λp hp=>IG (h.parts p hp)
def sumT{α:Type}(f:α->Int)(l:List α):Int:=(l.map f).sum
theorem P8{α:Type}[Inhabited α]{f:α->Int}{l:List α}{k:Nat}(h:k<l.length):sumT f (l.take (k+1))=sumT f (l.take k)+f (nth l k):=by rw[take_at h];simp[sumT]
theorem Gi{α:Type}{f:α->Int}{B:Int}(hf:∀x,0<=f x/\f x<=B):∀l:List α,0<=sumT f l/\sumT f l<=l.length * B
 |[]=>by simp[sumT]
 |x::l=>by
  have h1:=Gi hf l;have h2:=hf x;have e:sumT f (x::l)=f x+sumT f l:=by simp[sumT]
  have e2:((x::l).length:Int) * B=l.length * B+B:=by push_cast [List.length_cons];rw[Int.add_mul,Int.one_mul]
  omega
theorem IM{α:Type}{f:α->Int}(hf:∀x,0<=f x):∀{l:List α}{x:α},x∈l->f x<=sumT f l
 |y::l,x,h=>by
  have e:sumT f (y::l)=f y+sumT f l:=by simp[sumT]
  have hn:∀m:List α,0<=sumT f m:=λm=>by
   induction m with
   |nil=>simp[sumT]
   |cons z m ih =>
    have e:sumT f (z::m)=f z+sumT f m:=by simp[sumT]
    have:=hf z;omega
  have h1:=hf y;have h2:=hn l;rcases Ah.1 h with rfl|h
  ·omega
  ·have:=IM hf h
   omega
def szG(g:List Span):Int:=min (g.length:Int) 4000
def szT(t:Term):Int:=1+min (t.parts.length:Int) 4000
theorem Va(g:List Span):0<=szG g/\szG g<=4000:=by unfold szG;omega
theorem Vb(t:Term):0<=szT t/\szT t<=4001:=by unfold szT;omega
def HR(gs:List (List Span))(out:List Term):Int:=if 100<gs.length\/200<out.length then 4000 else 1+sumT szG gs+sumT szT out
theorem Oo(gs:List (List Span))(out:List Term):PC Tryz.prog 43 [CO gs,Gj out] (.int .i64 (HR gs out)):=by
 have hP:=Bw gs;have hT:=BV out;refine Ct QO ?_;unfold KE;by_cases hb:100<gs.length\/200<out.length
 ·rw[HR,Af hb]
  (with_reducible repeat'(first|simp (disch:=omega) only[push_cast,↓zz,seval,hP,hT]|apply Aa|refine sp_ ?_ ?_<;>intro hc<;>push_cast at hc|omega|intro _))
 rw[HR,Ae hb];(with_reducible repeat'(first|simp (disch:=omega) only[push_cast,↓zz,seval,hP,hT]|apply Aa|refine sp_ ?_ ?_<;>intro hc<;>push_cast at hc|omega|intro _))
 refine Bv (B8 (λ(k:Nat)=>k<=gs.length) (λk=>gs.length-k)
  (λk=>[(0,CO gs),(1,Gj out),(5,.int .i64 (1+sumT szG (gs.take k))),(6,.int .i64 k)]) (λk=>[]) (λ_ _=>[]) 0 (by simp) ?_ ?_)
 ·have e0:sumT szG ([]:List (List Span))=0:=rfl
  (with_reducible repeat'(first|simp (disch:=omega) only[push_cast,↓zz,seval,hP,hT,e0]|apply Aa|refine sp_ ?_ ?_<;>intro hc<;>push_cast at hc|omega|intro _))
 intro k hk;have hb1:=Gi Va (gs.take k);have hb2:((gs.take k).length:Int) * 4000<=100 * 4000:=B9 (by simp;omega) (by omega);rcases Aj k gs.length with hkl|hkl
 ·have hst:=P8 (f:=szG) hkl
  have hx:=Va (nth gs k);have hsz:min ((nth gs k).length:Int) 4000=szG (nth gs k):=rfl;generalize hge:nth gs k=g at *;generalize sumT szG (gs.take k)=n at *;have hw:IntKind.i64.wrap (1+n+szG g)=1+n+szG g:=IntWalk.i64_in _ (by omega);refine W_T ?_;(with_reducible repeat'(first|simp (disch:=omega) only[push_cast,↓zz,seval,hP,hT,hge,hsz,hw]|apply Aa|refine sp_ ?_ ?_<;>intro hc<;>push_cast at hc|omega|intro _))
  all_goals
   refine⟨k+1,?_⟩;(with_reducible repeat'(first|simp (disch:=omega) only[push_cast,↓zz,seval,hst]|apply Aa|refine sp_ ?_ ?_<;>intro hc<;>push_cast at hc|omega|intro _))
  all_goals first
   |omega
   |trace_state
 ·have hkt:gs.take k=gs:=An hkl
  rw[hkt] at hb1 hb2 ⊢;generalize sumT szG gs=n at *;refine W_T ?_;(with_reducible repeat'(first|simp (disch:=omega) only[push_cast,↓zz,seval,hP,hT]|apply Aa|refine sp_ ?_ ?_<;>intro hc<;>push_cast at hc|omega|intro _))
  refine Bv (B8 (λ(k:Nat)=>k<=out.length) (λk=>out.length-k)
   (λk=>[(1,Gj out),(5,.int .i64 (1+n+sumT szT (out.take k))),(7,.int .i64 k)]) (λk=>[]) (λ_ _=>[]) 0 (by simp) ?_ ?_)
  ·have e0:sumT szT ([]:List Term)=0:=rfl
   (with_reducible repeat'(first|simp (disch:=omega) only[push_cast,↓zz,seval,hP,hT,e0,Int.add_zero]|apply Aa|refine sp_ ?_ ?_<;>intro hc<;>push_cast at hc|omega|intro _))
  intro j hj;have hb3:=Gi Vb (out.take j);have hb4:((out.take j).length:Int) * 4001<=200 * 4001:=B9 (by simp;omega) (by omega);rcases Aj j out.length with hjl|hjl
  ·have hst:=P8 (f:=szT) hjl
   have hx:=Vb (nth out j);have hsz:szT (nth out j)=1+min ((nth out j).parts.length:Int) 4000:=rfl;generalize hge:nth out j=t at *;generalize sumT szT (out.take j)=m at *;generalize hze:min (t.parts.length:Int) 4000=z at *;have hw:IntKind.i64.wrap (1+n+m+1)=1+n+m+1:=IntWalk.i64_in _ (by omega);have hw2:IntKind.i64.wrap (1+n+m+1+z)=1+n+m+1+z:=IntWalk.i64_in _ (by omega);refine W_T ?_;(with_reducible repeat'(first|simp (disch:=omega) only[push_cast,↓zz,seval,hP,hT,hge,hze,hw,hw2]|apply Aa|refine sp_ ?_ ?_<;>intro hc<;>push_cast at hc|omega|intro _))
   all_goals
    refine⟨j+1,?_⟩;(with_reducible repeat'(first|simp (disch:=omega) only[push_cast,↓zz,seval,hst]|apply Aa|refine sp_ ?_ ?_<;>intro hc<;>push_cast at hc|omega|intro _))
   all_goals first
    |omega
    |trace_state
  ·have hjt:out.take j=out:=An hjl
   rw[hjt];refine W_T ?_;(with_reducible repeat'(first|simp (disch:=omega) only[push_cast,↓zz,seval,hP,hT]|apply Aa|refine sp_ ?_ ?_<;>intro hc<;>push_cast at hc|omega|intro _))
   all_goals trace_state
theorem K5(gs:List (List Span))(out:List Term):0<=HR gs out/\HR gs out<=2000000:=by
 unfold HR;have h1:=Gi Va gs;have h2:=Gi Vb out;split
 ·omega
 ·omega
def szR(r:Rule):Int:=HR r.guards r.out
def szF(f:Fq):Int:=HR f.guards f.out
def GL(d:Desc):Bool:=decide (d.rules.length<=80/\d.finals.length<=80)&&decide (sumT szR d.rules+sumT szF d.finals<=1500)
theorem MN(d:Desc):PC Tryz.prog 15 [CQ d] (.bool (GL d)):=by
 have hPr:=BJ d.rules;have hPf:=BB d.finals;have sR:∀r,0<=szR r/\szR r<=2000000:=λr=>K5 _ _;have sF:∀f,0<=szF f/\szF f<=2000000:=λr=>K5 _ _;refine Ct OY ?_;unfold JH;by_cases hb:d.rules.length<=80/\d.finals.length<=80
 ·rw[GL,AQ hb,AN]
  (with_reducible repeat'(first|simp (disch:=omega) only[push_cast,↓zz,seval]|apply Aa|refine sp_ ?_ ?_<;>intro hc<;>push_cast at hc|omega|intro _))
  refine Bv (B8 (λ(k:Nat)=>k<=d.rules.length) (λk=>d.rules.length-k)
   (λk=>[(1,.ptr 0 1 0 0),(3,.int .i64 (sumT szR (d.rules.take k))),(4,.int .i64 k)]) (λk=>[⟨6,1,true,[CQ d]⟩]) (λenv _=>[DD 1 (env 1)]) 0 (by simp) ?_ ?_)
  ·have e0:sumT szR ([]:List Rule)=0:=rfl
   (with_reducible repeat'(first|simp (disch:=omega) only[push_cast,↓zz,seval,hPr,hPf,e0]|apply Aa|refine sp_ ?_ ?_<;>intro hc<;>push_cast at hc|omega|intro _))
  intro k hk;have hb1:=Gi sR (d.rules.take k);have hb2:((d.rules.take k).length:Int) * 2000000<=80 * 2000000:=B9 (by simp;omega) (by omega);rcases Aj k d.rules.length with hkl|hkl
  ·have hst:=P8 (f:=szR) hkl
   have hx:=sR (nth d.rules k);have hS:=Oo (nth d.rules k).guards (nth d.rules k).out;have hsz:HR (nth d.rules k).guards (nth d.rules k).out=szR (nth d.rules k):=rfl;rw[hsz] at hS;generalize hge:nth d.rules k=r at *;generalize sumT szR (d.rules.take k)=n at *;have hw:IntKind.i64.wrap (n+szR r)=n+szR r:=IntWalk.i64_in _ (by omega);have hpg:=Bw r.guards;have hpt:=BV r.out;refine W_T ?_;(with_reducible repeat'(first|simp (disch:=omega) only[push_cast,↓zz,seval,hPr,hPf,hge,hw,hpg,hpt]|apply Aa|refine sp_ ?_ ?_<;>intro hc<;>push_cast at hc|refine ee hS ?_|(refine cc hS ?_;(simp(disch:=omega)only[push_cast,↓zz,seval,hPr,hPf,hge,hw,hpg,hpt]);(fail_if_success change False))|omega|intro _))
   all_goals
    refine⟨k+1,?_⟩;(with_reducible repeat'(first|simp (disch:=omega) only[push_cast,↓zz,seval,hst]|apply Aa|refine sp_ ?_ ?_<;>intro hc<;>push_cast at hc|omega|intro _))
  ·have hkt:d.rules.take k=d.rules:=An hkl
   rw[hkt] at hb1 hb2 ⊢;generalize sumT szR d.rules=n at *;refine W_T ?_;(with_reducible repeat'(first|simp (disch:=omega) only[push_cast,↓zz,seval,hPr,hPf]|apply Aa|refine sp_ ?_ ?_<;>intro hc<;>push_cast at hc|omega|intro _))
   refine Bv (B8 (λ(k:Nat)=>k<=d.finals.length) (λk=>d.finals.length-k)
    (λk=>[(1,.ptr 0 1 0 0),(3,.int .i64 (n+sumT szF (d.finals.take k))),(5,.int .i64 k)]) (λk=>[⟨6,1,true,[CQ d]⟩]) (λenv _=>[DD 1 (env 1)]) 0 (by simp) ?_ ?_)
   ·have e0:sumT szF ([]:List Fq)=0:=rfl
    (with_reducible repeat'(first|simp (disch:=omega) only[push_cast,↓zz,seval,hPr,hPf,e0,Int.add_zero]|apply Aa|refine sp_ ?_ ?_<;>intro hc<;>push_cast at hc|omega|intro _))
   intro j hj;have hb3:=Gi sF (d.finals.take j);have hb4:((d.finals.take j).length:Int) * 2000000<=80 * 2000000:=B9 (by simp;omega) (by omega);rcases Aj j d.finals.length with hjl|hjl
   ·have hst:=P8 (f:=szF) hjl
    have hx:=sF (nth d.finals j);have hS:=Oo (nth d.finals j).guards (nth d.finals j).out;have hsz:HR (nth d.finals j).guards (nth d.finals j).out=szF (nth d.finals j):=rfl;rw[hsz] at hS;generalize hge:nth d.finals j=f at *;generalize sumT szF (d.finals.take j)=m at *;have hw:IntKind.i64.wrap (n+m+szF f)=n+m+szF f:=IntWalk.i64_in _ (by omega);have hpg:=Bw f.guards;have hpt:=BV f.out;refine W_T ?_;(with_reducible repeat'(first|simp (disch:=omega) only[push_cast,↓zz,seval,hPr,hPf,hge,hw,hpg,hpt]|apply Aa|refine sp_ ?_ ?_<;>intro hc<;>push_cast at hc|refine ee hS ?_|(refine cc hS ?_;(simp(disch:=omega)only[push_cast,↓zz,seval,hPr,hPf,hge,hw,hpg,hpt]);(fail_if_success change False))|omega|intro _))
    all_goals
     refine⟨j+1,?_⟩;(with_reducible repeat'(first|simp (disch:=omega) only[push_cast,↓zz,seval,hst]|apply Aa|refine sp_ ?_ ?_<;>intro hc<;>push_cast at hc|omega|intro _))
    all_goals first
     |omega
     |trace_state
   ·have hjt:d.finals.take j=d.finals:=An hjl
    rw[hjt];refine W_T ?_;(with_reducible repeat'(first|simp (disch:=omega) only[push_cast,↓zz,seval,hPr,hPf]|apply Aa|refine sp_ ?_ ?_<;>intro hc<;>push_cast at hc|omega|intro _))
 ·rw[GL,Bu hb,Be]
  (with_reducible repeat'(first|simp (disch:=omega) only[push_cast,↓zz,seval]|apply Aa|refine sp_ ?_ ?_<;>intro hc<;>push_cast at hc|omega|intro _))
  all_goals trace_state
theorem Oq{gs:List (List Span)}{out:List Term}(h:HR gs out<=1500):∀t∈out,t.parts.length<4000:=by
 unfold HR at h;split at h
 ·omega
 ·intro t ht
  have h1:=IM (λt=>(Vb t).1) ht;have h2:=(Gi Va gs).1;have h3:szT t=1+min (t.parts.length:Int) 4000:=rfl;omega
theorem Z7{d:Desc}(h:GL d=true):Iq d:=by
 simp only[GL,Ab,Ag] at h;have sR:∀r,0<=szR r/\szR r<=2000000:=λr=>K5 _ _;have sF:∀f,0<=szF f/\szF f<=2000000:=λr=>K5 _ _;have a1:=(Gi sR d.rules).1;have a2:=(Gi sF d.finals).1;refine⟨λr hr t ht=>?_,λf hf t ht=>?_⟩
 ·have h1:=IM (λr=>(sR r).1) hr
  have h2:szR r=HR r.guards r.out:=rfl;have:=Oq (gs:=r.guards) (out:=r.out) (by omega) t ht;omega
 ·have h1:=IM (λr=>(sF r).1) hf
  have h2:szF f=HR f.guards f.out:=rfl;have:=Oq (gs:=f.guards) (out:=f.out) (by omega) t ht;omega
structure Z8(d:Desc):Prop where
 fin:Iq d
 rg:∀r∈d.rules,r.guards.length<=9223372036854775807
 fg:∀f∈d.finals,f.guards.length<=9223372036854775807
structure Hold(p:Prop):Prop where
 get:p
theorem share{P Q:Prop}(main:Hold P->Q)(k:Hold P):Q:=main k
theorem R3{α:Type}[DecidableEq α][Inhabited α]{l m:List α}{k:Nat}(h1:k<l.length)(h2:k<m.length):decide (l.drop k=m.drop k)=(decide (nth l k=nth m k)&&decide (l.drop (k+1)=m.drop (k+1))):=by
 rw[drop_at h1,drop_at h2];simp
structure z7x(gs:List (List Span))(out:List Term):Prop where
 g:gs.length<=1000000000000
 gl:∀l∈gs,l.length<=1000000000000
 o:out.length<=1000000000000
 ol:∀t∈out,t.parts.length<=1000000000000
structure zgp(d:Desc):Prop where
 r:d.rules.length<=1000000000000
 rs:∀r∈d.rules,z7x r.guards r.out
 f:d.finals.length<=1000000000000
 fs:∀f∈d.finals,z7x f.guards f.out
theorem MO{gs:List (List Span)}{out:List Term}(h:HR gs out<=1500):gs.length<=100:=by
 unfold HR at h;split at h
 ·omega
 ·omega
theorem MP{d:Desc}(h:GL d=true):Z8 d:=by
 refine⟨Z7 h,?_,?_⟩
 all_goals
  simp only[GL,Ab,Ag] at h;have sR:∀r,0<=szR r/\szR r<=2000000:=λr=>K5 _ _;have sF:∀f,0<=szF f/\szF f<=2000000:=λr=>K5 _ _;have a1:=(Gi sR d.rules).1;have a2:=(Gi sF d.finals).1
 ·intro r hr
  have h1:=IM (λr=>(sR r).1) hr;have h2:szR r=HR r.guards r.out:=rfl;have:=MO (gs:=r.guards) (out:=r.out) (by omega);omega
 ·intro f hf
  have h1:=IM (λr=>(sF r).1) hf;have h2:szF f=HR f.guards f.out:=rfl;have:=MO (gs:=f.guards) (out:=f.out) (by omega);omega
theorem zcc(s x:Int)(hx:-2147483648<=x/\x<=2147483647):PC Tryz.prog 133 [.int .i64 s,.int .i32 x] (.bool (Hm s x)):=by
 refine Ct Y7 ?_;unfold QV;(with_reducible repeat'(first|simp (disch:=omega) only[push_cast,↓zz,seval]|apply Aa|refine sp_ ?_ ?_<;>intro hc<;>push_cast at hc|omega|intro _))
 all_goals first
  |(unfold Hm;first|(refine TW ?_;omega)|(refine TX ?_;omega)|(refine LF ?_;omega))
  |(rw[eq_comm];(unfold Hm;first|(refine TW ?_;omega)|(refine TX ?_;omega)|(refine LF ?_;omega)))
  |trace_state
theorem Z9(s:Int)(l:List Int)(hl:l.length<=1000000000000)(h32:∀x∈l,-2147483648<=x/\x<=2147483647):PC Tryz.prog 100 [.int .i64 s,AE l] (.bool (l.all (Hm s))):=by
 have pI:A9 (l.map (AV.int .i32))=true:=Bt .i32 _;refine Ct SA ?_;unfold Mf;(with_reducible repeat'(first|simp (disch:=omega) only[push_cast,↓zz,seval,pI]|apply Aa|refine sp_ ?_ ?_<;>intro hc<;>push_cast at hc|omega|intro _))
 refine Bv (B8 (λ(k:Nat)=>k<=l.length/\l.all (Hm s)=(l.drop k).all (Hm s)) (λk=>l.length-k)
  (λk=>[(0,.int .i64 s),(7,AE l),(8,.int .i64 l.length),(9,.int .i64 k)]) (λ_=>[]) (λ_ _=>[]) 0 (by simp) ?_ ?_)
 ·(with_reducible repeat'(first|simp (disch:=omega) only[push_cast,↓zz,seval,pI]|apply Aa|refine sp_ ?_ ?_<;>intro hc<;>push_cast at hc|omega|intro _))
 rintro k ⟨hk,hr⟩;rcases Aj k l.length with hkl|hkl
 ·have hI:=zcc s (nth l k) (h32 _ (Bo hkl))
  rw[drop_at hkl,List.all_cons] at hr;generalize Hm s (nth l k)=b at *;cases b with
  |true =>
   refine W_T ?_;(with_reducible repeat'(first|simp (disch:=omega) only[push_cast,↓zz,seval,pI]|apply Aa|refine sp_ ?_ ?_<;>intro hc<;>push_cast at hc|refine ee hI ?_|(refine cc hI ?_;(simp(disch:=omega)only[push_cast,↓zz,seval,pI]);(fail_if_success change False))|omega|intro _))
   all_goals
    refine⟨k+1,?_⟩;(with_reducible repeat'(first|simp (disch:=omega) only[push_cast,↓zz,seval]|apply Aa|refine sp_ ?_ ?_<;>intro hc<;>push_cast at hc|omega|intro _));simpa using hr
  |false =>
   refine W_T ?_;(with_reducible repeat'(first|simp (disch:=omega) only[push_cast,↓zz,seval,pI]|apply Aa|refine sp_ ?_ ?_<;>intro hc<;>push_cast at hc|refine ee hI ?_|(refine cc hI ?_;(simp(disch:=omega)only[push_cast,↓zz,seval,pI]);(fail_if_success change False))|omega|intro _))
   all_goals (rw[hr];rfl)
 ·rw[Aw hkl] at hr
  refine W_T ?_;(with_reducible repeat'(first|simp (disch:=omega) only[push_cast,↓zz,seval,pI]|apply Aa|refine sp_ ?_ ?_<;>intro hc<;>push_cast at hc|omega|intro _))
  all_goals (rw[hr];rfl)
noncomputable def askV (d:Desc) (x:List Int):Int:=if Fa d≠0 then 2 else if 1024<x.length then 4 else if x.all (Hm d.in_)=true then 0 else 1
theorem R4(d:Desc)(x:List Int)(hf:Iq d)(hl:x.length<=9223372036854775807)(h32:∀v∈x,-2147483648<=v/\v<=2147483647):PC Tryz.prog 59 [CQ d,AE x] (.int .i64 (askV d x)):=by
 have hC:=Oj d hf;have hF:=λ(h:¬1024<x.length)=>Z9 d.in_ x (by omega) h32;have pR:=BJ d.rules;have pF:=BB d.finals;have pI:A9 (x.map (AV.int .i32))=true:=Bt .i32 _;refine Ct S6 ?_;unfold Ma askV;generalize Fa d=k at *;generalize x.all (Hm d.in_)=b at *;by_cases hk:k=0
 ·subst hk
  rw[Ae (by simp)];by_cases hx:1024<x.length
  ·rw[Af hx]
   (with_reducible repeat'(first|simp (disch:=omega) only[push_cast,↓zz,seval,pR,pF,pI]|apply Aa|refine sp_ ?_ ?_<;>intro hc<;>push_cast at hc|refine ee hC ?_|(refine cc hC ?_;(simp(disch:=omega)only[push_cast,↓zz,seval,pR,pF,pI]);(fail_if_success change False))|omega|intro _))
  ·rw[Ae hx]
   have hF:=hF hx;cases b with
   |true =>
    rw[Af rfl];(with_reducible repeat'(first|simp (disch:=omega) only[push_cast,↓zz,seval,pR,pF,pI]|apply Aa|refine sp_ ?_ ?_<;>intro hc<;>push_cast at hc|refine ee hC ?_|refine ee hF ?_|((first|refine cc hC ?_|refine cc hF ?_);(simp(disch:=omega)only[push_cast,↓zz,seval,pR,pF,pI]);(fail_if_success change False))|omega|intro _))
   |false =>
    rw[Ae (by simp)];(with_reducible repeat'(first|simp (disch:=omega) only[push_cast,↓zz,seval,pR,pF,pI]|apply Aa|refine sp_ ?_ ?_<;>intro hc<;>push_cast at hc|refine ee hC ?_|refine ee hF ?_|((first|refine cc hC ?_|refine cc hF ?_);(simp(disch:=omega)only[push_cast,↓zz,seval,pR,pF,pI]);(fail_if_success change False))|omega|intro _))
 ·rw[Af hk]
  (with_reducible repeat'(first|simp (disch:=omega) only[push_cast,↓zz,seval,pR,pF,pI,hk]|apply Aa|refine sp_ ?_ ?_<;>intro hc<;>push_cast at hc|refine ee hC ?_|(refine cc hC ?_;(simp(disch:=omega)only[push_cast,↓zz,seval,pR,pF,pI,hk]);(fail_if_success change False))|omega|intro _))
  all_goals trace_state
abbrev C0(d:Desc)(x:List Int)(ru fi od li:AV):AV:=.cptr (.agg [.int .i64 d.in_,.int .i64 d.out,.int .i64 d.states,.int .i64 d.start,Ft d.rules,FS d.finals,AE x,ru,fi,od,li])
def goB(x:List Int)(gs:List (List Span))(at_:Nat):Bool:=decide (gs.length+at_<=x.length)&&(List.range gs.length).all λk=>hasI (nth gs k) (nth x (at_+k))
theorem Nq{p:Nat->Bool}{k n:Nat}(h:k<n)(hp:∀j,j<k->p j=true):(p k=false->(List.range n).all p=false):=λhk=>by
 rw[List.all_eq_false];exact⟨k,by simpa using h,by simp[hk]⟩
theorem Lu(d:Desc)(x:List Int)(ru fi od li:AV)(gs:List (List Span))(at_:Nat)(hr:ru.pure=true)(hfi:fi.pure=true)(ho:od.pure=true)(hli:li.pure=true)(hx:x.length<=1000000)(h32:∀v∈x,-2147483648<=v/\v<=2147483647)(hg:∀g∈gs,g.length<=1000000)(hgl:gs.length<=1000000)(ha:at_<=1000000):
 PC Tryz.prog 65 [C0 d x ru fi od li,CO gs,.int .i64 at_] (.bool (goB x gs at_)):=by
 have pR:=BJ d.rules;have pF:=BB d.finals;have pX:A9 (x.map (AV.int .i32))=true:=Bt .i32 _;have pG:=Bw gs;refine Ct Ks ?_;unfold He;(with_reducible repeat'(first|simp (disch:=omega) only[push_cast,↓zz,seval,pR,pF,pX,pG,hr,hfi,ho,hli]|apply Aa|refine sp_ ?_ ?_<;>intro hc<;>push_cast at hc|omega|intro _))
 ·have:¬gs.length+at_<=x.length:=by omega
  simp[goB,this]
 have hfit:gs.length+at_<=x.length:=by omega
 have hgo:goB x gs at_=(List.range gs.length).all λk=>hasI (nth gs k) (nth x (at_+k)):=by simp[goB,hfit]
 rw[hgo]
 refine Bv (B8 (λ(k:Nat)=>k<=gs.length/\Hold (∀j,j<k->hasI (nth gs j) (nth x (at_+j))=true)) (λk=>gs.length-k)
  (λk=>[(0,C0 d x ru fi od li),(2,.int .i64 at_),(19,CO gs),(20,.int .i64 gs.length),(21,.int .i64 k)]) (λ_=>[]) (λ_ _=>[]) 0 ⟨by simp,⟨λj hj=>by omega⟩⟩ ?_ ?_)
 ·(with_reducible repeat'(first|simp (disch:=omega) only[push_cast,↓zz,seval,pR,pF,pX,pG,hr,hfi,ho,hli]|apply Aa|refine sp_ ?_ ?_<;>intro hc<;>push_cast at hc|omega|intro _))
 rintro k ⟨hk,⟨hall⟩⟩;rcases Aj k gs.length with hkl|hkl
 ·have hHas:=z4r (nth gs k) (nth x (at_+k)) (by have:=hg _ (Bo hkl);omega)
  have hb:=h32 _ (Bo (show at_+k<x.length by omega));have hcast:((at_:Int)+k).toNat=at_+k:=by omega
  generalize hge:nth gs k=g at *;have pg:=EI g;cases hh:hasI g (nth x (at_+k)) with
  |true =>
   rw[hh] at hHas
   have hnx:Hold (∀j,j<k+1->hasI (nth gs j) (nth x (at_+j))=true):=⟨λj hj=>by
    by_cases e:j=k
    ·subst e;rw[hge];exact hh
    ·exact hall j (by omega)⟩
   clear hall;refine W_T ?_;(with_reducible repeat'(first|simp (disch:=omega) only[push_cast,↓zz,seval,pR,pF,pX,pG,hr,hfi,ho,hli,hge,pg,hcast]|apply Aa|refine sp_ ?_ ?_<;>intro hc<;>push_cast at hc|refine ee hHas ?_|(refine cc hHas ?_;(simp(disch:=omega)only[push_cast,↓zz,seval,pR,pF,pX,pG,hr,hfi,ho,hli,hge,pg,hcast]);(fail_if_success change False))|omega|intro _))
   all_goals first
    |(refine⟨k+1,?_⟩
      (with_reducible repeat'(first|simp (disch:=omega) only[push_cast,↓zz,seval,pR,pF,pX,pG,hr,hfi,ho,hli]|apply Aa|refine sp_ ?_ ?_<;>intro hc<;>push_cast at hc|omega|intro _))
      all_goals first|assumption|trace_state)
    |trace_state
  |false =>
   rw[hh] at hHas;have hno:(List.range gs.length).all (λk=>hasI (nth gs k) (nth x (at_+k)))=false:=Nq hkl hall (by rw[hge];exact hh);rw[hno];clear hall hno;refine W_T ?_;(with_reducible repeat'(first|simp (disch:=omega) only[push_cast,↓zz,seval,pR,pF,pX,pG,hr,hfi,ho,hli,hge,pg,hcast]|apply Aa|refine sp_ ?_ ?_<;>intro hc<;>push_cast at hc|refine ee hHas ?_|(refine cc hHas ?_;(simp(disch:=omega)only[push_cast,↓zz,seval,pR,pF,pX,pG,hr,hfi,ho,hli,hge,pg,hcast]);(fail_if_success change False))|omega|intro _))
 ·obtain rfl:k=gs.length:=by omega
  have hyes:(List.range gs.length).all (λk=>hasI (nth gs k) (nth x (at_+k)))=true:=AU.2 λj hj=>hall j (by simpa using hj);rw[hyes];clear hall hyes;refine W_T ?_;(with_reducible repeat'(first|simp (disch:=omega) only[push_cast,↓zz,seval,pR,pF,pX,pG,hr,hfi,ho,hli]|apply Aa|refine sp_ ?_ ?_<;>intro hc<;>push_cast at hc|omega|intro _))
  all_goals trace_state
theorem Vd(d:Desc)(x:List Int)(ru fi od li:AV)(f:Fq)(at_:Nat)(hr:ru.pure=true)(hfi:fi.pure=true)(ho:od.pure=true)(hli:li.pure=true)(hx:x.length<=1000000)(h32:∀v∈x,-2147483648<=v/\v<=2147483647)(hg:∀g∈f.guards,g.length<=1000000)(hgl:f.guards.length<=1000000)(ha:at_<=1000000):
 PC Tryz.prog 63 [C0 d x ru fi od li,KC f,.int .i64 at_] (.bool (decide (f.guards.length+at_=x.length)&&goB x f.guards at_)):=by
 have pR:=BJ d.rules;have pF:=BB d.finals;have pX:A9 (x.map (AV.int .i32))=true:=Bt .i32 _;have pG:=Bw f.guards;have pT:=BV f.out;have hF:=Lu d x ru fi od li f.guards at_ hr hfi ho hli hx h32 hg hgl ha;refine Ct Kr ?_;unfold Hd;generalize goB x f.guards at_=b at *;by_cases he:f.guards.length+at_=x.length
 ·rw[AQ he,AN]
  have he2:(f.guards.length:Int)=(x.length:Int)-at_:=by omega
  (with_reducible repeat'(first|simp (disch:=omega) only[push_cast,↓zz,seval,pR,pF,pX,pG,pT,hr,hfi,ho,hli,he2]|apply Aa|refine sp_ ?_ ?_<;>intro hc<;>push_cast at hc|refine ee hF ?_|(refine cc hF ?_;(simp(disch:=omega)only[push_cast,↓zz,seval,pR,pF,pX,pG,pT,hr,hfi,ho,hli,he2]);(fail_if_success change False))|omega|intro _))
  all_goals first|omega|trace_state
 ·rw[Bu he,Be]
  have he2:¬(f.guards.length:Int)=(x.length:Int)-at_:=by omega
  (with_reducible repeat'(first|simp (disch:=omega) only[push_cast,↓zz,seval,pR,pF,pX,pG,pT,hr,hfi,ho,hli,he2]|apply Aa|refine sp_ ?_ ?_<;>intro hc<;>push_cast at hc|refine ee hF ?_|(refine cc hF ?_;(simp(disch:=omega)only[push_cast,↓zz,seval,pR,pF,pX,pG,pT,hr,hfi,ho,hli,he2]);(fail_if_success change False))|omega|intro _))
  all_goals first|omega|trace_state
def EG(out:List Term)(w:List Int):List Int:=out.map λt=>IntKind.i32.wrap ((Fw t w).getD 0)
theorem IN(d:Desc)(x:List Int)(ru fi od li:AV)(out:List Term)(at_ n:Nat)(hr:ru.pure=true)(hfi:fi.pure=true)(ho:od.pure=true)(hli:li.pure=true)(hx:x.length<=1000000)(h32:∀v∈x,-2147483648<=v/\v<=2147483647)(hol:out.length<=1000000)(hop:∀t∈out,t.parts.length<=1000000)(ha:at_+n<=x.length):
 PC Tryz.prog 64 [C0 d x ru fi od li,Gj out,.int .i64 at_,.int .i64 n] (AE (EG out ((x.drop at_).take n))):=by
 have pR:=BJ d.rules;have pF:=BB d.finals;have pX:A9 (x.map (AV.int .i32))=true:=Bt .i32 _;have pT:=BV out;have hwl:((x.drop at_).take n).length<=1000000:=by simp;omega
 have hw32:∀v∈(x.drop at_).take n,-2147483648<=v/\v<=2147483647:=λv hv=>h32 v (BQ (BC hv));have hV:=λt (ht:t∈out)=>Wl t ((x.drop at_).take n) (by have:=hop t ht;omega) (by omega) hw32;have hmw:List.take n (List.drop at_ (x.map (AV.int .i32)))=((x.drop at_).take n).map (AV.int .i32):=by rw[List.map_take,List.map_drop]
 have hcat:((at_:Int)+n).toNat=at_+n:=by omega
 have pW:A9 (((x.drop at_).take n).map (AV.int .i32))=true:=Bt .i32 _;have hdt:List.drop at_ (List.take (at_+n) x)=(x.drop at_).take n:=by rw[List.drop_take];simp
 have e0:∀w,EG [] w=[]:=λ_=>rfl;have wl:∀w,(EG out w).length=out.length:=λw=>by simp[EG]
 have wt:∀w,List.take out.length (EG out w)=EG out w:=λw=>An (by rw[wl];exact Ac _);refine Ct Jw ?_;unfold G3;(with_reducible repeat'(first|simp (disch:=omega) only[push_cast,↓zz,seval,pR,pF,pX,pT,hr,hfi,ho,hli]|apply Aa|refine sp_ ?_ ?_<;>intro hc<;>push_cast at hc|omega|intro _))
 refine Bv (B8 (λ(k:Nat)=>k<=out.length) (λk=>out.length-k)
  (λk=>[(0,C0 d x ru fi od li),(2,.int .i64 at_),(3,.int .i64 n),(9,.ref 0 1 0 k),(14,Gj out),(15,.int .i64 out.length),(16,.int .i64 k)]) (λk=>[⟨1,1,false,(EG (out.take k) ((x.drop at_).take n)).map (AV.int .i32)⟩]) (λenv _=>[DD 1 (env 9)]) 0 (by simp) ?_ ?_)
 ·(with_reducible repeat'(first|simp (disch:=omega) only[push_cast,↓zz,seval,pR,pF,pX,pT,hr,hfi,ho,hli,e0]|apply Aa|refine sp_ ?_ ?_<;>intro hc<;>push_cast at hc|omega|intro _))
 intro k hk;have hlk:(EG (out.take k) ((x.drop at_).take n)).length=k:=by simp[EG];omega
 have pL:A9 ((EG (out.take k) ((x.drop at_).take n)).map (AV.int .i32))=true:=Bt .i32 _;rcases Aj k out.length with hkl|hkl
 ·have hVk:=hV _ (Bo hkl)
  have e1:EG (out.take (k+1)) ((x.drop at_).take n)=EG (out.take k) ((x.drop at_).take n)++[IntKind.i32.wrap ((Fw (nth out k) ((x.drop at_).take n)).getD 0)]:=by rw[EG,take_at hkl,A7];rfl
  generalize hte:nth out k=t at *;have pP:=Hb t.parts;generalize EG (out.take k) ((x.drop at_).take n)=L at *;refine W_T ?_;(with_reducible repeat'(first|simp (disch:=omega) only[push_cast,↓zz,seval,pR,pF,pX,pT,hr,hfi,ho,hli,hte,pP,hmw,hcat,pW,hdt]|apply Aa|refine sp_ ?_ ?_<;>intro hc<;>push_cast at hc|refine ee hVk ?_|(refine cc hVk ?_;(simp(disch:=omega)only[push_cast,↓zz,seval,pR,pF,pX,pT,hr,hfi,ho,hli,hte,pP,hmw,hcat,pW,hdt]);(fail_if_success change False))|omega|intro _))
  all_goals
   refine⟨k+1,?_⟩;(with_reducible repeat'(first|simp (disch:=omega) only[push_cast,↓zz,seval,e1,pL,pR,pF,pX,pT,hr,hfi,ho,hli]|apply Aa|refine sp_ ?_ ?_<;>intro hc<;>push_cast at hc|omega|intro _))
 ·obtain rfl:k=out.length:=by omega
  have et:out.take out.length=out:=An (by omega);rw[et] at hlk pL ⊢;refine W_T ?_;(with_reducible repeat'(first|simp (disch:=omega) only[push_cast,↓zz,seval,pR,pF,pX,pT,hr,hfi,ho,hli,pL,et,wl,wt]|apply Aa|refine sp_ ?_ ?_<;>intro hc<;>push_cast at hc|omega|intro _))
  all_goals trace_state
def ltW:List Int->List Int->Bool
 |[],[]=>false
 |[],_::_=>true
 |_::_,[]=>false
 |a::l,b::m=>if a<b then true else if b<a then false else ltW l m
theorem Gt:∀a,ltW a a=false
 |[]=>rfl
 |a::l=>by simp[ltW,Gt l]
theorem Iu:∀a b c,ltW a b=true->ltW b c=true->ltW a c=true
 |[],[],_,h,_=>by simp[ltW] at h
 |[],b::m,[],_,h=>by simp[ltW] at h
 |[],_::_,_::_,_,_=>rfl
 |_::_,[],_,h,_=>by simp[ltW] at h
 |_::_,_::_,[],_,h=>by simp[ltW] at h
 |a::l,b::m,c::n,h1,h2=>by
  simp only[ltW] at h1 h2 ⊢;split at h1
  ·split at h2
   ·rw[Af (by omega)]
   ·split at h2
    ·cases h2
    ·rw[Af (by omega)]
  ·split at h1
   ·cases h1
   ·split at h2
    ·rw[Af (by omega)]
    ·split at h2
     ·cases h2
     ·rw[Ae (by omega),Ae (by omega)]
      exact Iu l m n h1 h2
theorem Iv:∀a b,ltW a b=false->ltW b a=false->a=b
 |[],[],_,_=>rfl
 |[],_::_,h,_=>by simp[ltW] at h
 |_::_,[],_,h=>by simp[ltW] at h
 |a::l,b::m,h1,h2=>by
  have e1:¬a<b:=λh=>by simp[ltW,h] at h1
  have e2:¬b<a:=λh=>by simp[ltW,h] at h2
  rw[ltW,Ae e1,Ae e2] at h1;rw[ltW,Ae e2,Ae e1] at h2;have:a=b:=by omega
  rw[this,Iv l m h1 h2]
def Lh(l:List (List Int)):Prop:=l.Pairwise λa b=>ltW a b=true
theorem P9:∀{l m:List (List Int)},Lh l->Lh m->(∀w,w∈l↔w∈m)->l=m
 |[],[],_,_,_=>rfl
 |[],b::m,_,_,h=>by have:=(h b).2 (by simp);cases this
 |a::l,[],_,_,h=>by have:=(h a).1 (by simp);cases this
 |a::l,b::m,h1,h2,h=>by
  rw[Lh,AG] at h1 h2
  have e:a=b:=by
   rcases Ah.1 ((h a).1 (by simp)) with e|ha
   ·exact e
   ·rcases Ah.1 ((h b).2 (by simp)) with e|hb
    ·exact e.symm
    ·have k1:=h1.1 b hb
     have k2:=h2.1 a ha;have:=Iu _ _ _ k1 k2;rw[Gt] at this;cases this
  subst e;have hna:a∉l:=λhm=>by have:=h1.1 a hm;rw[Gt] at this;cases this
  have hnb:a∉m:=λhm=>by have:=h2.1 a hm;rw[Gt] at this;cases this
  rw[P9 (l:=l) (m:=m) h1.2 h2.2 λw=>?_];constructor
  ·intro hw
   rcases Ah.1 ((h w).1 (by simp[hw])) with e|e
   ·subst e;exact absurd hw hna
   ·exact e
  ·intro hw
   rcases Ah.1 ((h w).2 (by simp[hw])) with e|e
   ·subst e;exact absurd hw hnb
   ·exact e
def insU(w:List Int):List (List Int)->List (List Int)
 |[]=>[w]
 |a::l=>if ltW w a=true then w::a::l else if ltW a w=true then a::insU w l else a::l
theorem PD(w:List Int):∀(l:List (List Int))(v:List Int),v∈insU w l↔v=w\/v∈l
 |[],v=>by simp[insU]
 |a::l,v=>by
  simp only[insU];split
  ·simp
  ·split
   ·rw[Ah,PD w l v,Ah]
    constructor
    ·rintro (h|h|h)
     ·exact .inr (.inl h)
     ·exact .inl h
     ·exact .inr (.inr h)
    ·rintro (h|h|h)
     ·exact .inr (.inl h)
     ·exact .inl h
     ·exact .inr (.inr h)
   ·rename_i h1 h2
    have e:w=a:=Iv w a (by simpa using h1) (by simpa using h2);subst e;simp
theorem R5(w:List Int):∀{l:List (List Int)},Lh l->Lh (insU w l)
 |[],_=>DK _ _
 |a::l,h=>by
  have h':=h;rw[Lh,AG] at h';simp only[insU];split
  ·rename_i h1
   refine AG.2 ⟨λv hv=>?_,h⟩;rcases Ah.1 hv with rfl|hv
   ·exact h1
   ·exact Iu _ _ _ h1 (h'.1 v hv)
  ·split
   ·rename_i h2
    refine AG.2 ⟨λv hv=>?_,R5 w h'.2⟩;rcases (PD w l v).1 hv with rfl|hv
    ·exact h2
    ·exact h'.1 v hv
   ·exact h
def Iw(l:List (List Int)):List (List Int):=l.foldr insU []
theorem Ix:∀(l:List (List Int))(v:List Int),v∈Iw l↔v∈l
 |[],v=>Iff.rfl
 |a::l,v=>by
  show v∈insU a (Iw l)↔_;rw[PD,Ix l v,Ah]
theorem IP:∀(l:List (List Int)),Lh (Iw l)
 |[]=>List.Pairwise.nil
 |a::l=>R5 a (IP l)
theorem Ve{l m:List (List Int)}(h1:Lh m)(h2:∀w,w∈m↔w∈l):Iw l=m:=P9 (IP l) h1 λw=>(Ix l w).trans (h2 w).symm
theorem Vf(w:List Int):∀l:List (List Int),(insU w l).length<=l.length+1
 |[]=>by simp[insU]
 |a::l=>by
  have:=Vf w l;simp only[insU];repeat' split
  all_goals simp;try omega
theorem R6:∀l:List (List Int),(Iw l).length<=l.length
 |[]=>Ac _
 |a::l=>by
  have:=R6 l;have h2:=Vf a (Iw l);show (insU a (Iw l)).length<=_;simp;omega
theorem HE{α:Type}:∀{l m:List α},l.Nodup->(∀w∈l,w∈m)->l.length<=m.length
 |[],m,_,_=>Ay _
 |a::l,m,hn,h=>by
  obtain⟨s,t,rfl⟩:=List.append_of_mem (h a (by simp));rw[B6] at hn
  have:=HE (l:=l) (m:=s++t) hn.2 λw hw=>by
   have:=h w (by simp[hw]);simp only[Ap,Ah] at this ⊢;rcases this with h1|h1|h1
   ·exact .inl h1
   ·subst h1;exact absurd hw hn.1
   ·exact .inr h1
  simp only[Al,List.length_cons] at this ⊢;omega
def epsI(l:List Rule)(s:Int):List Nat:=(List.range l.length).filter λi=>Dl (nth l i)&&decide ((nth l i).from_=s)
theorem PE{l:List Rule}{s:Int}{i:Nat}:i∈epsI l s↔i<l.length/\Dl (nth l i)=true/\(nth l i).from_=s:=by
 simp[epsI]
def okP(l:List Rule):Int->List Nat->Prop
 |_,[]=>True
 |s,i::p=>i∈epsI l s/\okP l (nth l i).to_ p
def endP(l:List Rule):Int->List Nat->Int
 |s,[]=>s
 |_,i::p=>endP l (nth l i).to_ p
theorem zgg{l:List Rule}{on:Nat->Bool}{i j:Nat}(hi:i<l.length)(he:Dl (nth l i)=true)(ho:on (nth l i).from_.toNat=true)(ht:(nth l i).to_=j):onF l on j=true:=by
 rw[onF,BG];exact⟨nth l i,Bo hi,by simp[he,ho,ht]⟩
theorem z7y{l:List Rule}{n:Nat}(hl:∀r∈l,(0<=r.from_/\r.from_<n)/\0<=r.to_/\r.to_<n):∀(p:List Nat)(k:Nat)(s:Int),0<=s->onK l k s.toNat=true->okP l s p->onK l (k+p.length) (endP l s p).toNat=true
 |[],k,s,_,ho,_=>ho
 |i::p,k,s,hs,ho,hp=>by
  obtain⟨h1,h2,h3⟩:=PE.1 hp.1;have hr:=hl _ (Bo h1);have ht:onK l (k+1) (nth l i).to_.toNat=true:=zgg h1 h2 (by rw[h3];exact ho) (by omega);have:=z7y hl p (k+1) (nth l i).to_ hr.2.1 ht hp.2;rw[List.length_cons,show k+(p.length+1)=k+1+p.length by omega];exact this
theorem ZA{l:List Rule}{n:Nat}(hl:∀r∈l,(0<=r.from_/\r.from_<n)/\0<=r.to_/\r.to_<n)(hc:¬cycP l n){s:Int}(hs:0<=s){p:List Nat}(hp:okP l s p):p.length<=n+1:=by
 have hcr:¬cycR l n=true:=λh=>hc ((z4i hl).1 h)
 have:∃k,k<=n/\Wo l (onK l k)=false:=by
  refine AJ λhh=>hcr ?_;rw[cycR,AU];intro k hk;refine AJ λh2=>hh ⟨k,by simp at hk;omega,by simpa using h2⟩
 obtain⟨k,hk,hkf⟩:=this
 have hno:∀j,onK l (k+1) j=false:=λj=>by
  refine AJ λhh=>?_;have h1:onF l (onK l k) j=true:=by simpa [onK] using hh
  rw[onF,BG] at h1;obtain⟨r,hr,h2⟩:=h1;simp only[Ab] at h2
  have:Wo l (onK l k)=true:=by
   rw[Wo,BG];exact⟨r,hr,by simp[h2.1,h2.2.1]⟩
  rw[hkf] at this;cases this
 refine AJ λhlen=>?_;have h1:=z7y hl p 0 s hs rfl hp;rw[AO] at h1
 have down:∀m j,onK l (k+1+m) j=true->onK l (k+1) j=true:=λm=>by
  induction m with
  |zero=>exact λj h=>h
  |succ m ih=>exact λj h=>ih j (Pv l _ j h)
 have:=down (p.length-(k+1)) (endP l s p).toNat (by rw[show k+1+(p.length-(k+1))=p.length by omega];exact h1);rw[hno] at this;cases this
theorem Lv(l:List Rule):∀(s:Int)(p q:List Nat),endP l s (p++q)=endP l (endP l s p) q
 |s,[],q=>rfl
 |s,i::p,q=>Lv l _ p q
theorem PF(l:List Rule):∀(s:Int)(p q:List Nat),okP l s (p++q)↔okP l s p/\okP l (endP l s p) q
 |s,[],q=>by simp[okP,endP]
 |s,i::p,q=>by simp[okP,endP,PF l _ p q,and_assoc]
def DF(x:List Int)(out:List Term)(gs:List (List Span))(at_:Nat):List Int:=EG out ((x.drop at_).take gs.length)
inductive RelW(d:Desc)(x:List Int):Nat->Int->List Int->Prop
 |fin {at_:Nat} {s:Int} (f:Fq):f∈d.finals->f.from_=s->f.guards.length+at_=x.length->goB x f.guards at_=true->RelW d x at_ s (DF x f.out f.guards at_)
 |step {at_:Nat} {s:Int} (r:Rule) (w:List Int):r∈d.rules->r.from_=s->goB x r.guards at_=true->RelW d x (at_+r.eat.toNat) r.to_ w->RelW d x at_ s (DF x r.out r.guards at_++w)
theorem PG{d:Desc}{x:List Int}{at_:Nat}{s:Int}{w:List Int}:RelW d x at_ s w ↔
 (∃f∈d.finals,f.from_=s/\(f.guards.length+at_=x.length/\goB x f.guards at_=true)/\w=DF x f.out f.guards at_) \/
 ∃r∈d.rules,r.from_=s/\goB x r.guards at_=true/\∃v,RelW d x (at_+r.eat.toNat) r.to_ v/\w=DF x r.out r.guards at_++v:=by
 constructor
 ·rintro (⟨f,h1,h2,h3,h4⟩|⟨r,v,h1,h2,h3,h4⟩)
  ·exact .inl ⟨f,h1,h2,⟨h3,h4⟩,rfl⟩
  ·exact .inr ⟨r,h1,h2,h3,v,h4,rfl⟩
 ·rintro (⟨f,h1,h2,⟨h3,h4⟩,rfl⟩|⟨r,h1,h2,h3,v,h4,rfl⟩)
  ·exact .fin f h1 h2 h3 h4
  ·exact .step r v h1 h2 h3 h4
def IV(d:Desc)(x:List Int)(at_:Nat)(s:Int)(L:List (List Int)):Prop:=Lh L/\∀w,w∈L↔RelW d x at_ s w
theorem z5q{d:Desc}{x:List Int}{at_:Nat}{s:Int}{L M:List (List Int)}(h1:IV d x at_ s L)(h2:IV d x at_ s M):L=M:=P9 h1.1 h2.1 λw=>(h1.2 w).trans (h2.2 w).symm
def outL(d:Desc)(x:List Int)(S:Nat->Int->List (List Int))(at_:Nat)(s:Int):List (List Int) :=
 ((d.finals.filter λf=>decide (f.from_=s)&&(decide (f.guards.length+at_=x.length)&&goB x f.guards at_)).map λf=>DF x f.out f.guards at_) ++
 (d.rules.filter λr=>decide (r.from_=s)&&goB x r.guards at_).flatMap λr=>(S (at_+r.eat.toNat) r.to_).map (DF x r.out r.guards at_++·)
theorem z5r{d:Desc}{x:List Int}{S:Nat->Int->List (List Int)}{at_:Nat}{s:Int}(h:∀r∈d.rules,r.from_=s->goB x r.guards at_=true->∀v,v∈S (at_+r.eat.toNat) r.to_↔RelW d x (at_+r.eat.toNat) r.to_ v)(w:List Int):w∈outL d x S at_ s↔RelW d x at_ s w:=by
 rw[PG,outL,Ap,Ar,D6];constructor
 ·rintro (⟨f,hf,rfl⟩|⟨r,hr,hw⟩)
  ·obtain⟨h1,h2⟩:=AX.1 hf
   simp only[Ab,Ag] at h2;exact .inl ⟨f,h1,h2.1,h2.2,rfl⟩
  ·obtain⟨h1,h2⟩:=AX.1 hr
   simp only[Ab,Ag] at h2;obtain⟨v,hv,rfl⟩:=Ar.1 hw;exact .inr ⟨r,h1,h2.1,h2.2,v,(h r h1 h2.1 h2.2 v).1 hv,rfl⟩
 ·rintro (⟨f,h1,h2,h3,rfl⟩|⟨r,h1,h2,h3,v,hv,rfl⟩)
  ·exact .inl ⟨f,AX.2 ⟨h1,by simp[h2,h3.1,h3.2]⟩,rfl⟩
  ·exact .inr ⟨r,AX.2 ⟨h1,by simp[h2,h3]⟩,Ar.2 ⟨v,(h r h1 h2 h3 v).2 hv,rfl⟩⟩
theorem PH{d:Desc}{x:List Int}{S:Nat->Int->List (List Int)}{at_:Nat}{s:Int}(h:∀r∈d.rules,r.from_=s->goB x r.guards at_=true->IV d x (at_+r.eat.toNat) r.to_ (S (at_+r.eat.toNat) r.to_)):IV d x at_ s (Iw (outL d x S at_ s)) :=
 ⟨IP _,λw=>(Ix _ w).trans (z5r (λr h1 h2 h3 v=>(h r h1 h2 h3).2 v) w)⟩
structure Topo(l:List Rule)(n:Nat)(ord:List Nat):Prop where
 nodup:ord.Nodup
 all:∀s,s∈ord↔s<n
 eps:∀i,i<ord.length->∀r∈l,Dl r=true->r.from_=(nth ord i:Nat)->∃t:Nat,r.to_=t/\t∈ord.take i
structure Goes(d:Desc)(n:Nat):Prop where
 r:∀r∈d.rules,(0<=r.from_/\r.from_<n)/\(0<=r.to_/\r.to_<n)/\r.eat.toNat<=r.guards.length/\(Dl r=false->1<=r.eat.toNat)
theorem G9{x:List Int}{gs:List (List Span)}{at_:Nat}(h:goB x gs at_=true):gs.length+at_<=x.length:=by
 simp only[goB,Ab,Ag] at h;exact h.1
theorem ZB{d:Desc}{n:Nat}(hg:Goes d n){r:Rule}(hr:r∈d.rules)(he:Dl r=true):r.eat.toNat=0:=by
 have h1:=(hg.r r hr).2.2.1;simp only[Dl,Ag] at he;omega
theorem zgh{d:Desc}{n:Nat}{x:List Int}{ord:List Nat}(hg:Goes d n)(ht:Topo d.rules n ord):∀(k at_:Nat),x.length-at_<k->at_<=x.length->∀s:Nat,s<n->∃L,IV d x at_ s L:=by
 intro k
 induction k with
 |zero=>intro at_ h;omega
 |succ k ih =>
  intro at_ hk ha
  have key:∀i,i<=ord.length->∀s:Nat,s∈ord.take i->∃L,IV d x at_ s L:=λi=>by
   induction i with
   |zero=>intro _ s hs;simp at hs
   |succ i ihi =>
    intro hi s hs;rw[take_at (by omega),Ap,Aq] at hs;rcases hs with hs|rfl
    ·exact ihi (by omega) s hs
    ·have hnx:∀r∈d.rules,r.from_=(nth ord i:Nat)->goB x r.guards at_=true->∃L,IV d x (at_+r.eat.toNat) r.to_ L:=λr hr hf hgo=>by
      obtain⟨_,⟨t1,t2⟩,e1,e2⟩:=hg.r r hr;have hle:=G9 hgo;cases he:Dl r with
      |true =>
       obtain⟨t,h1,h2⟩:=ht.eps i (by omega) r hr he hf;rw[ZB hg hr he,h1,Nat.add_zero];exact ihi (by omega) t h2
      |false =>
       have:=e2 he;have h3:=ih (at_+r.eat.toNat) (by omega) (by omega) r.to_.toNat (by omega)
       rwa [Bn t1] at h3
     classical
     exact⟨_,PH (S:=λa t=>if h:∃L,IV d x a t L then h.choose else []) λr hr hf hgo=>by
      have h:=hnx r hr hf hgo;simp only[dif_pos h]
      exact h.choose_spec⟩
  intro s hs;exact key ord.length (Ac _) s (by rw[AB];exact (ht.all s).2 hs)
open Classical in
noncomputable def outW (d:Desc) (x:List Int) (at_:Nat) (s:Int):List (List Int):=if h:∃L,IV d x at_ s L then h.choose else []
theorem R7{d:Desc}{x:List Int}{at_:Nat}{s:Int}(h:∃L,IV d x at_ s L):IV d x at_ s (outW d x at_ s):=by
 rw[outW,dif_pos h];exact h.choose_spec
theorem ZC{d:Desc}{x:List Int}{at_:Nat}{s:Int}{L:List (List Int)}(h:IV d x at_ s L):outW d x at_ s=L:=z5q (R7 ⟨L,h⟩) h
inductive R8(d:Desc)(x:List Int):Nat->Int->List Int->Nat->Int->Prop
 |here {at_:Nat} {s:Int}:R8 d x at_ s [] at_ s
 |step {at_:Nat} {s:Int} {u:List Int} {a:Nat} {t:Int} (r:Rule):R8 d x at_ s u a t->r∈d.rules->r.from_=t->goB x r.guards a=true->R8 d x at_ s (u++DF x r.out r.guards a) (a+r.eat.toNat) r.to_
theorem z5s{d:Desc}{x:List Int}{at_:Nat}{s:Int}{u:List Int}{a:Nat}{t:Int}(h:R8 d x at_ s u a t):∀{w:List Int},RelW d x a t w->RelW d x at_ s (u++w):=by
 induction h with
 |here=>intro w hw;exact hw
 |step r _ h1 h2 h3 ih =>
  intro w hw;rw[Ax];exact ih (.step r w h1 h2 h3 hw)
theorem Vg{d:Desc}{x:List Int}{at_:Nat}{s:Int}{u:List Int}{a:Nat}{t:Int}(h:R8 d x at_ s u a t){L M:List (List Int)}(hL:IV d x a t L)(hM:IV d x at_ s M):L.length<=M.length:=by
 have h1:(L.map (u++·)).length<=M.length:=by
  refine HE ?_ λw hw=>?_
  ·have hn:L.Nodup:=List.Pairwise.imp (λ{a b} hab (e:a=b)=>by subst e;rw[Gt] at hab;cases hab) hL.1
   exact List.Pairwise.map _ (λa b hab (e:u++a=u++b)=>hab (List.append_cancel_left e)) hn
  ·obtain⟨v,hv,rfl⟩:=Ar.1 hw
   exact (hM.2 _).2 (z5s h ((hL.2 v).1 hv))
 simpa using h1
section
variable {α:Type}(w:Nat)(e:α->AV)
def gG(v:Nat)(l:List α):Grp:=⟨w,v,l.isEmpty,l.map e⟩
def fF(n:Nat)(V:Nat->Nat)(D:Nat->List α):List Grp:=(List.range n).map λi=>gG w e (V i) (D i)
def fT(o n:Nat)(V:Nat->Nat)(D:Nat->List α):List AV:=(List.range n).map λi=>AV.ref (i+o) (V i) 0 (D i).length
def fD(n:Nat)(D:Nat->List α):List AV:=(List.range n).map λi=>AV.lst w ((D i).map e)
def setD(D:Nat->List α)(i:Nat)(l:List α)(p:Nat):List α:=if p=i then l else D p
variable {w e}{n o i:Nat}{V:Nat->Nat}{D:Nat->List α}
theorem Ot:(fF w e n V D).length=n:=by simp[fF]
theorem z7z:(fT o n V D).length=n:=by simp[fT]
theorem Ou:(fD w e n D).length=n:=by simp[fD]
theorem z5t(h:i<n):(fF w e n V D).getD i default=gG w e (V i) (D i):=Cp h
theorem zgi{z:AV}(h:i<n):(fT o n V D).getD i z=.ref (i+o) (V i) 0 (D i).length:=Cp h
theorem WE{z:AV}(h:i<n):(fD w e n D).getD i z=.lst w ((D i).map e):=Cp h
theorem Ov(h:i<n):(fD w e n D)[i]? = some (.lst w ((D i).map e)):=by simp[fD,h]
theorem Dg(he:∀x,(e x).pure=true)(l:List α):A9 (l.map e)=true:=BL.2 λx hx=>by
 obtain⟨y,_,rfl⟩:=Ar.1 hx;exact he y
theorem ED(he:∀x,(e x).pure=true):A9 (fD w e n D)=true:=BL.2 λx hx=>by
 obtain⟨i,_,rfl⟩:=Ar.1 hx;exact Dg he _
theorem z80{l:List α}(h:i<n):(fT o n V D).set i (.ref (i+o) (V i+1) 0 l.length)=fT o n (setV V i (V i+1)) (setD D i l):=by
 rw[fT,Df h,fT];refine AD λj _=>?_;by_cases hj:j=i
 ·subst hj;simp[setV,setD]
 ·simp[setV,setD,hj]
theorem z81{l:List α}(hl:l≠[])(h:i<n):(fF w e n V D).set i ⟨w,V i+1,false,l.map e⟩=fF w e n (setV V i (V i+1)) (setD D i l):=by
 rw[fF,Df h,fF];refine AD λj _=>?_;by_cases hj:j=i
 ·subst hj
  cases l with
  |nil=>exact absurd rfl hl
  |cons a l=>simp[setV,setD,gG]
 ·simp[setV,setD,hj,gG]
theorem zcd(l:List α):(!l.isEmpty||(l.map e).isEmpty)=true:=by cases l<;>rfl
theorem z82{F R:List Grp}(hF:F.length=n)(h:i<n):(F++R).getD i default=F.getD i default:=by
 rw[Am,Az (by omega),<-Am]
theorem zce{F R:List Grp}(hF:F.length=n)(k:Nat):(F++R).getD (n+k) default=R.getD k default:=by
 rw[Am,A5 (by omega),<-Am];congr 1;omega
theorem Lw{F R:List Grp}(hF:F.length=n):(F++R).getD n default=R.getD 0 default:=by
 have:=zce (R:=R) hF 0;simpa using this
theorem Tl{G:Grp}:∀{F R:List Grp}{i:Nat},i<F.length->setQ (F++R) i G=some (F.set i G++R)
 |[],_,_,h=>by simp at h
 |a::F,R,0,h=>rfl
 |a::F,R,i+1,h=>by rw[List.cons_append,setQ,Tl (by simpa using h)];rfl
theorem Vh{G:Grp}:∀(F R:List Grp){n:Nat}(k:Nat),F.length=n->setQ (F++R) (n+k) G=(setQ R k G).map (F++·)
 |[],R,n,k,h=>by
  obtain rfl:n=0:=by simpa using h.symm
  rw[AO,List.nil_append];cases setQ R k G<;>rfl
 |a::F,R,n,k,h=>by
  obtain⟨m,rfl⟩:∃m,n=m+1:=⟨n-1,by simp at h;omega⟩;rw[show m+1+k=m+k+1 by omega,List.cons_append,setQ,Vh F R k (by simpa using h)];cases setQ R k G<;>rfl
theorem R9{G:Grp}(F R:List Grp){n:Nat}(h:F.length=n):setQ (F++R) n G=(setQ R 0 G).map (F++·):=by
 have:=Vh (G:=G) F R 0 h;simpa using this
theorem Vi{ks:List Nat}{F R:List Grp}{G:Grp}{p i:Nat}(hi:i<F.length)(h:p+i∈ks):CJ p ks (F++R) (F.set i G++R):=by
 rw[<-Ez _ _ hi];exact J2 h
theorem zgj:fF w e n (λ_=>1) (λ_=>[])=(List.replicate n w).map HM:=by
 rw[CP];refine BH (by simp[fF]) λi h1 h2=>?_;simp only[fF,Es,DR,List.getElem_replicate];rfl
theorem zcf{l:List Grp}{o n:Nat}(hw:0<w)(h:∀i,i<n->l.getD (i+o) default=HM w/\i+o<l.length):leSL l (List.replicate n .nilS) (fT o n (λ_=>1) λ_=>([]:List α)):=by
 have key:∀idx:List Nat,(∀i∈idx,i<n)->leSL l (List.replicate idx.length .nilS) (idx.map λi=>AV.ref (i+o) 1 0 0):=λidx=>by
  induction idx with
  |nil=>exact λ_=>rfl
  |cons i idx ih =>
   intro hi;obtain⟨h1,h2⟩:=h i (hi i (by simp));refine⟨?_,ih λj hj=>hi j (by simp[hj])⟩;show 0=0/\0=0/\(l.getD (i+o) default).ver=1/\0<(l.getD (i+o) default).w/\(l.getD (i+o) default).xs=[]/\(l.getD (i+o) default).exact=true/\i+o<l.length;rw[h1];exact⟨rfl,rfl,rfl,hw,rfl,rfl,h2⟩
 have:=key (List.range n) λi hi=>by simpa using hi
 rwa [C8] at this
theorem z83{m o:Nat}(h:n+o<=m):ltL m (fT o n V D):=by
 have key:∀(l:List Nat),(∀i∈l,i<n)->ltL m (l.map λi=>AV.ref (i+o) (V i) 0 (D i).length):=λl=>by
  induction l with
  |nil=>exact λ_=>trivial
  |cons i l ih =>
   intro h';exact⟨by have:=h' i (by simp);show i+o<_;omega,ih λj hj=>h' j (by simp[hj])⟩
 exact key _ λi hi=>by simpa using hi
theorem z84{m:Nat}(he:∀x,(e x).pure=true):∀G∈fF w e n V D,ltL m G.xs:=λG hG=>by
 obtain⟨i,_,rfl⟩:=Ar.1 hG;exact Cm _ _ (Dg he _)
theorem Ow(l0:List Grp){G':Grp}:∀{l:List Grp}{t:Nat},t<l.length->XQ l0 (l.getD t default) G'->GW l0 l (l.set t G')
 |[],_,h,_=>by simp at h
 |a::l,0,_,h=>⟨h,J3 l0 l⟩
 |a::l,t+1,hl,h=>⟨⟨rfl,rfl,id,B0 _ _⟩,Ow l0 (by simpa using hl) (by simpa using h)⟩
theorem ZD{m b t v:Nat}{env:Env}{l:List Grp}{ex:Bool}(hw:0<w)(ht:t<l.length)(hg:l.getD t default=⟨1,v,ex,List.replicate n .nilS⟩):
 Ent m b env (Abs.hl l) env (Abs.hl (l.set t ⟨1,v,ex,fT l.length n (λ_=>1) λ_=>([]:List α)⟩++fF w e n (λ_=>1) λ_=>[])):=by
 refine (U2 (List.replicate n w) (λx hx=>by have:=(List.mem_replicate.1 hx).2;omega)).trans (Y5 ?_ λi _=>C2 _ _);rw[zgj,<-Ez _ _ ht];refine Ow _ (by simp;omega) ?_;rw[Am,Az ht,<-Am,hg];refine⟨rfl,rfl,id,zcf hw λi hi=>⟨?_,by simp;omega⟩⟩;rw[Am,A5 (by omega),CP];simp[hi]
def fKs(t o n:Nat):List Nat:=t::(List.range n).map (·+o)
theorem ZE{t i:Nat}(h:i<n):i+o∈fKs t o n:=Ah.2 (.inr (Ar.2 ⟨i,AS.2 h,rfl⟩))
theorem J4{t g:Nat}(h:g≠t)(h2:g<o\/o+n<=g):g∉fKs t o n:=λhh=>by
 rcases Ah.1 hh with hh|hh
 ·exact h hh
 ·obtain⟨i,hi,rfl⟩:=Ar.1 hh
  have:=AS.1 hi;omega
theorem ZF{H:As}{t v:Nat}(hw:0<w)(he:∀x,(e x).pure=true)(h1:H.at_ t=⟨1,v,true,fT o n V D⟩)(h2:∀i,i<n->H.at_ (i+o)=gG w e (V i) (D i)):
 CM 2 (H.only (fKs t o n)) (.ref t v 0 n)/\frzV 2 (H.only (fKs t o n)) (.ref t v 0 n)=.lst 1 (fD w e n D):=by
 have hat1:(H.only (fKs t o n)).at_ t=⟨1,v,true,fT o n V D⟩:=by
  show (if t∈fKs t o n then H.at_ t else (H.at_ t).dead)=_;rw[Af (by simp[fKs]),h1]
 have hat:∀i,i<n->(H.only (fKs t o n)).at_ (i+o)=gG w e (V i) (D i):=λi hi=>by
  show (if i+o∈fKs t o n then H.at_ (i+o) else (H.at_ (i+o)).dead)=_;rw[Af (ZE hi),h2 i hi]
 have htl:(((fT o n V D).drop 0).take n)=fT o n V D:=by
  rw[B2];exact An (by simp[fT])
 have hz:∀x,frzV 0 (H.only (fKs t o n)) x=x:=λx=>rfl;constructor
 ·refine⟨by rw[hat1],by rw[hat1];exact Nat.one_pos,by rw[hat1];simp[fT],λy hy=>?_⟩
  rw[hat1,htl] at hy;obtain⟨i,hi,rfl⟩:=Ar.1 hy;have hi':i<n:=by simpa using hi
  refine⟨by rw[hat i hi'];rfl,by rw[hat i hi'];exact hw,by rw[hat i hi'];simp[gG],λz hz=>?_⟩;rw[hat i hi'] at hz;obtain⟨u,_,rfl⟩:=Ar.1 (BQ (BC hz));exact he u
 ·show AV.lst _ _=_
  rw[hat1,htl,fT,CN];congr 1;refine AD λi hi=>?_;have hi':i<n:=by simpa using hi
  show AV.lst _ _=_;rw[hat i hi']
  have e1:(((gG w e (V i) (D i)).xs.drop 0).take (D i).length).map (frzV 0 (H.only (fKs t o n)))=(D i).map e:=by
   rw[B2,An (by simp[gG])];refine (AD λx hx=>?_).trans (List.map_id _);exact hz x
  rw[e1];rfl
theorem ZG{F:List Grp}{t o:Nat}:∀{i:Nat},(∀j,j<F.length->i+j∈fKs t o n)->EE i (fKs t o n) F=F.map Grp.dead:=by
 induction F with
 |nil=>intro i _;rfl
 |cons G F ih =>
  intro i h
  rw[EE,Af (by have:=h 0 (by simp);simpa using this),Bf,ih λj hj=>by
   have:=h (j+1) (by simpa using hj)
   rwa [show i+1+j=i+(j+1) by omega]]
theorem RA(ks:List Nat):∀(i:Nat)(l r:List Grp),EE i ks (l++r)=EE i ks l++EE (i+l.length) ks r
 |i,[],r=>by simp[EE]
 |i,G::l,r=>by
  rw[List.cons_append,EE,EE,RA ks (i+1) l r,List.cons_append,List.length_cons,show i+1+l.length=i+(l.length+1) by omega]
end
def RB(m:Nat)(env:Env):List (Nat × AV)->Prop
 |[]=>True
 |(t,y)::r=>env t=y/\ltV m y/\RB m env r
theorem Ox{m:Nat}{env:Env}:∀{L:List (Nat × AV)},RB m env L->∀p∈L,env p.1=p.2
 |[],_,p,hp=>by cases hp
 |(t,y)::r,h,p,hp=>by
  rcases Ah.1 hp with rfl|hp
  ·exact h.1
  ·exact Ox h.2.2 p hp
theorem RD{m:Nat}{env:Env}:∀{L:List (Nat × AV)},RB m env L->∀i,ltV m (Ef L i)
 |[],_,i=>trivial
 |(t,y)::r,h,i=>by
  show ltV m (if i=t then y else Ef r i);split
  ·exact h.2.1
  ·exact RD h.2.2 i
theorem F6{n b:Nat}{env:Env}{l l0 gar:List Grp}(L:List (Nat × AV))(hl':l=l0++gar)(hb:b<=l0.length)(hcl:∀G∈l0,ltL l0.length G.xs)(hL:RB l0.length env L):Ent n b env (Abs.hl l) (Ef L) (Abs.hl l0):=by
 subst hl';exact (Ls L (Ox hL)).trans (LZ hb hcl λi _=>RD hL i)
theorem Ho{P:Program}{f:Nat}{xs:List AV}{l:List Grp}{K:AV->As->Prop}(h:B4 P f xs (Abs.hl l) (λy H'=>∃y' H'',Ent 1 l.length (λ_=>y) H' (λ_=>y') H''/\K y' H'')):B4 P f xs (Abs.hl l) K :=
 ⟨h.1,λS cargs hS hx=>(h.2 S cargs hS hx).mono λe w' hh=>by
  obtain⟨v,S1,y,H',he,hw,ev,hS1,hv,y',H'',h1,h2⟩:=hh;have hn:S.n=l.length:=hS.n;obtain⟨S2,q1,q2,q3,q4⟩:=h1 S1 (λ_=>v) (by rw[<-hn];exact ev.n) hS1 (λi _=>hv);have hb:=(ev.down (b:=l.length) (by omega)).trans q2
  exact⟨v,S2,y',_,he,q1.trans hw,⟨hb.base,hb.os,hb.tape,hb.output,hb.size,hb.kept,hb.im,hb.keep,hb.fresh,by rw[hn];exact hb.n,λg hg=>hb.cur g (by omega),λg hg=>hb.same g (by omega)⟩,q3,q4 0 Nat.one_pos,h2⟩⟩
theorem PI{b:Nat}{y:AV}{l l0 gar:List Grp}(hl':l=l0++gar)(hb:b<=l0.length)(hcl:∀G∈l0,ltL l0.length G.xs)(hy:ltV l0.length y):Ent 1 b (λ_=>y) (Abs.hl l) (λ_=>y) (Abs.hl l0):=by
 subst hl';exact LZ hb hcl λi _=>hy
theorem ZH{P:Program}{f:Nat}{xs:List AV}{l l0 extra:List Grp}{K0 K:AV->As->Prop}(hl':l=l0++extra)(h:B4 P f xs (Abs.hl l0) K0)(hlt:ltL l0.length xs)(hltG:∀G∈l0,ltL l0.length G.xs)
 (hK:∀y H',K0 y H'->∃l',H'=Abs.hl l'/\l'.length=l0.length/\ltV l0.length y/\(∀G∈l',ltL l0.length G.xs)/\@nx y (Abs.hl (l'++extra)) ⟨K⟩):@OP P f xs (Abs.hl l) ⟨K⟩:=by
 subst hl';exact YU h hlt hltG hK
set_option maxRecDepth 100000
abbrev e1(i:Nat):AV:=.int .i64 i
end Go.Proofs.YtbcjoeadpjfcfaaGreat
namespace Go.Proofs.YtbcjoeadpjfcfaaGreat.Abs
def Frz1(d:Nat)(H:As)(ks:List Nat)(x y:AV):Prop:=y=x\/(CM d (H.only ks) x/\y=frzV d (H.only ks) x)
def FrzL(d:Nat)(H:As)(ks:List Nat):List AV->List AV->Prop
 |[],ys=>ys=[]
 |x::xs,ys=>∃y r,ys=y::r/\Frz1 d H ks x y/\FrzL d H ks xs r
def Frz2(d:Nat)(H:As)(ks:List Nat)(x y:AV):Prop:=Frz1 d H ks x y\/∃cs ds,x=.agg cs/\y=.agg ds/\FrzL d H ks cs ds
def FrzM(d:Nat)(H:As)(ks:List Nat):List AV->List AV->Prop
 |[],ys=>ys=[]
 |x::xs,ys=>∃y r,ys=y::r/\Frz2 d H ks x y/\FrzM d H ks xs r
theorem FrzM.len{d:Nat}{H:As}{ks:List Nat}:∀{xs ys:List AV},FrzM d H ks xs ys->ys.length=xs.length
 |[],_,h=>by rw[show _=[] from h]
 |x::xs,_,⟨y,r,rfl,_,h⟩=>by simp[FrzM.len h]
theorem Frz1.rel{d:Nat}{H:As}{ks:List Nat}{S:MS}(hS:SRel S H){x y:AV}{v:Value}(h:Frz1 d H ks x y)(hv:VRel S x v):VRel (S.kill H ks) y v:=by
 rcases h with rfl|⟨h1,rfl⟩
 ·exact VRel.mono (GC ks hS) _ hv
 ·exact Lp ks hS d h1 hv
theorem FrzL.rel{d:Nat}{H:As}{ks:List Nat}{S:MS}(hS:SRel S H):∀{xs ys:List AV}{vs:List Value},FrzL d H ks xs ys->A4 S xs vs->A4 (S.kill H ks) ys vs
 |[],_,_,h,hv=>by rw[show _=[] from h];exact hv
 |x::xs,_,_,⟨y,r,rfl,h1,h2⟩,⟨u,q,rfl,k1,k2⟩=>⟨u,q,rfl,h1.rel hS k1,FrzL.rel hS h2 k2⟩
theorem Frz2.rel{d:Nat}{H:As}{ks:List Nat}{S:MS}(hS:SRel S H){x y:AV}{v:Value}(h:Frz2 d H ks x y)(hv:VRel S x v):VRel (S.kill H ks) y v:=by
 rcases h with h|⟨cs,ds,rfl,rfl,h⟩
 ·exact h.rel hS hv
 ·obtain⟨vs,rfl,hvs⟩:=hv
  exact⟨vs,rfl,h.rel hS hvs⟩
theorem FrzM.rel{d:Nat}{H:As}{ks:List Nat}{S:MS}(hS:SRel S H):∀{xs ys:List AV}{vs:List Value},FrzM d H ks xs ys->A4 S xs vs->A4 (S.kill H ks) ys vs
 |[],_,_,h,hv=>by rw[show _=[] from h];exact hv
 |x::xs,_,_,⟨y,r,rfl,h1,h2⟩,⟨u,q,rfl,k1,k2⟩=>⟨u,q,rfl,h1.rel hS k1,FrzM.rel hS h2 k2⟩
theorem FrzM.refl{d:Nat}{H:As}{ks:List Nat}:∀(xs:List AV),FrzM d H ks xs xs
 |[]=>rfl
 |x::xs=>⟨x,xs,rfl,.inl (.inl rfl),FrzM.refl xs⟩
theorem FrzM.set{d:Nat}{H:As}{ks:List Nat}{y:AV}:∀{xs:List AV}{i:Nat},i<xs.length->Frz2 d H ks (xs.getD i .any) y->FrzM d H ks xs (xs.set i y)
 |[],_,h,_=>by simp at h
 |x::xs,0,_,h=>⟨y,xs,rfl,h,FrzM.refl xs⟩
 |x::xs,i+1,hi,h=>⟨x,_,rfl,.inl (.inl rfl),FrzM.set (by simpa using hi) (by simpa using h)⟩
theorem Iy{n b:Nat}{env:Env}{l l':List Grp}{g w v d:Nat}{ex:Bool}{xs ys:List AV}(ks:List Nat)(hw:0<w)(hlt:g<l.length)(hg:l.getD g default=⟨w,v,ex,xs⟩)(hk:g∉ks)
 (hxy:FrzM d (hl l) ks xs ys) (hl':(EE 0 ks l).set g ⟨w,v,ex,ys⟩=l'):Ent n b env (hl l) env (hl l'):=λS val hb hS hv=>by
 subst hl';have hS1:=Ln ks hS;have he:=GC ks hS;refine⟨S.kill (hl l) ks,rfl,he.down hb,?_,λi hi=>VRel.mono he _ (hv i hi)⟩;have hlk:g<(EE 0 ks l).length:=by rw[Gz];exact hlt
 have hat0:∀j,j<l.length->((hl l).kill ks).at_ j=(EE 0 ks l).getD j default:=λj hj=>by
  rw[JF 0 ks l j hj,AO];rfl
 have hn:(hl ((EE 0 ks l).set g ⟨w,v,ex,ys⟩)).n=((hl l).kill ks).n:=by simp[hl,As.kill,Gz]
 have hlen:((hl l).kill ks).n=l.length:=rfl
 have hat:∀j,j<l.length->(hl ((EE 0 ks l).set g ⟨w,v,ex,ys⟩)).at_ j=if j=g then ⟨w,v,ex,ys⟩ else ((hl l).kill ks).at_ j:=λj hj=>by
  rw[Dj];by_cases e:j=g
  ·subst e;rw[Af rfl];exact Jn _ hlk
  ·rw[Ae e,hat0 j hj];exact Gc _ (CH e)
 have hgk:((hl l).kill ks).at_ g=⟨w,v,ex,xs⟩:=by
  show (if g∈ks then _ else _)=_;rw[Ae hk,Dj,hg]
 have h1:GRel (S.kill (hl l) ks) ⟨w,v,ex,xs⟩ g:=by have:=hS1.grp g (by rw[hlen];exact hlt);rwa [hgk] at this
 have h0:GRel S ⟨w,v,ex,xs⟩ g:=by have:=hS.grp g hlt;rwa [Dj,hg] at this
 have hly:=hxy.len
 have hG:GRel (S.kill (hl l) ks) ⟨w,v,ex,ys⟩ g:=by
  refine⟨h1.ver,h1.wid,λ_ hc=>?_,λhh=>by show ys.length<=_;rw[hly];exact h1.len hh,λhh he=>by show ys.length=_;rw[hly];exact h1.full hh he,λhh=>by simp only at hh;omega⟩;obtain⟨⟨cells,TT,vs,a1,a2,a3,a4⟩,_⟩:=h0.live hw hc;exact⟨⟨cells,TT,vs,a1,a2,hxy.rel hS a3,a4⟩,(h1.live hw hc).2⟩
 have hhas:∀j,j<l.length->((hl ((EE 0 ks l).set g ⟨w,v,ex,ys⟩)).at_ j).has ((S.kill (hl l) ks).cap j)->(((hl l).kill ks).at_ j).has ((S.kill (hl l) ks).cap j):=λj hj h=>by
  rw[hat j hj] at h;by_cases e:j=g
  ·subst e;rw[Af rfl] at h;rw[hgk];exact h
  ·rw[Ae e] at h;exact h
 refine⟨hS1.n.trans hn.symm,λj hj=>?_,λj j' a c hne p q=>hS1.apart j j' (by rwa [hn] at a) (by rwa [hn] at c) hne (hhas j (by rwa [hn] at a) p) (hhas j' (by rwa [hn] at c) q),hS1.im⟩;rw[hn] at hj;rw[hat j hj];by_cases e:j=g
 ·subst e;rw[Af rfl];exact hG
 ·rw[Ae e];exact hS1.grp j hj
end Go.Proofs.YtbcjoeadpjfcfaaGreat.Abs
set_option maxRecDepth 100000
namespace Go.Proofs.YtbcjoeadpjfcfaaGreat
open Abs O1 O2 O3
def ruI(l:List Rule)(s:Nat):List Nat:=(List.range l.length).filter λi=>decide ((nth l i).from_=(s:Int))
theorem FY{l:List Rule}{s i:Nat}:i∈ruI l s↔i<l.length/\(nth l i).from_=s:=by simp[ruI]
theorem PK(l:List Rule)(s:Nat):(ruI l s).length<=l.length:=by
 have:=B7 (λi=>decide ((nth l i).from_=(s:Int))) (List.range l.length)
 rwa [C8] at this
def Tm(l:List Rule)(a b:Int):Prop:=∃i p,okP l a (i::p)/\endP l a (i::p)=b
theorem z5u{l:List Rule}{i:Nat}(h:i<l.length)(he:Dl (nth l i)=true):Tm l (nth l i).from_ (nth l i).to_ :=
 ⟨i,[],⟨PE.2 ⟨h,he,rfl⟩,trivial⟩,rfl⟩
theorem WG{l:List Rule}{a b c:Int}(h:Tm l a b)(k:Tm l b c):Tm l a c:=by
 obtain⟨i,p,h1,h2⟩:=h;obtain⟨j,q,k1,k2⟩:=k;refine⟨i,p++j::q,?_,?_⟩
 ·rw[<-List.cons_append,PF,h2];exact⟨h1,k1⟩
 ·rw[<-List.cons_append,Lv,h2];exact k2
theorem ZI{l:List Rule}{n:Nat}(hl:∀r∈l,(0<=r.from_/\r.from_<n)/\0<=r.to_/\r.to_<n)(hc:¬cycP l n){a:Int}(ha:0<=a):¬Tm l a a:=by
 rintro⟨i,p,h1,h2⟩
 have key:∀k:Nat,∃q,okP l a q/\endP l a q=a/\k<=q.length:=λk=>by
  induction k with
  |zero=>exact⟨[],trivial,rfl,Ac _⟩
  |succ k ih =>
   obtain⟨q,q1,q2,q3⟩:=ih;refine⟨q++i::p,?_,?_,by simp;omega⟩
   ·rw[PF,q2];exact⟨q1,h1⟩
   ·rw[Lv,q2];exact h2
 obtain⟨q,q1,_,q3⟩:=key (n+2);have:=ZA hl hc ha q1;omega
def Tn(l:List Rule)(ord:List Nat):Prop:=∀i,i<ord.length->∀r∈l,Dl r=true->r.from_=(nth ord i:Nat)->∃t:Nat,r.to_=t/\t∈ord.take i
theorem RE{l:List Rule}{ord:List Nat}{s:Nat}(h:Tn l ord)(hs:∀r∈l,Dl r=true->r.from_=(s:Int)->∃t:Nat,r.to_=t/\t∈ord):Tn l (ord++[s]):=λi hi r hr he hf=>by
 rw[Al,List.length_singleton] at hi;rcases Aj i ord.length with h1|h1
 ·have e:nth (ord++[s]) i=nth ord i:=by simp[nth,List.getD,Az h1]
  rw[e] at hf;obtain⟨t,t1,t2⟩:=h i h1 r hr he hf;exact⟨t,t1,by rw[Cj (by omega)];exact t2⟩
 ·obtain rfl:i=ord.length:=by omega
  have e:nth (ord++[s]) ord.length=s:=by simp[nth,List.getD]
  rw[e] at hf;obtain⟨t,t1,t2⟩:=hs r hr he hf;exact⟨t,t1,by rw[Cj (Ac _),AB];exact t2⟩
structure Oy(l:List Rule)(n:Nat)(dn:Nat->Bool)(ord:List Nat)(s:Nat):Prop where
 p1:∀a∈ord,dn a=true
 p2:∀a,a<n->dn a=true->a∈ord\/Tm l a s
 p3:Tn l ord
 p4:ord.Nodup/\∀a∈ord,a<n
structure PL(l:List Rule)(n:Nat)(dn:Nat->Bool)(ord:List Nat)(s:Nat)(dn':Nat->Bool)(new:List Nat):Prop where
 q2:s∈ord++new
 q3:∀a,a<n->(dn' a=true↔dn a=true\/a∈new)
 q4:Tn l (ord++new)
 q5:(ord++new).Nodup/\∀a∈ord++new,a<n
 q6:∀a∈new,dn a=false
def Iz(dn:Nat->Bool):Nat->Nat
 |0=>0
 |k+1=>Iz dn k+(if dn k=true then 0 else 1)
theorem RF{dn dn':Nat->Bool}:∀{n:Nat},(∀a,a<n->dn a=true->dn' a=true)->Iz dn' n<=Iz dn n
 |0,_=>Ac _
 |n+1,h=>by
  have ih:=RF (n:=n) λa ha=>h a (by omega);simp only[Iz];cases h1:dn n with
  |true=>rw[h n (by omega) h1];simp;exact ih
  |false=>simp;split<;>omega
theorem RG{dn dn':Nat->Bool}{s:Nat}(h1:dn s=false)(h2:dn' s=true):∀{n:Nat},s<n->(∀a,a<n->dn a=true->dn' a=true)->Iz dn' n<Iz dn n
 |0,hs,_=>by omega
 |n+1,hs,h=>by
  simp only[Iz];by_cases e:s=n
  ·subst e
   have:=RF (n:=s) λa ha=>h a (by omega);simp[h1,h2];omega
  ·have ih:=RG h1 h2 (n:=n) (by omega) λa ha=>h a (by omega)
   cases h3:dn n with
   |true=>rw[h n (by omega) h3];simp;exact ih
   |false=>simp;split<;>omega
structure MQ(l:List Rule)(n:Nat)(dn:Nat->Bool)(ord:List Nat)(s:Nat)(dk:Nat->Bool)(new:List Nat)(k:Nat):Prop where
 m3:∀a,a<n->(dk a=true↔dn a=true\/a=s\/a∈new)
 m4:Tn l (ord++new)
 m5:(ord++new).Nodup/\∀a∈ord++new,a<n
 m6:∀a∈new,dn a=false/\a≠s
 m7:∀j,j<k->Dl (nth l (nth (ruI l s) j))=true->∃t:Nat,(nth l (nth (ruI l s) j)).to_=t/\t∈ord++new
theorem zcg{l:List Rule}{n:Nat}{dn:Nat->Bool}{ord:List Nat}{s:Nat}{dk:Nat->Bool}{new:List Nat}{k i:Nat}(hm:MQ l n dn ord s dk new k)(hp:Oy l n dn ord s)(hi:i∈ruI l s)(he:Dl (nth l i)=true)(j:Nat)(hj:(nth l i).to_=j):Oy l n dk (ord++new) j:=by
 obtain⟨i1,i2⟩:=FY.1 hi;have hone:Tm l s j:=by have:=z5u i1 he;rwa [i2,hj] at this
 refine⟨λa ha=>?_,λa ha h=>?_,hm.m4,hm.m5⟩
 ·have han:=hm.m5.2 a ha
  rcases Ap.1 ha with h|h
  ·exact (hm.m3 a han).2 (.inl (hp.p1 a h))
  ·exact (hm.m3 a han).2 (.inr (.inr h))
 ·rcases (hm.m3 a ha).1 h with h|rfl|h
  ·rcases hp.p2 a ha h with h|h
   ·exact .inl (BY _ h)
   ·exact .inr (WG h hone)
  ·exact .inr hone
  ·exact .inl (Dd _ h)
theorem z5v{l:List Rule}{n:Nat}{dn:Nat->Bool}{ord:List Nat}{s:Nat}{dk:Nat->Bool}{new:List Nat}{k i:Nat}(hm:MQ l n dn ord s dk new k)(hk:k<(ruI l s).length)(hi:i=nth (ruI l s) k)(he:Dl (nth l i)=false):MQ l n dn ord s dk new (k+1) :=
 ⟨hm.m3,hm.m4,hm.m5,hm.m6,λj hj h=>by
  rcases Aj j k with h1|h1
  ·exact hm.m7 j h1 h
  ·obtain rfl:j=k:=by omega
   rw[<-hi,he] at h;cases h⟩
theorem z5w{l:List Rule}{n:Nat}{dn:Nat->Bool}{ord:List Nat}{s:Nat}{dk:Nat->Bool}{new:List Nat}{k i:Nat}{dn2:Nat->Bool}{new2:List Nat}(hm:MQ l n dn ord s dk new k)(hp:Oy l n dn ord s)(hk:k<(ruI l s).length)(hi:i=nth (ruI l s) k)
 (h:Dl (nth l i)=true/\∃j:Nat,(nth l i).to_=j/\PL l n dk (ord++new) j dn2 new2):MQ l n dn ord s dn2 (new++new2) (k+1):=by
 obtain⟨he,j,hj,hq⟩:=h;have hsn:s<n->dk s=true:=λhs=>(hm.m3 s hs).2 (.inr (.inl rfl));refine⟨λa ha=>?_,by rw[<-Ax];exact hq.q4,by rw[<-Ax];exact hq.q5,λa ha=>?_,λm hmk h=>?_⟩
 ·rw[hq.q3 a ha,hm.m3 a ha,Ap]
  constructor
  ·rintro ((h|h|h)|h)
   ·exact .inl h
   ·exact .inr (.inl h)
   ·exact .inr (.inr (.inl h))
   ·exact .inr (.inr (.inr h))
  ·rintro (h|h|h|h)
   ·exact .inl (.inl h)
   ·exact .inl (.inr (.inl h))
   ·exact .inl (.inr (.inr h))
   ·exact .inr h
 ·rcases Ap.1 ha with h|h
  ·exact hm.m6 a h
  ·have han:a<n:=hq.q5.2 a (Dd _ h)
   have h6:=hq.q6 a h;refine⟨?_,λe=>?_⟩
   ·cases hd:dn a with
    |false=>rfl
    |true=>rw[(hm.m3 a han).2 (.inl hd)] at h6;cases h6
   ·subst e;rw[hsn han] at h6;cases h6
 ·rw[<-Ax]
  rcases Aj m k with h1|h1
  ·obtain⟨t,t1,t2⟩:=hm.m7 m h1 h
   exact⟨t,t1,BY _ t2⟩
  ·obtain rfl:m=k:=by omega
   rw[<-hi];exact⟨j,hj,hq.q2⟩
theorem zch{l:List Rule}{n:Nat}{dn:Nat->Bool}{ord:List Nat}{s:Nat}{dk:Nat->Bool}{new:List Nat}(hm:MQ l n dn ord s dk new (ruI l s).length)(hp:Oy l n dn ord s)(hs:s<n)(hsno:s∉ord)(hd:dn s=false):PL l n dn ord s dk (new++[s]):=by
 have hsnew:s∉new:=λh=>(hm.m6 s h).2 rfl;refine⟨by simp,λa ha=>?_,?_,⟨?_,λa ha=>?_⟩,λa ha=>?_⟩
 ·rw[hm.m3 a ha,Ap,Aq]
  constructor
  ·rintro (h|h|h)
   ·exact .inl h
   ·exact .inr (.inr h)
   ·exact .inr (.inl h)
  ·rintro (h|h|h)
   ·exact .inl h
   ·exact .inr (.inr h)
   ·exact .inr (.inl h)
 ·rw[<-Ax]
  refine RE hm.m4 λr hr he hf=>?_;obtain⟨i,hi,rfl⟩:=AZ hr;have e:nth l i=l[i]:=FR hi;have hmem:i∈ruI l s:=FY.2 ⟨hi,by rw[e];exact hf⟩;obtain⟨j,hj,hje⟩:=AZ hmem;have e2:nth (ruI l s) j=i:=by rw[FR hj];exact hje
  have:=hm.m7 j hj (by rw[e2,e];exact he);rw[e2,e] at this;exact this
 ·rw[<-Ax]
  refine C9.2 ⟨hm.m5.1,B6.2 ⟨by simp,CG⟩,λa ha b hb=>?_⟩;rw[Aq.1 hb];rintro rfl;rcases Ap.1 ha with h|h
  ·exact hsno h
  ·exact hsnew h
 ·rw[<-Ax] at ha
  rcases Ap.1 ha with h|h
  ·exact hm.m5.2 a h
  ·rw[Aq.1 h];exact hs
 ·rcases Ap.1 ha with h|h
  ·exact (hm.m6 a h).1
  ·rw[Aq.1 h];exact hd
def rnB(d:Desc)(x:List Int)(RU FI od li:AV):AV:=.agg [.int .i64 d.in_,.int .i64 d.out,.int .i64 d.states,.int .i64 d.start,Ft d.rules,FS d.finals,AE x,RU,FI,od,li]
def ruV(l:List Rule)(n:Nat):AV:=.lst 1 (fD 1 e1 n (ruI l))
def srtL(d:Desc)(x:List Int)(n:Nat)(FI:AV)(v:Nat)(dn:Nat->Bool)(ord:List Nat):List Grp :=
 [⟨11,1,true,[rnB d x (ruV d.rules n) FI (.ref 2 v 0 ord.length) .nilS]⟩,⟨1,1,true,spB n dn⟩,gG 1 e1 v ord]
theorem Fb(d:Desc)(x:List Int)(n:Nat)(FI:AV)(hFI:FI.pure=true)(v:Nat)(dn:Nat->Bool)(ord:List Nat):∀G∈srtL d x n FI v dn ord,ltL 3 G.xs:=λG hG=>by
 have h1:ltV 3 (Ft d.rules):=Cf _ _ (BJ _);have h2:ltV 3 (FS d.finals):=Cf _ _ (BB _);have h3:ltV 3 (AE x):=Cf _ _ (Bt .i32 _);have h4:ltV 3 (ruV d.rules n):=Cf _ _ (ED λ_=>rfl);have h5:ltV 3 FI:=Cf _ _ hFI;simp only[srtL,Ah,Au,AA] at hG;rcases hG with rfl|rfl|rfl
 ·exact⟨⟨trivial,trivial,trivial,trivial,h1,h2,h3,h4,h5,(show 2<3 by omega),trivial,trivial⟩,trivial⟩
 ·exact Cm _ _ (BL.2 λy hy=>by obtain⟨i,_,rfl⟩:=Ar.1 hy;rfl)
 ·exact Cm _ _ (Dg (λ_=>rfl) _)
theorem z5x(d:Desc)(x:List Int){n:Nat}(hn:n<=1024)(hrl:d.rules.length<=4096)(hl:∀r∈d.rules,(0<=r.from_/\r.from_<n)/\0<=r.to_/\r.to_<n)(hc:¬cycP d.rules n)(FI:AV)(hFI:FI.pure=true):
 ∀(u:Nat)(s:Nat)(v:Nat)(dn:Nat->Bool)(ord:List Nat),Iz dn n<=u->s<n->Oy d.rules n dn ord s ->
 B4 Tryz.prog 101 [.ptr 0 1 0 0,.int .i64 s,.ref 1 1 0 n] (Abs.hl (srtL d x n FI v dn ord)) λy H'=>∃v' dn' new,y=.tup [] /\
  H'=Abs.hl (srtL d x n FI v' dn' (ord++new))/\PL d.rules n dn ord s dn' new:=by
 intro u
 induction u using Nat.strongRecOn with
 |ind u ih =>
 intro s v dn ord hu hs hp;have hs0:(0:Int)<=s:=by omega
 have pR:=BJ d.rules;have pFi:=BB d.finals;have pX:A9 (x.map (AV.int .i32))=true:=Bt .i32 _;have pRU:A9 (fD 1 e1 n (ruI d.rules))=true:=ED λ_=>rfl;have lB:∀on,(spB n on).length=n:=λon=>by simp[spB]
 have aB:(spB n dn).getD s .any=.bool (dn s):=Cp hs;have pB:∀on,A9 (spB n on)=true:=λon=>BL.2 λy hy=>by obtain⟨i,_,rfl⟩:=Ar.1 hy;rfl
 refine Ho (K6 Kt (W_T ?_));unfold Hf;cases hd:dn s with
 |true =>
  rw[hd] at aB;have hso:s∈ord:=(hp.p2 s hs hd).resolve_right (ZI hl hc hs0);rw[srtL];unfold rnB;(with_reducible repeat'(first|simp (disch:=omega) only[push_cast,↓zz,seval,pR,pFi,pX,hFI,lB,aB,pB]|apply Aa|refine sp_ ?_ ?_<;>intro hc<;>push_cast at hc|omega|intro _))
  all_goals exact⟨_,_,Ent.refl,v,dn,[],rfl,by rw[A3];rfl,⟨by simpa using hso,λa _=>by simp,by rw[A3];exact hp.p3,by rw[A3];exact hp.p4,λa ha=>by cases ha⟩⟩
 |false =>
  rw[hd] at aB;have hset:=zc7 (on:=dn) hs;have lRU:(fD 1 e1 n (ruI d.rules)).length=n:=Ou;have aR:(fD 1 e1 n (ruI d.rules)).getD s .any=.lst 1 ((ruI d.rules s).map e1):=WE hs;have aR2:(fD 1 e1 n (ruI d.rules))[s]? = some (.lst 1 ((ruI d.rules s).map e1)):=Ov hs;have pI:A9 ((ruI d.rules s).map e1)=true:=Dg (λ_=>rfl) _;have hIl:=PK d.rules s;have hsno:s∉ord:=λh=>by have:=hp.p1 s h;rw[hd] at this;cases this
  have hlt:∀dn',(∀a,a<n->dn a=true->dn' a=true)->dn' s=true->Iz dn' n<u:=λdn' h1 h2=>AI (RG hd h2 hs h1) hu;rw[srtL];unfold rnB ruV;generalize hRe:fD 1 e1 n (ruI d.rules)=RU at *;(with_reducible repeat'(first|simp (disch:=omega) only[push_cast,↓zz,seval,pR,pFi,pX,hFI,lB,aB,pB,hset,lRU,aR,aR2,pI]|apply Aa|refine sp_ ?_ ?_<;>intro hc<;>push_cast at hc|omega|intro _))
  refine Bv (Jv (λ(q:Nat × Nat × (Nat->Bool) × List Nat)=>q.1<=(ruI d.rules s).length/\Hold (MQ d.rules n dn ord s q.2.2.1 q.2.2.2 q.1)) (λq=>(ruI d.rules s).length-q.1)
   (λq=>Ef [(0,.ptr 0 1 0 0),(1,.int .i64 s),(2,.ref 1 1 0 n),(22,.lst 1 ((ruI d.rules s).map e1)),(23,.int .i64 (ruI d.rules s).length),(24,.int .i64 q.1)])
   (λq=>Abs.hl (srtL d x n FI q.2.1 q.2.2.1 (ord++q.2.2.2))) (0,v,setB dn s,[]) ⟨Ay _,⟨?_⟩⟩ ?_ ?_)
  ·refine⟨λa _=>?_,by rw[A3];exact hp.p3,by rw[A3];exact hp.p4,λa ha=>(by cases ha),λj hj=>absurd hj (AL _)⟩
   simp only[setB];by_cases e:a=s<;>simp[e]
  ·refine F6 (gar:=[]) _ ?_ (by simp[srtL,hl_n]) (Fb d x n FI hFI _ _ _) ?_
   ·rw[A3,A3,srtL]
    unfold rnB ruV;rw[hRe]
   ·have hI:ltV 3 (.lst 1 ((ruI d.rules s).map e1)):=Cf _ _ pI
    exact⟨rfl,(show 0<3 by omega),rfl,trivial,rfl,(show 1<3 by omega),rfl,hI,rfl,trivial,rfl,trivial,trivial⟩
  rintro⟨k,v1,dk,new⟩ ⟨hk,⟨hm⟩⟩;simp only at hk hm ⊢;have hI:ltV 3 (.lst 1 ((ruI d.rules s).map e1)):=Cf _ _ pI;rcases Aj k (ruI d.rules s).length with hkl|hkl
  ·obtain⟨i,hi⟩:∃i,i=nth (ruI d.rules s) k:=⟨_,rfl⟩
   have him:i∈ruI d.rules s:=by rw[hi];exact Bo hkl
   obtain⟨i1,i2⟩:=FY.1 him;have aI:((ruI d.rules s).map e1).getD k .any=.int .i64 i:=by rw[hi];simp[nth,List.getD,hkl]
   have hto:=(hl _ (Bo i1)).2;have hmid:=λdn2 new2 h=>z5w (dn:=dn) (ord:=ord) (s:=s) (dk:=dk) (new:=new) (dn2:=dn2) (new2:=new2) hm hp hkl hi h;have hskip:=z5v (dn:=dn) (ord:=ord) (s:=s) (dk:=dk) (new:=new) hm hkl hi;have hpre:=λh=>zcg (dn:=dn) (ord:=ord) (s:=s) (dk:=dk) (new:=new) (i:=i) hm hp him h;generalize hre:nth d.rules i=r at *;have hgr:=Bw r.guards;have hot:=BV r.out;obtain⟨j,hj⟩:∃j:Nat,r.to_=j:=⟨r.to_.toNat,by omega⟩;have hjn:j<n:=by omega
   rw[srtL];unfold rnB ruV;rw[hRe];refine W_T ?_;cases he:Dl r with
   |true =>
    have he0:(r.guards.length:Int)=0:=by simpa [Dl] using he
    have hIH:=ih (Iz dk n) (hlt dk (λa ha h=>(hm.m3 a ha).2 (.inl h)) ((hm.m3 s hs).2 (.inr (.inl rfl)))) j v1 dk (ord++new) (Ac _) hjn (hpre he j hj);(with_reducible repeat'(first|simp (disch:=omega) only[push_cast,↓zz,seval,pR,pFi,pX,hFI,lB,pB,pI,aI,hre,hgr,hot,hj,i1,he0]|apply Aa|refine sp_ ?_ ?_<;>intro hc<;>push_cast at hc|omega|intro _));refine ZH (l0:=srtL d x n FI v1 dk (ord++new)) (extra:=[_]) (by rw[srtL];unfold rnB ruV;rw[hRe,Al];rfl) hIH ?_ (Fb d x n FI hFI _ _ _) ?_
    ·exact⟨(show 0<3 by omega),trivial,(show 1<3 by omega),trivial⟩
    rintro y H' ⟨v2,dn2,new2,rfl,rfl,hpost⟩;refine⟨_,rfl,rfl,trivial,Fb d x n FI hFI _ _ _,?_⟩;have hM:=hmid dn2 new2 ⟨he,j,hj,hpost⟩;rw[Ax];(with_reducible repeat'(first|simp (disch:=omega) only[push_cast,↓zz,seval]|apply Aa|refine sp_ ?_ ?_<;>intro hc<;>push_cast at hc|omega|intro _));refine⟨(k+1,v2,dn2,new++new2),F6 (gar:=[_]) _ rfl (by simp[srtL,hl_n]) (Fb d x n FI hFI _ _ _) ?_,⟨by omega,⟨hM⟩⟩,by simp only;omega⟩;exact⟨rfl,(show 0<3 by omega),rfl,trivial,rfl,(show 1<3 by omega),rfl,hI,rfl,trivial,rfl,trivial,trivial⟩
   |false =>
    have he0:¬(r.guards.length:Int)=0:=by simpa [Dl] using he
    (with_reducible repeat'(first|simp (disch:=omega) only[push_cast,↓zz,seval,pR,pFi,pX,hFI,lB,pB,pI,aI,hre,hgr,hot,hj,i1,he0]|apply Aa|refine sp_ ?_ ?_<;>intro hc<;>push_cast at hc|omega|intro _));refine⟨(k+1,v1,dk,new),F6 (gar:=[⟨5,1,true,[.agg [.int .i64 r.from_,.int .i64 j,CO r.guards,.int .i64 r.eat,Gj r.out]]⟩]) _ ?_ (by simp[srtL,hl_n]) (Fb d x n FI hFI _ _ _) ?_,⟨by omega,⟨hskip he⟩⟩,by simp only;omega⟩
    ·simp only
     rw[srtL];unfold rnB ruV;rw[hRe,Al];rfl
    ·exact⟨rfl,(show 0<3 by omega),rfl,trivial,rfl,(show 1<3 by omega),rfl,hI,rfl,trivial,rfl,trivial,trivial⟩
  ·obtain rfl:k=(ruI d.rules s).length:=by omega
   have hend:=zch hm hp hs hsno hd
   have hol:(ord++new).length<=n:=by
    have:=HE (l:=ord++new) (m:=List.range n) hm.m5.1 λa ha=>AS.2 (hm.m5.2 a ha);simpa using this
   have hEx:=zcd (e:=e1) (ord++new);have pO:A9 ((ord++new).map e1)=true:=Dg (λ_=>rfl) _;have eO:(ord++(new++[s])).map e1=(ord++new).map e1++[.int .i64 (s:Int)]:=by simp
   have eL:(ord++(new++[s])).length=(ord++new).length+1:=by simp;omega
   have hfin:∀v1,srtL d x n FI (v1+1) dk (ord++(new++[s]))=[⟨11,1,true,[rnB d x (ruV d.rules n) FI (.ref 2 (v1+1) 0 ((ord++new).length+1)) .nilS]⟩,⟨1,1,true,spB n dk⟩,⟨1,v1+1,false,(ord++new).map e1++[.int .i64 (s:Int)]⟩]:=λv1=>by
    have he:(ord++(new++[s])).isEmpty=false:=by simp
    rw[srtL,gG,eO,eL,he]
   rw[srtL,gG];generalize ord++new=on at *;unfold rnB ruV;rw[hRe];refine W_T ?_;(with_reducible repeat'(first|simp (disch:=omega) only[push_cast,↓zz,seval,pR,pFi,pX,hFI,lB,pB,pI,hEx,pO]|apply Aa|refine sp_ ?_ ?_<;>intro hc<;>push_cast at hc|omega|intro _));refine⟨_,_,PI (l0:=srtL d x n FI (v1+1) dk (ord++(new++[s]))) (gar:=[⟨1,1,true,[.int .i64 (s:Int)]⟩]) ?_ (by simp[srtL,hl_n]) (Fb d x n FI hFI _ _ _) trivial,v1+1,dk,new++[s],rfl,rfl,hend⟩;rw[hfin];unfold rnB ruV;rw[hRe];rfl
def lvB(n m:Nat)(L:Nat->Nat->Bool):List AV:=(List.range m).map λp=>AV.bool (L (p / n) (p % n))
def setP{β:Type}(L:Nat->Nat->β)(a t:Nat)(v:β):Nat->Nat->β:=λb u=>if b=a/\u=t then v else L b u
section
variable {n m a t:Nat}{L:Nat->Nat->Bool}
theorem Hp(h:t<n):(a * n+t) / n=a:=by
 rw[C1,Nat.mul_add_div (by omega),Nat.div_eq_of_lt h,Nat.add_zero]
theorem Hq(h:t<n):(a * n+t) % n=t:=by
 rw[C1,Nat.mul_add_mod,Eu h]
theorem PM{p:Nat}(h:t<n)(hp:p / n=a/\p % n=t):p=a * n+t:=by
 have:=F0 p n;rw[hp.1,hp.2,C1] at this;exact this.symm
theorem Fg{k:Nat}(h:t<n)(ha:a<=k):a * n+t<(k+1) * n:=by
 have h1:a * n<=k * n:=AH n ha;have h2:(k+1) * n=k * n+n:=Nat.succ_mul k n;omega
theorem I0:(lvB n m L).length=m:=by simp[lvB]
theorem IQ:A9 (lvB n m L)=true:=BL.2 λx hx=>by
 obtain⟨i,_,rfl⟩:=Ar.1 hx;rfl
theorem z85{z:AV}(ht:t<n)(hp:a * n+t<m):(lvB n m L).getD (a * n+t) z=.bool (L a t):=by
 rw[lvB,Cp hp,Hp ht,Hq ht]
theorem ZJ{v:Bool}(ht:t<n)(hp:a * n+t<m):(lvB n m L).set (a * n+t) (.bool v)=lvB n m (setP L a t v):=by
 rw[lvB,Df hp,lvB];refine AD λp _=>?_;simp only[setP];by_cases e:p=a * n+t
 ·subst e;rw[Af rfl,Hp ht,Hq ht,Af ⟨rfl,rfl⟩]
 ·rw[Ae e,Ae λh=>e (PM ht h)]
theorem z5y:List.replicate m (AV.bool false)=lvB n m λ_ _=>false:=by
 refine BH (by simp[lvB]) λi h1 h2=>?_;simp[lvB]
end
structure Liv(d:Desc)(x:List Int)(n:Nat)(ord:List Nat)(at_ j:Nat)(L:Nat->Nat->Bool):Prop where
 start:L 0 d.start.toNat=true
 lead:∀a t,L a t=true->t<n/\a<=x.length/\∃u,R8 d x 0 d.start u a t
 clos:∀a t,(a<at_\/(a=at_/\t∈ord.drop (n-j)))->L a t=true->∀r∈d.rules,r.from_=(t:Nat)->goB x r.guards a=true->L (a+r.eat.toNat) r.to_.toNat=true
structure LivS(d:Desc)(x:List Int)(n:Nat)(ord:List Nat)(at_ j s k:Nat)(L:Nat->Nat->Bool):Prop where
 liv:Liv d x n ord at_ j L
 on:L at_ s=true
 some_:∀i,i<k->goB x (nth d.rules (nth (ruI d.rules s) i)).guards at_=true->L (at_+(nth d.rules (nth (ruI d.rules s) i)).eat.toNat) (nth d.rules (nth (ruI d.rules s) i)).to_.toNat=true
structure LivE(d:Desc)(x:List Int)(n:Nat)(L:Nat->Nat->Bool):Prop where
 start:L 0 d.start.toNat=true
 lead:∀a t,L a t=true->t<n/\a<=x.length/\∃u,R8 d x 0 d.start u a t
 clos:∀a t,L a t=true->∀r∈d.rules,r.from_=(t:Nat)->goB x r.guards a=true->L (a+r.eat.toNat) r.to_.toNat=true
section
variable {d:Desc}{x:List Int}{n:Nat}{ord:List Nat}{at_ j s k:Nat}{L:Nat->Nat->Bool}
theorem CB(ht:Topo d.rules n ord):ord.length=n:=by
 have h1:=HE (l:=ord) (m:=List.range n) ht.nodup λa ha=>AS.2 ((ht.all a).1 ha);have h2:=HE (l:=List.range n) (m:=ord) D7 λa ha=>(ht.all a).2 (AS.1 ha);simp at h1 h2;omega
theorem z5z(hs:0<=d.start/\d.start<n)(hol:ord.length=n):Liv d x n ord 0 0 (setP (λ_ _=>false) 0 d.start.toNat true):=by
 refine⟨by simp[setP],λa t h=>?_,λa t h hL=>?_⟩
 ·simp only[setP] at h
  split at h
  ·rename_i e
   obtain⟨rfl,rfl⟩:=e;refine⟨by omega,Ay _,[],?_⟩;rw[Bn hs.1];exact .here
  ·cases h
 ·rcases h with h|⟨_,h⟩
  ·omega
  ·rw[Aw (by omega)] at h;cases h
theorem ZK(h:Liv d x n ord at_ j L)(ho:L at_ s=true):LivS d x n ord at_ j s 0 L:=⟨h,ho,λi hi=>absurd hi (AL _)⟩
theorem zci(h:LivS d x n ord at_ j s k L)(hno:goB x (nth d.rules (nth (ruI d.rules s) k)).guards at_=false):LivS d x n ord at_ j s (k+1) L:=by
 refine⟨h.liv,h.on,λi hi hg=>?_⟩;rcases Aj i k with h1|h1
 ·exact h.some_ i h1 hg
 ·obtain rfl:i=k:=by omega
  rw[hno] at hg;cases hg
theorem z60(h:LivS d x n ord at_ j s k L)(hg:Goes d n)(ht:Topo d.rules n ord)(hj:j<n)(hs:s=nth ord (n-1-j))(hk:k<(ruI d.rules s).length)(hgo:goB x (nth d.rules (nth (ruI d.rules s) k)).guards at_=true):
 LivS d x n ord at_ j s (k+1) (setP L (at_+(nth d.rules (nth (ruI d.rules s) k)).eat.toNat) (nth d.rules (nth (ruI d.rules s) k)).to_.toNat true):=by
 obtain⟨i1,i2⟩:=FY.1 (Bo hk);have hr:=Bo i1;generalize hre:nth d.rules (nth (ruI d.rules s) k)=r at *;obtain⟨hf,htt,he1,he2⟩:=hg.r r hr;have hle:=G9 hgo
 have mono:∀a t,L a t=true->setP L (at_+r.eat.toNat) r.to_.toNat true a t=true:=λa t hl=>by
  simp only[setP];split
  ·rfl
  ·exact hl
 have hol:=CB ht;refine⟨⟨mono _ _ h.liv.start,λa t hl=>?_,λa t hp hl q hq hqf hqg=>mono _ _ ?_⟩,mono _ _ h.on,λi hi hgi=>?_⟩
 ·simp only[setP] at hl
  split at hl
  ·rename_i e
   obtain⟨rfl,rfl⟩:=e;obtain⟨_,_,u,hu⟩:=h.liv.lead _ _ h.on;refine⟨by omega,by omega,u++DF x r.out r.guards at_,?_⟩;have:=hu.step r hr i2 hgo
   rwa [Bn htt.1]
  ·exact h.liv.lead a t hl
 ·refine h.liv.clos a t hp ?_ q hq hqf hqg
  simp only[setP] at hl;split at hl
  ·rename_i e
   exfalso;obtain⟨rfl,rfl⟩:=e;rcases hp with hp|⟨hp,hm⟩
   ·omega
   ·have e0:r.eat.toNat=0:=by omega
    have heps:Dl r=true:=by
     cases hh:Dl r with
     |true=>rfl
     |false=>have:=he2 hh;omega
    obtain⟨t,t1,t2⟩:=ht.eps (n-1-j) (by omega) r hr heps (by rw[<-hs];exact i2);have e3:r.to_.toNat=t:=by omega
    rw[e3] at hm;have hm2:t∈ord.drop (n-1-j):=BQ (i:=1) (by rw[Eb,show n-1-j+1=n-j by omega];exact hm);have hnd:=ht.nodup;rw[<-Cz (n-1-j) ord,C9] at hnd;exact hnd.2.2 t t2 t hm2 rfl
  ·exact hl
 ·rcases Aj i k with h1|h1
  ·exact mono _ _ (h.some_ i h1 hgi)
  ·obtain rfl:i=k:=by omega
   rw[hre];simp[setP]
theorem Lb{l:List Nat}{i t:Nat}(hi:i<l.length)(h:t∈l.drop i):t=nth l i\/t∈l.drop (i+1):=by
 rw[drop_at hi,Ah] at h;exact h
theorem z61(h:LivS d x n ord at_ j s (ruI d.rules s).length L)(ht:Topo d.rules n ord)(hj:j<n)(hs:s=nth ord (n-1-j)):Liv d x n ord at_ (j+1) L:=by
 have hol:=CB ht;refine⟨h.liv.start,h.liv.lead,λa t hp hl q hq hqf hqg=>?_⟩;rcases hp with hp|⟨rfl,hm⟩
 ·exact h.liv.clos a t (.inl hp) hl q hq hqf hqg
 ·rw[show n-(j+1)=n-1-j by omega] at hm
  rcases Lb (by omega) hm with h1|h1
  ·rw[<-hs] at h1
   subst h1;obtain⟨i,hi,rfl⟩:=AZ hq;have e:nth d.rules i=d.rules[i]:=FR hi;obtain⟨p,hp,hpe⟩:=AZ (FY.2 ⟨hi,by rw[e];exact hqf⟩);have e2:nth (ruI d.rules t) p=i:=by rw[FR hp];exact hpe
   have:=h.some_ p hp (by rw[e2,e];exact hqg)
   rwa [e2,e] at this
  ·exact h.liv.clos a t (.inr ⟨rfl,by rwa [show n-j=n-1-j+1 by omega]⟩) hl q hq hqf hqg
theorem z62(h:Liv d x n ord at_ j L)(ht:Topo d.rules n ord)(hj:j<n)(hs:s=nth ord (n-1-j))(ho:L at_ s=false):Liv d x n ord at_ (j+1) L:=by
 have hol:=CB ht;refine⟨h.start,h.lead,λa t hp hl q hq hqf hqg=>?_⟩;rcases hp with hp|⟨rfl,hm⟩
 ·exact h.clos a t (.inl hp) hl q hq hqf hqg
 ·rw[show n-(j+1)=n-1-j by omega] at hm
  rcases Lb (by omega) hm with h1|h1
  ·rw[<-hs] at h1
   subst h1;rw[ho] at hl;cases hl
  ·exact h.clos a t (.inr ⟨rfl,by rwa [show n-j=n-1-j+1 by omega]⟩) hl q hq hqf hqg
theorem zcj(h:Liv d x n ord at_ n L)(ht:Topo d.rules n ord):Liv d x n ord (at_+1) 0 L:=by
 have hol:=CB ht;refine⟨h.start,h.lead,λa t hp hl q hq hqf hqg=>?_⟩;rcases hp with hp|⟨_,hm⟩
 ·rcases Aj a at_ with h1|h1
  ·exact h.clos a t (.inl h1) hl q hq hqf hqg
  ·refine h.clos a t (.inr ⟨by omega,?_⟩) hl q hq hqf hqg
   rw[Nat.sub_self,B2];exact (ht.all t).2 (h.lead a t hl).1
 ·rw[Nat.sub_zero,Aw (by omega)] at hm;cases hm
theorem zck(h:Liv d x n ord (x.length+1) 0 L):LivE d x n L :=
 ⟨h.start,h.lead,λa t hl q hq hqf hqg=>h.clos a t (.inl (by have:=(h.lead a t hl).2.1;omega)) hl q hq hqf hqg⟩
structure Oz(l:List Rule)(n k:Nat)(dn:Nat->Bool)(ord:List Nat):Prop where
 a1:∀a,a<n->(dn a=true↔a∈ord)
 a2:Tn l ord
 a3:ord.Nodup/\∀a∈ord,a<n
 a4:∀a,a<k->a∈ord
theorem To(l:List Rule)(n:Nat):Oz l n 0 (λ_=>false) [] :=
 ⟨λa _=>by simp,λi hi=>absurd hi (AL _),⟨CG,λa h=>by cases h⟩,λa h=>absurd h (AL _)⟩
theorem WH{l:List Rule}{dn:Nat->Bool}(h:Oz l n k dn ord):Oy l n dn ord k :=
 ⟨λa ha=>(h.a1 a (h.a3.2 a ha)).2 ha,λa ha hd=>.inl ((h.a1 a ha).1 hd),h.a2,h.a3⟩
theorem Tp{l:List Rule}{dn dn':Nat->Bool}{new:List Nat}(h:Oz l n k dn ord)(hp:PL l n dn ord k dn' new):Oz l n (k+1) dn' (ord++new):=by
 refine⟨λa ha=>?_,hp.q4,hp.q5,λa ha=>?_⟩
 ·rw[hp.q3 a ha,h.a1 a ha,Ap]
 ·rcases Aj a k with h1|h1
  ·exact BY _ (h.a4 a h1)
  ·obtain rfl:a=k:=by omega
   exact hp.q2
theorem Tq{l:List Rule}{dn:Nat->Bool}(h:Oz l n n dn ord):Topo l n ord :=
 ⟨h.a3.1,λs=>⟨h.a3.2 s,h.a4 s⟩,h.a2⟩
end
section
variable {d:Desc}{x:List Int}{n:Nat}{ord:List Nat}{L:Nat->Nat->Bool}
def Past(ord:List Nat)(at_ j a t:Nat):Prop:=at_<a\/(a=at_/\t∈ord.take j)
theorem PN{at_ a t:Nat}(hol:ord.length=n)(ht:t∈ord)(h:Past ord at_ 0 a t):Past ord (at_+1) n a t:=by
 rcases h with h|⟨_,h⟩
 ·rcases Aj (at_+1) a with h1|h1
  ·exact .inl h1
  ·exact .inr ⟨by omega,by rw[An (by omega)];exact ht⟩
 ·simp at h
theorem Hr{at_ j a t:Nat}(hj:j<ord.length)(h:Past ord at_ (j+1) a t):Past ord at_ j a t\/(a=at_/\t=nth ord j):=by
 rcases h with h|⟨h1,h⟩
 ·exact .inl (.inl h)
 ·rw[take_at hj,Ap,Aq] at h
  rcases h with h|h
  ·exact .inl (.inr ⟨h1,h⟩)
  ·exact .inr ⟨h1,h⟩
theorem MR(hg:Goes d n)(ht:Topo d.rules n ord){at_ j:Nat}(hj:j<n){r:Rule}(hr:r∈d.rules)(hf:r.from_=(nth ord j:Nat)):Past ord at_ j (at_+r.eat.toNat) r.to_.toNat:=by
 obtain⟨_,htt,he1,he2⟩:=hg.r r hr;cases he:Dl r with
 |true =>
  have e0:=ZB hg hr he;obtain⟨t,t1,t2⟩:=ht.eps j (by rw[CB ht];exact hj) r hr he hf;refine .inr ⟨by omega,?_⟩;rw[show r.to_.toNat=t by omega];exact t2
 |false=>exact .inl (by have:=he2 he;omega)
theorem zcl(hg:Goes d n)(ht:Topo d.rules n ord)(ho:(∀r∈d.rules,r.out.length<=64)/\∀f∈d.finals,f.out.length<=64):∀(k at_:Nat),x.length-at_<k->at_<=x.length->∀i,i<=n->∀s∈ord.take i,∀w,RelW d x at_ (s:Nat) w->w.length<=64 * ((x.length-at_) * n+i):=by
 have hl:∀(out:List Term) gs a,(DF x out gs a).length=out.length:=λout gs a=>by simp[DF,EG]
 have hol:=CB ht;intro k
 induction k with
 |zero=>intro at_ h;omega
 |succ k ih =>
  intro at_ hk ha i
  induction i with
  |zero=>intro _ s hs;simp at hs
  |succ i ihi =>
   intro hi s hs w hw;rw[take_at (by omega),Ap,Aq] at hs;rcases hs with hs|rfl
   ·have:=ihi (by omega) s hs w hw
    omega
   ·rcases PG.1 hw with⟨f,hf,_,_,rfl⟩|⟨r,hr,hf,hgo,v,hv,rfl⟩
    ·rw[hl]
     have:=ho.2 f hf;have:64 * ((x.length-at_) * n+i+1)≥64:=by omega
     omega
    ·rw[Al,hl]
     have h64:=ho.1 r hr;obtain⟨_,htt,e1,e2⟩:=hg.r r hr;have hle:=G9 hgo;have hv2:RelW d x (at_+r.eat.toNat) (r.to_.toNat:Nat) v:=by rw[Bn htt.1];exact hv
     have key:v.length<=64 * ((x.length-at_) * n+i):=by
      rcases MR (at_:=at_) hg ht (by omega:i<n) hr hf with hp|⟨hp,hm⟩
      ·have h1:=ih (at_+r.eat.toNat) (by omega) (by omega) n (Ac _) r.to_.toNat (by rw[An (by omega)];exact (ht.all _).2 (by omega)) v hv2
       have h2:(x.length-(at_+r.eat.toNat)) * n+n<=(x.length-at_) * n:=by
        rw[<-Nat.succ_mul];exact AH n (by omega)
       omega
      ·rw[hp] at hv2
       exact ihi (by omega) _ hm v hv2
     omega
theorem PO(hg:Goes d n)(ht:Topo d.rules n ord)(ho:(∀r∈d.rules,r.out.length<=64)/\∀f∈d.finals,f.out.length<=64)(hn:n<=1024)(hx:x.length<=1024){at_ s:Nat}(ha:at_<=x.length)(hs:s<n){w:List Int}(hw:RelW d x at_ s w):w.length<=100000000:=by
 have h1:=zcl hg ht ho (x.length-at_+1) at_ (by omega) ha n (Ac _) s (by rw[An (by rw[CB ht];omega)];exact (ht.all s).2 hs) w hw;have h2:(x.length-at_) * n<=1024 * 1024:=BD (by omega) hn;omega
structure OutI(d:Desc)(x:List Int)(L:Nat->Nat->Bool)(ord:List Nat)(most:Nat)(at_ j:Nat)(S:Nat->Nat->List (List Int))(many:Bool):Prop where
 no:many=false->∀a t,a<=x.length->L a t=true->Past ord at_ j a t->S a t=outW d x a t/\(S a t).length<=most
 yes:many=true->∃a t,L a t=true/\most<(outW d x a t).length
variable {most at_ j:Nat}{S:Nat->Nat->List (List Int)}{many:Bool}
theorem ZL(ho:ord.length=n):OutI d x L ord most x.length 0 (λ_ _=>[]) false:=by
 refine⟨λ_ a t ha _ hp=>?_,λh=>by cases h⟩;rcases hp with h|⟨_,h⟩
 ·omega
 ·simp at h
theorem ZM(h:OutI d x L ord most at_ j S true)(at2 j2:Nat):OutI d x L ord most at2 j2 S true:=⟨λh=>(by cases h),h.yes⟩
theorem ZN(h:OutI d x L ord most at_ j S many)(hj:j<ord.length)(ho:L at_ (nth ord j)=false):OutI d x L ord most at_ (j+1) S many:=by
 refine⟨λhm a t ha hl hp=>?_,h.yes⟩;rcases Hr hj hp with h1|⟨rfl,rfl⟩
 ·exact h.no hm a t ha hl h1
 ·rw[ho] at hl;cases hl
theorem z63(h:OutI d x L ord most (at_+1) n S many)(hl:LivE d x n L)(ht:Topo d.rules n ord):OutI d x L ord most at_ 0 S many:=⟨λhm a t ha hlt hp=>h.no hm a t ha hlt (PN (CB ht) ((ht.all t).2 (hl.lead a t hlt).1) hp),h.yes⟩
theorem Je(hg:Goes d n)(ht:Topo d.rules n ord){a t:Nat}(ha:a<=x.length)(hs:t<n):IV d x a t (outW d x a t):=R7 (zgh hg ht (x.length-a+1) a (by omega) ha t hs)
theorem zcm(h:OutI d x L ord most at_ j S false)(hl:LivE d x n L)(hg:Goes d n)(ht:Topo d.rules n ord)(hj:j<n)(ha:at_<=x.length)(hlv:L at_ (nth ord j)=true):Iw (outL d x (λa t=>S a t.toNat) at_ (nth ord j:Nat))=outW d x at_ (nth ord j:Nat):=by
 refine (ZC (PH λr hr hf hgo=>?_)).symm;obtain⟨_,htt,e1,e2⟩:=hg.r r hr;have hle:=G9 hgo;have h1:=h.no rfl (at_+r.eat.toNat) r.to_.toNat (by omega) (hl.clos _ _ hlv r hr hf hgo) (MR hg ht hj hr hf);have h2:=Je hg ht (x:=x) (a:=at_+r.eat.toNat) (t:=r.to_.toNat) (by omega) (by omega);rw[<-h1.1,Bn htt.1] at h2;exact h2
theorem ZO(h:OutI d x L ord most at_ j S false)(hl:LivE d x n L)(hg:Goes d n)(ht:Topo d.rules n ord)(hj:j<n)(ha:at_<=x.length)(hlv:L at_ (nth ord j)=true){M:List (List Int)}(hM:M=outW d x at_ (nth ord j:Nat)):OutI d x L ord most at_ (j+1) (setP S at_ (nth ord j) M) (decide (most<M.length)):=by
 refine⟨λhm a t hal hlt hp=>?_,λhm=>?_⟩
 ·simp only[BM,Nat.not_lt] at hm
  simp only[setP];by_cases e:a=at_/\t=nth ord j
  ·rw[Af e]
   obtain⟨rfl,rfl⟩:=e;exact⟨hM,hm⟩
  ·rw[Ae e]
   rcases Hr (by rw[CB ht];exact hj) hp with h1|h1
   ·exact h.no rfl a t hal hlt h1
   ·exact absurd h1 e
 ·simp only[Ag] at hm
  exact⟨at_,nth ord j,hlv,by rw[<-hM];exact hm⟩
theorem z64(h:OutI d x L ord most 0 n S many)(hl:LivE d x n L)(hg:Goes d n)(ht:Topo d.rules n ord)(hs:0<=d.start/\d.start<n):many=decide (most<(outW d x 0 d.start).length)/\(many=false->S 0 d.start.toNat=outW d x 0 d.start):=by
 have hst:((d.start.toNat:Nat):Int)=d.start:=Bn hs.1;have hO:=Je hg ht (x:=x) (a:=0) (t:=d.start.toNat) (Ay _) (by omega);rw[hst] at hO;cases many with
 |false =>
  have h1:=h.no rfl 0 d.start.toNat (Ay _) hl.start (.inr ⟨rfl,by rw[An (by rw[CB ht];omega)];exact (ht.all _).2 (by omega)⟩);rw[hst] at h1;have h2:=h1.2;rw[h1.1] at h2;refine⟨?_,λ_=>h1.1⟩;rw[eq_comm,BM];omega
 |true =>
  obtain⟨a,t,h1,h2⟩:=h.yes rfl;obtain⟨k1,k2,u,hu⟩:=hl.lead a t h1;have:=Vg hu (Je hg ht k2 k1) hO;refine⟨?_,λh=>by cases h⟩;rw[eq_comm,Ag];omega
theorem z65(hl:LivE d x n L)(hg:Goes d n)(ht:Topo d.rules n ord)(hs:0<=d.start/\d.start<n){a t:Nat}(h:L a t=true):(outW d x a t).length<=(outW d x 0 d.start).length:=by
 have hst:((d.start.toNat:Nat):Int)=d.start:=Bn hs.1;have hO:=Je hg ht (x:=x) (a:=0) (t:=d.start.toNat) (Ay _) (by omega);rw[hst] at hO;obtain⟨k1,k2,u,hu⟩:=hl.lead a t h;exact Vg hu (Je hg ht k2 k1) hO
end
set_option maxRecDepth 100000
theorem I1(n:Nat):A9 (List.replicate n AV.nilS)=true:=BL.2 λx hx=>by rw[Ci hx];rfl
set_option maxRecDepth 100000
def RH(xs:List Nat):List (List AV):=(List.range xs.length).map λ(k:Nat)=>[AV.int .i64 ((xs.length:Int)-1-(k:Int)),e1 (nth xs (xs.length-1-k))]
theorem MU(xs:List Nat):(RH xs).length=xs.length:=by simp[RH]
theorem Vj{xs:List Nat}{k:Nat}(h:k<xs.length):(RH xs)[k]? = some [AV.int .i64 ((xs.length:Int)-1-k),e1 (nth xs (xs.length-1-k))]:=by
 simp[RH,h]
theorem ZP{xs:List Nat}{k:Nat}{row:List AV}(h:(RH xs)[k]? = some row):k<xs.length/\row=[AV.int .i64 ((xs.length:Int)-1-k),e1 (nth xs (xs.length-1-k))]:=by
 have hk:k<xs.length:=by rw[<-MU xs];exact (AP.1 h).1
 rw[Vj hk] at h;exact⟨hk,(C5 h).symm⟩
theorem WI(xs:List Nat):∀r∈RH xs,∀x∈r,Flat x:=λr hr x hx=>by
 obtain⟨k,_,rfl⟩:=Ar.1 hr;simp only[Ah,Au,AA] at hx;rcases hx with rfl|rfl<;>exact λS=>rfl
theorem ZQ(xs:List Nat):∀r∈RH xs,r.length=2:=λr hr=>by
 obtain⟨k,_,rfl⟩:=Ar.1 hr;rfl
theorem ZR(xs:List Nat)(hl:xs.length<=1000000000000):Q4 Tryz.prog 134 [.cptr (.lst 1 (xs.map e1))] (RH xs):=by
 have pX:A9 (xs.map e1)=true:=Dg (λ_=>rfl) _;refine Y9 G4 λI hP hr=>?_;show TI I _ DN _ _ _ _;unfold DN;refine GG (TI_v hP (by rfl) ?_);(with_reducible repeat'(first|simp (disch:=omega) only[push_cast,↓zz,seval,pX]|apply Aa|refine sp_ ?_ ?_<;>intro hc<;>push_cast at hc|omega|intro _));refine (H7 (SO (λ(t:Nat) s env H=>t<=xs.length/\s=some t/\∀p∈[(0,AV.yld I.l),(1,AV.cptr (.lst 1 (xs.map e1))),(3,AV.int .i64 ((xs.length:Int)-1-t))],env p.1=p.2) (λt=>xs.length-t) 0 ?_ ?_):TI I 19 _ _ _ _ _)
 ·refine⟨Ay _,rfl,?_⟩
  simp only[Ah,Au,AA,BW,De];refine⟨rfl,rfl,?_⟩;show AV.int .i64 ((xs.length:Int)-1)=AV.int .i64 ((xs.length:Int)-1-((0:Nat):Int));simp
 rintro t s env H ⟨ht,rfl,hlv⟩;refine YZ (live:=[(0,AV.yld I.l),(1,AV.cptr (.lst 1 (xs.map e1))),(3,AV.int .i64 ((xs.length:Int)-1-t))]) (λp hp=>⟨hlv p hp,?_⟩) ?_
 ·simp only[Ah,Au,AA] at hp
  rcases hp with rfl|rfl|rfl<;>first|rfl|exact pX
 refine GG (TI_v hP (by rfl) ?_);(with_reducible repeat'(first|simp (disch:=omega) only[push_cast,↓zz,seval]|apply Aa|refine sp_ ?_ ?_<;>intro hc<;>push_cast at hc|omega|intro _))
 ·have htl:t<xs.length:=by omega
  have hrow:=Vj htl
  have aX:(xs.map e1).getD (xs.length-1-t) .any=.int .i64 (nth xs (xs.length-1-t):Nat):=by
   have:xs.length-1-t<xs.length:=by omega
   simp[nth,List.getD,this]
  have hcast:((xs.length:Int)-1-t).toNat=xs.length-1-t:=by omega
  have hnx:(xs.length:Int)-1-t-1=(xs.length:Int)-1-((t+1:Nat):Int):=by push_cast;omega
  rw[show e1 (nth xs (xs.length-1-t))=AV.int .i64 ((nth xs (xs.length-1-t):Nat):Int) from rfl] at hrow;generalize nth xs (xs.length-1-t)=z at *;refine (GG (H7 (GG ?_)):TI I 19 _ _ _ _ _);refine U4 (pre:=[_,_,_,_,_,_]) (post:=[_]) rfl rfl ?_;rw[hP,<-Kj];(with_reducible repeat'(first|simp (disch:=omega) only[push_cast,↓zz,seval,pX,aX,hcast]|apply Aa|refine sp_ ?_ ?_<;>intro hc<;>push_cast at hc|omega|intro _));refine⟨[AV.int .i64 ((xs.length:Int)-1-t),AV.int .i64 (z:Int)],rfl,?_,by rw[hr];exact hrow,?_,?_⟩
  ·intro x hx
   simp only[Ah,Au,AA] at hx;rcases hx with rfl|rfl<;>exact λS v hv=>hv
  ·rw[<-Kj]
   (with_reducible repeat'(first|simp (disch:=omega) only[push_cast,↓zz,seval]|apply Aa|refine sp_ ?_ ?_<;>intro hc<;>push_cast at hc|omega|intro _));refine (TI_v hP ?q1 ?_:TI I 19 _ _ _ _ _)
   case q1=>rfl
   (with_reducible repeat'(first|simp (disch:=omega) only[push_cast,↓zz,seval]|apply Aa|refine sp_ ?_ ?_<;>intro hc<;>push_cast at hc|omega|intro _));refine (TI_v hP ?q2 ?_:TI I 19 _ _ _ _ _)
   case q2=>rfl
   (with_reducible repeat'(first|simp (disch:=omega) only[push_cast,↓zz,seval]|apply Aa|refine sp_ ?_ ?_<;>intro hc<;>push_cast at hc|omega|intro _));refine⟨t+1,⟨by omega,rfl,rfl,rfl,?_⟩,by omega⟩;show AV.int .i64 ((xs.length:Int)-1-t-1)=AV.int .i64 ((xs.length:Int)-1-((t+1:Nat):Int));rw[hnx]
  ·rw[<-Kj]
   (with_reducible repeat'(first|simp (disch:=omega) only[push_cast,↓zz,seval]|apply Aa|refine sp_ ?_ ?_<;>intro hc<;>push_cast at hc|omega|intro _));refine (TI_v hP ?q3 ?_:TI I 19 _ _ _ _ _)
   case q3=>rfl
   (with_reducible repeat'(first|simp (disch:=omega) only[push_cast,↓zz,seval]|apply Aa|refine sp_ ?_ ?_<;>intro hc<;>push_cast at hc|omega|intro _));exact⟨trivial,.inr rfl⟩
 ·refine⟨trivial,.inl ?_⟩
  rw[MU];congr 1;omega
theorem MV(xs:List Nat)(hl:xs.length<=1000000000000):PC Tryz.prog 102 [.lst 1 (xs.map e1)] (.fn 134 [.cptr (.lst 1 (xs.map e1))]):=by
 have pX:A9 (xs.map e1)=true:=Dg (λ_=>rfl) _;refine Ct GP ?_;unfold Fv;(with_reducible repeat'(first|simp (disch:=omega) only[push_cast,↓zz,seval,pX]|apply Aa|refine sp_ ?_ ?_<;>intro hc<;>push_cast at hc|omega|intro _))
 all_goals trace_state
set_option maxRecDepth 100000
def HH{β:Type}[Inhabited β](fr:β->Int)(l:List β)(k:Nat)(s:Nat):List Nat:=(List.range k).filter λi=>decide (fr (nth l i)=(s:Int))
section
variable {β:Type}[Inhabited β]{fr:β->Int}{l:List β}
theorem MW(k s:Nat):(HH fr l k s).length<=k:=by
 have:=B7 (λi=>decide (fr (nth l i)=(s:Int))) (List.range k);simpa [HH] using this
theorem O0{k i:Nat}(hi:fr (nth l k)=i):HH fr l (k+1)=setD (HH fr l k) i (HH fr l k i++[k]):=by
 funext s;simp only[HH,Fz,Cy,BR,List.filter_nil,hi,Ag,setD];by_cases e:s=i
 ·subst e;simp
 ·rw[Ae (by omega),Ae e];simp
end
def fiI(l:List Fq)(s:Nat):List Nat:=HH (·.from_) l l.length s
theorem z67(l:List Rule):HH (·.from_) l l.length=ruI l:=rfl
def bgL(d:Desc)(x:List Int)(R F:AV)(n:Nat)(T1 T2:Grp):List Grp:=[⟨1,1,true,[.ptr 1 1 0 0]⟩,⟨11,1,true,[rnB d x R F .nilS .nilS]⟩,T1,T2,⟨6,1,true,[CQ d]⟩]
def bgR(d:Desc)(x:List Int)(n k:Nat)(V:Nat->Nat):List Grp:=bgL d x (.ref 2 1 0 n) (.ref 3 1 0 n) n ⟨1,1,true,fT 5 n V (HH (·.from_) d.rules k)⟩ ⟨1,1,true,List.replicate n .nilS⟩++fF 1 e1 n V (HH (·.from_) d.rules k)
def bgF(d:Desc)(x:List Int)(n k:Nat)(V:Nat->Nat):List Grp:=bgL d x (ruV d.rules n) (.ref 3 1 0 n) n ⟨0,2,false,[]⟩ ⟨1,1,true,fT 5 n V (HH (·.from_) d.finals k)⟩++fF 1 e1 n V (HH (·.from_) d.finals k)
theorem Tr(d:Desc)(x:List Int)(n k:Nat)(V:Nat->Nat):(bgR d x n k V).length=n+5:=by simp[bgR,bgL,Ot]
theorem Ts(d:Desc)(x:List Int)(n k:Nat)(V:Nat->Nat):(bgF d x n k V).length=n+5:=by simp[bgF,bgL,Ot]
theorem Hs{d:Desc}{x:List Int}{R F:AV}{n m:Nat}{T1 T2:Grp}(hm:5<=m)(hR:ltV m R)(hF:ltV m F)(h1:ltL m T1.xs)(h2:ltL m T2.xs):∀G∈bgL d x R F n T1 T2,ltL m G.xs:=λG hG=>by
 have q1:ltV m (Ft d.rules):=Cf _ _ (BJ _);have q2:ltV m (FS d.finals):=Cf _ _ (BB _);have q3:ltV m (AE x):=Cf _ _ (Bt .i32 _);simp only[bgL,Ah,Au,AA] at hG;rcases hG with rfl|rfl|rfl|rfl|rfl
 ·exact⟨(show 1<m by omega),trivial⟩
 ·exact⟨⟨trivial,trivial,trivial,trivial,q1,q2,q3,hR,hF,trivial,trivial,trivial⟩,trivial⟩
 ·exact h1
 ·exact h2
 ·exact Cm _ _ (by simp[A9,Gs])
theorem WJ(d:Desc)(x:List Int)(n k:Nat)(V:Nat->Nat):∀G∈bgR d x n k V,ltL (bgR d x n k V).length G.xs:=λG hG=>by
 rw[Tr];rcases Ap.1 hG with hG|hG
 ·have a1:ltV (n+5) (.ref 2 1 0 n):=show 2<n+5 by omega
  have a2:ltV (n+5) (.ref 3 1 0 n):=show 3<n+5 by omega
  exact Hs (by omega) a1 a2 (z83 (by omega)) (Cm _ _ (I1 n)) G hG
 ·exact z84 (λ_=>rfl) G hG
theorem WK(d:Desc)(x:List Int)(n k:Nat)(V:Nat->Nat):∀G∈bgF d x n k V,ltL (bgF d x n k V).length G.xs:=λG hG=>by
 rw[Ts];rcases Ap.1 hG with hG|hG
 ·have a1:ltV (n+5) (ruV d.rules n):=Cf _ _ (show A9 _=true from ED λ_=>rfl)
  have a2:ltV (n+5) (.ref 3 1 0 n):=show 3<n+5 by omega
  exact Hs (T1:=⟨0,2,false,[]⟩) (by omega) a1 a2 trivial (z83 (by omega)) G hG
 ·exact z84 (λ_=>rfl) G hG
theorem Vk{d:Desc}{x:List Int}{R F:AV}{n:Nat}{T1 T2:Grp}{Fm:List Grp}(hF:Fm.length=n)(t:Nat)(ht:t=2\/t=3):EE 0 (fKs t 5 n) (bgL d x R F n T1 T2++Fm)=bgL d x R F n (if t=2 then T1.dead else T1) (if t=3 then T2.dead else T2)++Fm.map Grp.dead:=by
 have m0:(0:Nat)∉fKs t 5 n:=J4 (by omega) (by omega);have m1:(1:Nat)∉fKs t 5 n:=J4 (by omega) (by omega);have m4:(4:Nat)∉fKs t 5 n:=J4 (by omega) (by omega)
 have hK:EE 5 (fKs t 5 n) Fm=Fm.map Grp.dead:=ZG λj hj=>by
  rw[BS];exact ZE (by omega)
 rw[RA];have e5:0+(bgL d x R F n T1 T2).length=5:=rfl;rw[e5,hK,bgL,GY,GY,GY,GY,GY,TZ,Ae m0,Ae m1,Ae m4];rcases ht with rfl|rfl
 ·rw[Af (show (0+1+1:Nat)∈fKs 2 5 n by simp[fKs]),Ae (show (0+1+1+1:Nat)∉fKs 2 5 n from J4 (by omega) (by omega))]
  rfl
 ·rw[Ae (show (0+1+1:Nat)∉fKs 3 5 n from J4 (by omega) (by omega)),Af (show (0+1+1+1:Nat)∈fKs 3 5 n by simp[fKs])]
  rfl
theorem WL{m b:Nat}{env:Env}(d:Desc)(x:List Int)(n:Nat)(V:Nat->Nat):Ent m b env (Abs.hl (bgR d x n d.rules.length V)) env (Abs.hl (bgL d x (ruV d.rules n) (.ref 3 1 0 n) n ⟨0,2,false,[]⟩ ⟨1,1,true,List.replicate n .nilS⟩++(fF 1 e1 n V (ruI d.rules)).map Grp.dead)):=by
 have h1:(Abs.hl (bgR d x n d.rules.length V)).at_ 2=⟨1,1,true,fT 5 n V (ruI d.rules)⟩:=rfl
 have h2:∀i,i<n->(Abs.hl (bgR d x n d.rules.length V)).at_ (i+5)=gG 1 e1 (V i) (ruI d.rules i):=λi hi=>by
  rw[bgR,Dj,bgL];simp only[List.cons_append,List.nil_append,D8];exact z5t hi
 obtain⟨f1,f2⟩:=ZF (w:=1) (e:=e1) (by decide) (λ_=>rfl) h1 h2;refine Iy (g:=1) (w:=11) (v:=1) (d:=2) (ex:=true) (xs:=[rnB d x (.ref 2 1 0 n) (.ref 3 1 0 n) .nilS .nilS]) (ys:=[rnB d x (ruV d.rules n) (.ref 3 1 0 n) .nilS .nilS]) (fKs 2 5 n) (by decide) (by rw[Tr];omega) rfl (J4 (by decide) (by omega)) ?_ ?_
 ·refine⟨_,[],rfl,.inr ⟨_,_,rfl,rfl,?_⟩,rfl⟩
  refine⟨_,_,rfl,.inl rfl,_,_,rfl,.inl rfl,_,_,rfl,.inl rfl,_,_,rfl,.inl rfl,_,_,rfl,.inl rfl,_,_,rfl,.inl rfl,_,_,rfl,.inl rfl,_,_,rfl,.inr ⟨f1,f2.symm⟩,_,_,rfl,.inl rfl,_,_,rfl,.inl rfl,_,_,rfl,.inl rfl,rfl⟩
 ·rw[bgR,Vk Ot 2 (.inl rfl),z67]
  rfl
theorem WM{m b:Nat}{env:Env}(d:Desc)(x:List Int)(n:Nat)(V:Nat->Nat):Ent m b env (Abs.hl (bgF d x n d.finals.length V)) env (Abs.hl (bgL d x (ruV d.rules n) (.lst 1 (fD 1 e1 n (fiI d.finals))) n ⟨0,2,false,[]⟩ ⟨0,2,false,[]⟩++(fF 1 e1 n V (fiI d.finals)).map Grp.dead)):=by
 have h1:(Abs.hl (bgF d x n d.finals.length V)).at_ 3=⟨1,1,true,fT 5 n V (fiI d.finals)⟩:=rfl
 have h2:∀i,i<n->(Abs.hl (bgF d x n d.finals.length V)).at_ (i+5)=gG 1 e1 (V i) (fiI d.finals i):=λi hi=>by
  rw[bgF,Dj,bgL];simp only[List.cons_append,List.nil_append,D8];exact z5t hi
 obtain⟨f1,f2⟩:=ZF (w:=1) (e:=e1) (by decide) (λ_=>rfl) h1 h2;refine Iy (g:=1) (w:=11) (v:=1) (d:=2) (ex:=true) (xs:=[rnB d x (ruV d.rules n) (.ref 3 1 0 n) .nilS .nilS]) (ys:=[rnB d x (ruV d.rules n) (.lst 1 (fD 1 e1 n (fiI d.finals))) .nilS .nilS]) (fKs 3 5 n) (by decide) (by rw[Ts];omega) rfl (J4 (by decide) (by omega)) ?_ ?_
 ·refine⟨_,[],rfl,.inr ⟨_,_,rfl,rfl,?_⟩,rfl⟩
  refine⟨_,_,rfl,.inl rfl,_,_,rfl,.inl rfl,_,_,rfl,.inl rfl,_,_,rfl,.inl rfl,_,_,rfl,.inl rfl,_,_,rfl,.inl rfl,_,_,rfl,.inl rfl,_,_,rfl,.inl rfl,_,_,rfl,.inr ⟨f1,f2.symm⟩,_,_,rfl,.inl rfl,_,_,rfl,.inl rfl,rfl⟩
 ·rw[bgF,Vk Ot 3 (.inr rfl)]
  rfl
theorem z86(d:Desc)(x:List Int)(n k:Nat)(V:Nat->Nat):bgR d x n k V=⟨1,1,true,[.ptr 1 1 0 0]⟩::⟨11,1,true,[rnB d x (.ref 2 1 0 n) (.ref 3 1 0 n) .nilS .nilS]⟩::⟨1,1,true,fT 5 n V (HH (·.from_) d.rules k)⟩::⟨1,1,true,List.replicate n .nilS⟩::⟨6,1,true,[CQ d]⟩::fF 1 e1 n V (HH (·.from_) d.rules k):=rfl
theorem z87(d:Desc)(x:List Int)(n k:Nat)(V:Nat->Nat):bgF d x n k V=⟨1,1,true,[.ptr 1 1 0 0]⟩::⟨11,1,true,[rnB d x (ruV d.rules n) (.ref 3 1 0 n) .nilS .nilS]⟩::⟨0,2,false,[]⟩::⟨1,1,true,fT 5 n V (HH (·.from_) d.finals k)⟩::⟨6,1,true,[CQ d]⟩::fF 1 e1 n V (HH (·.from_) d.finals k):=rfl
def fiV(l:List Fq)(n:Nat):AV:=.lst 1 (fD 1 e1 n (fiI l))
theorem zgk(n:Nat):List.replicate n (AV.bool false)=spB n λ_=>false:=by
 refine BH (by simp[spB]) λi h1 h2=>?_;simp[spB]
theorem z68{H:As}{g v:Nat}{l:List Nat}(h:H.at_ g=gG 1 e1 v l):CM 2 (H.only [g]) (.ref g v 0 l.length)/\frzV 2 (H.only [g]) (.ref g v 0 l.length)=.lst 1 (l.map e1):=by
 have hat:(H.only [g]).at_ g=gG 1 e1 v l:=by
  show (if g∈[g] then H.at_ g else (H.at_ g).dead)=_;rw[Af (by simp),h]
 have htl:(((gG 1 e1 v l).xs.drop 0).take l.length)=l.map e1:=by
  rw[B2];exact An (by simp[gG])
 have hp:A9 (l.map e1)=true:=Dg (λ_=>rfl) _;constructor
 ·refine⟨by rw[hat];rfl,by rw[hat];exact Nat.one_pos,by rw[hat];simp[gG],?_⟩
  rw[hat,htl];exact (FC _ 1 hp).1
 ·show AV.lst _ _=_
  rw[hat,htl];congr 1;exact (FC _ 1 hp).2
def bgS(d:Desc)(x:List Int)(n v:Nat)(dn:Nat->Bool)(ord:List Nat):List Grp:=srtL d x n (fiV d.finals n) v dn ord++[⟨1,1,true,[.ptr 0 1 0 0]⟩,⟨6,1,true,[CQ d]⟩]
theorem WN(d:Desc)(x:List Int)(n v:Nat)(dn:Nat->Bool)(ord:List Nat):∀G∈bgS d x n v dn ord,ltL 5 G.xs:=λG hG=>by
 rcases Ap.1 hG with hG|hG
 ·have h1:ltV 5 (Ft d.rules):=Cf _ _ (BJ _)
  have h2:ltV 5 (FS d.finals):=Cf _ _ (BB _);have h3:ltV 5 (AE x):=Cf _ _ (Bt .i32 _);have h4:ltV 5 (ruV d.rules n):=Cf _ _ (ED λ_=>rfl);have h5:ltV 5 (fiV d.finals n):=Cf _ _ (ED λ_=>rfl);simp only[srtL,Ah,Au,AA] at hG;rcases hG with rfl|rfl|rfl
  ·exact⟨⟨trivial,trivial,trivial,trivial,h1,h2,h3,h4,h5,(show 2<5 by omega),trivial,trivial⟩,trivial⟩
  ·exact Cm _ _ (BL.2 λy hy=>by obtain⟨i,_,rfl⟩:=Ar.1 hy;rfl)
  ·exact Cm _ _ (Dg (λ_=>rfl) _)
 ·simp only[Ah,Au,AA] at hG
  rcases hG with rfl|rfl
  ·exact⟨(show 0<5 by omega),trivial⟩
  ·exact Cm _ _ (by simp[A9,Gs])
theorem WO{m b:Nat}{env:Env}(d:Desc)(x:List Int)(n v:Nat)(dn:Nat->Bool)(ord:List Nat):Ent m b env (Abs.hl (bgS d x n v dn ord)) env (Abs.hl [⟨11,1,true,[rnB d x (ruV d.rules n) (fiV d.finals n) (.lst 1 (ord.map e1)) .nilS]⟩,⟨1,1,true,spB n dn⟩,(gG 1 e1 v ord).dead,⟨1,1,true,[.ptr 0 1 0 0]⟩,⟨6,1,true,[CQ d]⟩]):=by
 have h1:(Abs.hl (bgS d x n v dn ord)).at_ 2=gG 1 e1 v ord:=rfl;obtain⟨f1,f2⟩:=z68 h1;refine Iy (g:=0) (w:=11) (v:=1) (d:=2) (ex:=true) (xs:=[rnB d x (ruV d.rules n) (fiV d.finals n) (.ref 2 v 0 ord.length) .nilS]) (ys:=[rnB d x (ruV d.rules n) (fiV d.finals n) (.lst 1 (ord.map e1)) .nilS]) [2] (by decide) (by simp[bgS,srtL]) rfl (by decide) ?_ rfl;refine⟨_,[],rfl,.inr ⟨_,_,rfl,rfl,?_⟩,rfl⟩;exact⟨_,_,rfl,.inl rfl,_,_,rfl,.inl rfl,_,_,rfl,.inl rfl,_,_,rfl,.inl rfl,_,_,rfl,.inl rfl,_,_,rfl,.inl rfl,_,_,rfl,.inl rfl,_,_,rfl,.inl rfl,_,_,rfl,.inl rfl,_,_,rfl,.inr ⟨f1,f2.symm⟩,_,_,rfl,.inl rfl,rfl⟩
theorem z69{y:AV}{l:List Grp}(d:Nat)(ks:List Nat)(hok:CM d ((Abs.hl l).only ks) y){z:AV}(hz:frzV d ((Abs.hl l).only ks) y=z)(hp:z.pure=true):Ent 1 0 (λ_=>y) (Abs.hl l) (λ_=>z) (Abs.hl []):=by
 refine (Y6 0 d ks hok).trans ((Rz (H':=Abs.hl ([]++EE 0 ks l)) ?_ ?_).trans ((LZ (Ay _) (λG hG=>by cases hG) λi hi=>?_).trans (Y5 trivial λi hi=>?_)))
 ·simp[Abs.hl,As.kill,Gz]
 ·intro g hg
  show (EE 0 ks l).getD g default=if g∈ks then (l.getD g default).dead else l.getD g default
  rw[JF 0 ks l g hg,AO]
 ·obtain rfl:i=0:=by omega
  show ltV 0 (if (0:Nat)=0 then frzV d ((Abs.hl l).only ks) y else y);rw[Af rfl,hz];exact Cf _ _ hp
 ·obtain rfl:i=0:=by omega
  show leS [] (if (0:Nat)=0 then frzV d ((Abs.hl l).only ks) y else y) z;rw[Af rfl,hz];exact C2 _ _
def bgV(d:Desc)(x:List Int)(n m:Nat)(ord:List Nat)(at_:Nat)(L:Nat->Nat->Bool):List Grp:=[⟨11,1,true,[rnB d x (ruV d.rules n) (fiV d.finals n) (.lst 1 (ord.map e1)) (.ref 3 1 0 m)]⟩,⟨1,1,true,[.ptr 0 1 0 0]⟩,⟨6,1,true,[CQ d]⟩,⟨1,1,true,lvB n m L⟩,⟨1,1,true,[.int .i64 at_]⟩]
theorem ZS(d:Desc)(x:List Int){n:Nat}(hdn:d.states=n)(hn:n<=1024)(hrl:d.rules.length<=4096)(hfl:d.finals.length<=4096)(hs:0<=d.start/\d.start<n)(hgo:Goes d n)(hcy:¬cycP d.rules n)(hlf:∀r∈d.finals,0<=r.from_/\r.from_<n)(hxl:x.length<=1024)(h32:∀v∈x,-2147483648<=v/\v<=2147483647)
 (hgb:∀r∈d.rules,(r.guards.length<=1000000/\∀g∈r.guards,g.length<=1000000)/\0<=r.eat/\r.eat<=1000000) :
 B4 Tryz.prog 60 [CQ d,AE x] (Abs.hl []) λy H'=>H'=Abs.hl []/\∃ord L,y=C0 d x (ruV d.rules n) (fiV d.finals n) (.lst 1 (ord.map e1)) (.lst 1 (lvB n ((x.length+1) * n) L))/\Topo d.rules n ord/\LivE d x n L:=by
 have pR:=BJ d.rules;have pFi:=BB d.finals;have pX:A9 (x.map (AV.int .i32))=true:=Bt .i32 _;have pN:=I1 n;have hl:∀r∈d.rules,0<=r.from_/\r.from_<n:=λr hr=>(hgo.r r hr).1;have hl2:∀r∈d.rules,(0<=r.from_/\r.from_<n)/\0<=r.to_/\r.to_<n:=λr hr=>⟨(hgo.r r hr).1,(hgo.r r hr).2.1⟩;refine Ho (K6 S7 (W_T ?_));unfold Mb;(with_reducible repeat'(first|simp (disch:=omega) only[push_cast,↓zz,seval,pR,pFi,hdn]|apply Aa|refine sp_ ?_ ?_<;>intro hc<;>push_cast at hc|omega|intro _));refine Sz [1,2,3,4] [1,1,11,1] [none,none,none,none,some 1,none,none,some 2,none,some 3,some 4] (by simp) (by decide) ?_;(with_reducible repeat'(first|simp (disch:=omega) only[push_cast,↓zz,seval,yy,Ah,Au,AA,BZ,CY,Br,D3,D2,pR,pFi,pX,hdn]|apply Aa|refine sp_ ?_ ?_<;>intro hc<;>push_cast at hc|omega|intro _))
 refine Bv (N9 (srcs:=[.grp 4,.grp 3,.grp 1,.grp 2,.grp 0]) (live:=[(1,AE x),(2,.ptr 4 1 0 0),(5,.ptr 0 1 0 0),(29,Ft d.rules),(30,.int .i64 d.rules.length),(31,.int .i64 0)])
  (heap:=bgL d x (.ref 2 1 0 n) (.ref 3 1 0 n) n ⟨1,1,true,List.replicate n .nilS⟩ ⟨1,1,true,List.replicate n .nilS⟩) ?_ (Nk (ZD (α:=Nat) (w:=1) (e:=e1) (n:=n) (t:=2) (by decide) (by simp[bgL]) rfl) ?_))
 ·unfold bgL rnB
  (with_reducible repeat'(first|simp (disch:=omega) only[push_cast,↓zz,seval,pR,pFi,pX,hdn,pN]|apply Aa|refine sp_ ?_ ?_<;>intro hc<;>push_cast at hc|omega|intro _))
 refine Jv (λ(q:Nat × (Nat->Nat))=>q.1<=d.rules.length) (λq=>d.rules.length-q.1)
  (λq=>Ef [(1,AE x),(2,.ptr 4 1 0 0),(5,.ptr 0 1 0 0),(29,Ft d.rules),(30,.int .i64 d.rules.length),(31,.int .i64 q.1)]) (λq=>Abs.hl (bgR d x n q.1 q.2)) (0,λ_=>1) (by simp) Ent.refl ?_
 rintro⟨k,V⟩ hk;simp only at hk ⊢;rcases Aj k d.rules.length with hkl|hkl
 ·have hr:=hl _ (Bo hkl)
  have hsu:=λi=>O0 (fr:=λ(r:Rule)=>r.from_) (l:=d.rules) (k:=k) (i:=i);generalize hre:nth d.rules k=r at *;have hgr:=Bw r.guards;have hot:=BV r.out;obtain⟨i,hi⟩:∃i:Nat,r.from_=i:=⟨r.from_.toNat,by omega⟩;have hin:i<n:=by omega
  obtain⟨D,hD⟩:∃D,D=HH (λ(r:Rule)=>r.from_) d.rules k:=⟨_,rfl⟩;have hFl:(fF 1 e1 n V D).length=n:=Ot;have hTl:(fT 5 n V D).length=n:=z7z;have gI:∀G,(fF 1 e1 n V D++[G]).getD i default=gG 1 e1 (V i) (D i):=λG=>by rw[z82 hFl hin];exact z5t hin
  have gR:∀G,(fF 1 e1 n V D++[G]).getD n default=G:=λG=>by rw[Lw hFl];rfl
  have sR:∀G G',setQ (fF 1 e1 n V D++[G]) n G'=some (fF 1 e1 n V D++[G']):=λG G'=>by rw[R9 _ _ hFl];rfl
  have tI:(fT 5 n V D).getD i .any=.ref (i+5) (V i) 0 (D i).length:=zgi hin;have sI:∀G G',setQ (fF 1 e1 n V D++[G]) i G'=some ((fF 1 e1 n V D).set i G'++[G]):=λG G'=>Tl (by omega);have gR2:∀G G',((fF 1 e1 n V D).set i G'++[G]).getD n default=G:=λG G'=>by rw[Lw (by rw[DJ];exact hFl)];rfl
  have hSB:∀R G,CJ 5 [i+5] (fF 1 e1 n V D++[R]) ((fF 1 e1 n V D).set i G++[R]):=λR G=>Vi (by omega) (by simp;omega);have hEx:=zcd (e:=e1) (D i);have hel:(D i).length<=k:=by rw[hD];exact MW k i
  have eT:(fT 5 n V D).set i (.ref (i+5) (V i+1) 0 ((D i).length+1))=fT 5 n (setV V i (V i+1)) (setD D i (D i++[k])):=by
   have:=z80 (o:=5) (V:=V) (D:=D) (l:=D i++[k]) hin
   rwa [Al] at this
  have eF:(fF 1 e1 n V D).set i ⟨1,V i+1,false,(D i).map e1++[.int .i64 k]⟩=fF 1 e1 n (setV V i (V i+1)) (setD D i (D i++[k])):=by
   have:=z81 (V:=V) (D:=D) (w:=1) (e:=e1) (l:=D i++[k]) (by simp) hin;rw[A7] at this;exact this
  have hsu:=hsu i hi;rw[<-hD] at hsu;rw[z86,<-hD];unfold rnB;have hni:¬n=i:=by omega
  simp only[gG] at gI;refine W_T ?_;(with_reducible repeat'(first|simp (disch:=omega) only[push_cast,↓zz,seval,xx,Ah,Au,AA,BZ,CY,Br,D3,D2,pR,pFi,pX,hdn,hre,hi,hgr,hot,hFl,hTl,gI,gR,sR,tI,sI,gR2,hEx,hni]|apply Aa|refine sp_ ?_ ?_<;>intro hc<;>push_cast at hc|refine HZ [i+5] ?_|omega|intro _))
  ·exact hSB _ _
  refine⟨(k+1,setV V i (V i+1)),F6 (gar:=[⟨5,1,true,[.agg [.int .i64 i,.int .i64 r.to_,CO r.guards,.int .i64 r.eat,Gj r.out]]⟩]) _ ?_ (Ay _) (WJ _ _ _ _ _) ?_,by simp only;omega,by simp only;omega⟩
  ·rw[z86,hsu,<-eT,<-eF]
   unfold rnB;rw[hdn];rfl
  ·have hRv:ltV (n+5) (Ft d.rules):=Cf _ _ pR
   have hXv:ltV (n+5) (AE x):=Cf _ _ pX;rw[Tr];exact⟨rfl,hXv,rfl,(show 4<n+5 by omega),rfl,(show 0<n+5 by omega),rfl,hRv,rfl,trivial,rfl,trivial,trivial⟩
 obtain rfl:k=d.rules.length:=by omega
 have cl1:∀G∈bgL d x (ruV d.rules n) (.ref 3 1 0 n) n ⟨0,2,false,[]⟩ ⟨1,1,true,List.replicate n .nilS⟩,ltL 5 G.xs:=Hs (by omega) (Cf _ _ (show A9 _=true from ED λ_=>rfl)) (show 3<5 by omega) trivial (Cm _ _ pN);refine Nk ((WL d x n V).trans (F6 (l0:=bgL d x (ruV d.rules n) (.ref 3 1 0 n) n ⟨0,2,false,[]⟩ ⟨1,1,true,List.replicate n .nilS⟩) [(1,AE x),(2,.ptr 4 1 0 0),(5,.ptr 0 1 0 0),(29,Ft d.rules),(30,.int .i64 d.rules.length),(31,.int .i64 d.rules.length)] rfl (Ay _) cl1 ?_)) ?_
 ·have hRv:ltV 5 (Ft d.rules):=Cf _ _ pR
  have hXv:ltV 5 (AE x):=Cf _ _ pX;exact⟨rfl,hXv,rfl,(show 4<5 by omega),rfl,(show 0<5 by omega),rfl,hRv,rfl,trivial,rfl,trivial,trivial⟩
 clear cl1 V;unfold bgL rnB;refine W_T ?_;(with_reducible repeat'(first|simp (disch:=omega) only[push_cast,↓zz,seval,pR,pFi,pX,hdn]|apply Aa|refine sp_ ?_ ?_<;>intro hc<;>push_cast at hc|omega|intro _));have cl2:∀G∈bgL d x (ruV d.rules n) (.ref 3 1 0 n) n ⟨0,2,false,[]⟩ ⟨1,1,true,List.replicate n .nilS⟩,ltL 5 G.xs:=Hs (by omega) (Cf _ _ (show A9 _=true from ED λ_=>rfl)) (show 3<5 by omega) trivial (Cm _ _ pN);refine Bv (Nk ((F6 (l0:=bgL d x (ruV d.rules n) (.ref 3 1 0 n) n ⟨0,2,false,[]⟩ ⟨1,1,true,List.replicate n .nilS⟩) (gar:=[]) [(1,AE x),(2,.ptr 4 1 0 0),(5,.ptr 0 1 0 0),(56,FS d.finals),(57,.int .i64 d.finals.length),(58,.int .i64 0)] ?_ (Ay _) cl2 ?_).trans (ZD (α:=Nat) (w:=1) (e:=e1) (n:=n) (t:=3) (by decide) (by simp[bgL]) rfl)) ?_)
 ·unfold bgL rnB
  rw[hdn];rfl
 ·have hFv:ltV 5 (FS d.finals):=Cf _ _ pFi
  have hXv:ltV 5 (AE x):=Cf _ _ pX;exact⟨rfl,hXv,rfl,(show 4<5 by omega),rfl,(show 0<5 by omega),rfl,hFv,rfl,trivial,rfl,trivial,trivial⟩
 clear cl2
 refine Jv (λ(q:Nat × (Nat->Nat))=>q.1<=d.finals.length) (λq=>d.finals.length-q.1)
  (λq=>Ef [(1,AE x),(2,.ptr 4 1 0 0),(5,.ptr 0 1 0 0),(56,FS d.finals),(57,.int .i64 d.finals.length),(58,.int .i64 q.1)]) (λq=>Abs.hl (bgF d x n q.1 q.2)) (0,λ_=>1) (by simp) Ent.refl ?_
 rintro⟨k,V⟩ hk;simp only at hk ⊢;rcases Aj k d.finals.length with hkl|hkl
 ·have hr:=hlf _ (Bo hkl)
  have hsu:=λi=>O0 (fr:=λ(r:Fq)=>r.from_) (l:=d.finals) (k:=k) (i:=i);generalize hre:nth d.finals k=r at *;have hgr:=Bw r.guards;have hot:=BV r.out;obtain⟨i,hi⟩:∃i:Nat,r.from_=i:=⟨r.from_.toNat,by omega⟩;have hin:i<n:=by omega
  obtain⟨D,hD⟩:∃D,D=HH (λ(r:Fq)=>r.from_) d.finals k:=⟨_,rfl⟩;have hFl:(fF 1 e1 n V D).length=n:=Ot;have hTl:(fT 5 n V D).length=n:=z7z;have gI:∀G,(fF 1 e1 n V D++[G]).getD i default=gG 1 e1 (V i) (D i):=λG=>by rw[z82 hFl hin];exact z5t hin
  have gR:∀G,(fF 1 e1 n V D++[G]).getD n default=G:=λG=>by rw[Lw hFl];rfl
  have sR:∀G G',setQ (fF 1 e1 n V D++[G]) n G'=some (fF 1 e1 n V D++[G']):=λG G'=>by rw[R9 _ _ hFl];rfl
  have tI:(fT 5 n V D).getD i .any=.ref (i+5) (V i) 0 (D i).length:=zgi hin;have sI:∀G G',setQ (fF 1 e1 n V D++[G]) i G'=some ((fF 1 e1 n V D).set i G'++[G]):=λG G'=>Tl (by omega);have gR2:∀G G',((fF 1 e1 n V D).set i G'++[G]).getD n default=G:=λG G'=>by rw[Lw (by rw[DJ];exact hFl)];rfl
  have hSB:∀R G,CJ 5 [i+5] (fF 1 e1 n V D++[R]) ((fF 1 e1 n V D).set i G++[R]):=λR G=>Vi (by omega) (by simp;omega);have hEx:=zcd (e:=e1) (D i);have hel:(D i).length<=k:=by rw[hD];exact MW k i
  have eT:(fT 5 n V D).set i (.ref (i+5) (V i+1) 0 ((D i).length+1))=fT 5 n (setV V i (V i+1)) (setD D i (D i++[k])):=by
   have:=z80 (o:=5) (V:=V) (D:=D) (l:=D i++[k]) hin
   rwa [Al] at this
  have eF:(fF 1 e1 n V D).set i ⟨1,V i+1,false,(D i).map e1++[.int .i64 k]⟩=fF 1 e1 n (setV V i (V i+1)) (setD D i (D i++[k])):=by
   have:=z81 (V:=V) (D:=D) (w:=1) (e:=e1) (l:=D i++[k]) (by simp) hin;rw[A7] at this;exact this
  have hsu:=hsu i hi;rw[<-hD] at hsu;rw[z87,<-hD];unfold rnB;have hni:¬n=i:=by omega
  simp only[gG] at gI;refine W_T ?_;(with_reducible repeat'(first|simp (disch:=omega) only[push_cast,↓zz,seval,xx,Ah,Au,AA,BZ,CY,Br,D3,D2,pR,pFi,pX,hdn,hre,hi,hgr,hot,hFl,hTl,gI,gR,sR,tI,sI,gR2,hEx,hni]|apply Aa|refine sp_ ?_ ?_<;>intro hc<;>push_cast at hc|refine HZ [i+5] ?_|omega|intro _))
  ·exact hSB _ _
  refine⟨(k+1,setV V i (V i+1)),F6 (gar:=[⟨3,1,true,[.agg [.int .i64 i,CO r.guards,Gj r.out]]⟩]) _ ?_ (Ay _) (WK _ _ _ _ _) ?_,by simp only;omega,by simp only;omega⟩
  ·rw[z87,hsu,<-eT,<-eF]
   unfold rnB;rw[hdn];rfl
  ·have hFv:ltV (n+5) (FS d.finals):=Cf _ _ pFi
   have hXv:ltV (n+5) (AE x):=Cf _ _ pX;rw[Ts];exact⟨rfl,hXv,rfl,(show 4<n+5 by omega),rfl,(show 0<n+5 by omega),rfl,hFv,rfl,trivial,rfl,trivial,trivial⟩
 obtain rfl:k=d.finals.length:=by omega
 have cl1:∀G∈bgL d x (ruV d.rules n) (fiV d.finals n) n ⟨0,2,false,[]⟩ ⟨0,2,false,[]⟩,ltL 5 G.xs:=Hs (by omega) (Cf _ _ (show A9 _=true from ED λ_=>rfl)) (Cf _ _ (show A9 _=true from ED λ_=>rfl)) trivial trivial;refine Nk ((WM d x n V).trans (F6 (l0:=bgL d x (ruV d.rules n) (fiV d.finals n) n ⟨0,2,false,[]⟩ ⟨0,2,false,[]⟩) [(1,AE x),(2,.ptr 4 1 0 0),(5,.ptr 0 1 0 0),(56,FS d.finals),(57,.int .i64 d.finals.length),(58,.int .i64 d.finals.length)] rfl (Ay _) cl1 ?_)) ?_
 ·have hFv:ltV 5 (FS d.finals):=Cf _ _ pFi
  have hXv:ltV 5 (AE x):=Cf _ _ pX;exact⟨rfl,hXv,rfl,(show 4<5 by omega),rfl,(show 0<5 by omega),rfl,hFv,rfl,trivial,rfl,trivial,trivial⟩
 clear cl1 V;unfold bgL rnB;have pB:∀on,A9 (spB n on)=true:=λon=>BL.2 λy hy=>by obtain⟨i,_,rfl⟩:=Ar.1 hy;rfl
 have pRU:A9 (fD 1 e1 n (ruI d.rules))=true:=ED λ_=>rfl;have pFI:A9 (fD 1 e1 n (fiI d.finals))=true:=ED λ_=>rfl;have pFIv:(fiV d.finals n).pure=true:=pFI;refine W_T ?_;(with_reducible repeat'(first|simp (disch:=omega) only[push_cast,↓zz,seval,pR,pFi,pX,hdn]|apply Aa|refine sp_ ?_ ?_<;>intro hc<;>push_cast at hc|omega|intro _))
 refine Bv (N9 (srcs:=[.grp 1,.grp 5,.virt 1,.grp 0,.grp 4]) (live:=[(1,AE x),(2,.ptr 4 1 0 0),(5,.ptr 3 1 0 0),(10,.ref 1 1 0 n),(86,.int .i64 n),(87,.int .i64 0)])
  (heap:=bgS d x n 1 (λ_=>false) []) ?_ ?_)
 ·unfold bgS srtL rnB ruV fiV gG
  (with_reducible repeat'(first|simp (disch:=omega) only[push_cast,↓zz,seval,pR,pFi,pX,hdn,pB,zgk,pRU,pFI,List.length_nil,Bh]|apply Aa|refine sp_ ?_ ?_<;>intro hc<;>push_cast at hc|omega|intro _))
 refine Jv (λ(q:Nat × Nat × (Nat->Bool) × List Nat)=>q.1<=n/\Hold (Oz d.rules n q.1 q.2.2.1 q.2.2.2)) (λq=>n-q.1)
  (λq=>Ef [(1,AE x),(2,.ptr 4 1 0 0),(5,.ptr 3 1 0 0),(10,.ref 1 1 0 n),(86,.int .i64 n),(87,.int .i64 q.1)]) (λq=>Abs.hl (bgS d x n q.2.1 q.2.2.1 q.2.2.2)) (0,1,(λ_=>false),[]) ⟨Ay _,⟨To _ _⟩⟩ Ent.refl ?_
 rintro⟨k,v,dn,ord⟩ ⟨hk,⟨hA⟩⟩;simp only at hk hA ⊢;have hXv:ltV 5 (AE x):=Cf _ _ pX;rcases Aj k n with hkn|hkn
 ·have hS:=z5x d x hn hrl hl2 hcy (fiV d.finals n) pFIv (Iz dn n) k v dn ord (Ac _) hkn (WH hA)
  rw[bgS,srtL];refine W_T ?_;(with_reducible repeat'(first|simp (disch:=omega) only[push_cast,↓zz,seval]|apply Aa|refine sp_ ?_ ?_<;>intro hc<;>push_cast at hc|omega|intro _));refine ZH (l0:=srtL d x n (fiV d.finals n) v dn ord) (extra:=[⟨1,1,true,[.ptr 0 1 0 0]⟩,⟨6,1,true,[CQ d]⟩]) rfl hS ?_ (Fb d x n _ pFIv _ _ _) ?_
  ·exact⟨(show 0<3 by omega),trivial,(show 1<3 by omega),trivial⟩
  rintro y H' ⟨v2,dn2,new,rfl,rfl,hpost⟩;refine⟨_,rfl,rfl,trivial,Fb d x n _ pFIv _ _ _,?_⟩;have hA2:=Tp hA hpost;(with_reducible repeat'(first|simp (disch:=omega) only[push_cast,↓zz,seval]|apply Aa|refine sp_ ?_ ?_<;>intro hc<;>push_cast at hc|omega|intro _));refine⟨(k+1,v2,dn2,ord++new),F6 (gar:=[]) _ (A3 _).symm (Ay _) (WN d x n _ _ _) ?_,⟨by omega,⟨hA2⟩⟩,by simp only;omega⟩;exact⟨rfl,hXv,rfl,(show 4<5 by omega),rfl,(show 3<5 by omega),rfl,(show 1<5 by omega),rfl,trivial,rfl,trivial,trivial⟩
 obtain rfl:k=n:=by omega
 have hT:=Tq hA
 refine Nk (WO d x k v dn ord) (N9 (srcs:=[.grp 0,.grp 3,.grp 4]) (live:=[(1,AE x),(2,.ptr 2 1 0 0),(5,.ptr 1 1 0 0),(86,.int .i64 k),(87,.int .i64 k)])
  (heap:=[⟨11,1,true,[rnB d x (ruV d.rules k) (fiV d.finals k) (.lst 1 (ord.map e1)) .nilS]⟩,⟨1,1,true,[.ptr 0 1 0 0]⟩,⟨6,1,true,[CQ d]⟩]) ?_ ?_)
 ·have pO:A9 (ord.map e1)=true:=Dg (λ_=>rfl) _
  unfold rnB ruV fiV;(with_reducible repeat'(first|simp (disch:=omega) only[push_cast,↓zz,seval,pR,pFi,pX,hdn,pRU,pFI,pO]|apply Aa|refine sp_ ?_ ?_<;>intro hc<;>push_cast at hc|omega|intro _))
 have pO:A9 (ord.map e1)=true:=Dg (λ_=>rfl) _;have hmx:(x.length+1) * k<=1025 * 1024:=BD (by omega) hn;obtain⟨m,hm⟩:∃m,m=(x.length+1) * k:=⟨_,rfl⟩;have hmi:((x.length:Int)+1) * (k:Int)=(m:Int):=by rw[hm];norm_cast
 rw[<-hm] at hmx;obtain⟨s0,hs0⟩:∃s0:Nat,d.start=s0:=⟨d.start.toNat,by omega⟩
 have hsm:s0<m:=by
  have:=Fg (a:=0) (k:=x.length) (t:=s0) (n:=k) (by omega) (Ay _);rw[hm];omega
 have hst:(List.replicate m (AV.bool false)).set s0 (.bool true)=lvB k m (setP (λ_ _=>false) 0 s0 true):=by
  have:=ZJ (n:=k) (m:=m) (a:=0) (t:=s0) (L:=λ_ _=>false) (v:=true) (by omega) (by omega);rw[DY,AO,<-z5y] at this;exact this
 have pLv:∀L,A9 (lvB k m L)=true:=λL=>IQ;unfold rnB;refine W_T ?_;(with_reducible repeat'(first|simp (disch:=omega) only[push_cast,↓zz,seval,pR,pFi,pX,hdn,hmi,hs0,hst,pLv,List.length_replicate]|apply Aa|refine sp_ ?_ ?_<;>intro hc<;>push_cast at hc|omega|intro _));have hstn:d.start.toNat=s0:=by omega
 refine Bv (B8 (λ(q:Nat × (Nat->Nat->Bool))=>q.1<=x.length+1/\Hold (Liv d x k ord q.1 0 q.2)) (λq=>x.length+1-q.1)
  (λq=>[(1,AE x),(2,.ptr 2 1 0 0),(5,.ptr 1 1 0 0),(12,.ptr 4 1 0 0)]) (λq=>bgV d x k m ord q.1 q.2) (λenv _=>[.grp 0,.grp 1,.grp 2,.grp 3,DD 1 (env 12)]) (0,setP (λ_ _=>false) 0 d.start.toNat true) ⟨Ay _,⟨z5z hs (CB hT)⟩⟩ ?_ ?_)
 ·unfold bgV rnB ruV fiV
  (with_reducible repeat'(first|simp (disch:=omega) only[push_cast,↓zz,seval,pR,pFi,pX,hdn,hs0,hstn,pLv,pRU,pFI,pO,Int.toNat_natCast]|apply Aa|refine sp_ ?_ ?_<;>intro hc<;>push_cast at hc|omega|intro _))
 rintro⟨at_,L⟩ ⟨ha,⟨hI⟩⟩;simp only at ha hI ⊢;have hol:=CB hT;rcases Aj at_ (x.length+1) with hal|hal
 ·have hB:=MV ord (by omega)
  have hit:=ZR ord (by omega);unfold bgV rnB ruV fiV;refine W_T ?_;(with_reducible repeat'(first|simp (disch:=omega) only[push_cast,↓zz,seval,pR,pFi,pX,hdn,pLv,pRU,pFI,pO]|apply Aa|refine sp_ ?_ ?_<;>intro hc<;>push_cast at hc|refine ee hB ?_|(refine cc hB ?_;(simp(disch:=omega)only[push_cast,↓zz,seval,pR,pFi,pX,hdn,pLv,pRU,pFI,pO]);(fail_if_success change False))|omega|intro _))
  refine OU (Ue (σ:=Nat->Nat->Bool) (λj L=>Hold (Liv d x k ord at_ j L)) [(1,AE x),(2,.ptr 2 1 0 0),(5,.ptr 1 1 0 0),(12,.ptr 4 1 0 0),(122,.fn 134 [.cptr (.lst 1 (ord.map e1))])] (λL=>bgV d x k m ord at_ L)
   [.grp 0,.grp 1,.grp 2,.grp 3,.grp 4] 5 L hit ?_ (λ_=>rfl) rfl ?_ rfl rfl (WI _) (ZQ _) (by simp) ⟨hI⟩ ?_ ?_)
  ·unfold bgV rnB ruV fiV
   (with_reducible repeat'(first|simp (disch:=omega) only[push_cast,↓zz,seval,pR,pFi,pX,hdn,pLv,pRU,pFI,pO]|apply Aa|refine sp_ ?_ ?_<;>intro hc<;>push_cast at hc|omega|intro _))
  ·(with_reducible repeat'(first|simp (disch:=omega) only[push_cast,↓zz,seval,pO]|apply Aa|refine sp_ ?_ ?_<;>intro hc<;>push_cast at hc|omega|intro _))
  ·rintro j row L hrow ⟨hI⟩
   obtain⟨hj,rfl⟩:=ZP hrow;clear hrow hit;have hjk:j<k:=by omega
   obtain⟨s,hse⟩:∃s,s=nth ord (k-1-j):=⟨_,rfl⟩;have hsn:s<k:=(hT.all _).1 (by rw[hse];exact Bo (by omega));rw[hol,<-hse,show e1 s=AV.int .i64 ((s:Nat):Int) from rfl];have hat:at_<=x.length:=by omega
   have hpm:=Fg hsn hat;rw[<-hm] at hpm;have aL:∀L,(lvB k m L).getD (at_ * k+s) .any=.bool (L at_ s):=λL=>z85 hsn hpm;have lL:∀L,(lvB k m L).length=m:=λL=>I0;have hmul:(at_:Int) * (k:Int)=((at_ * k:Nat):Int):=by norm_cast
   have hmulb:at_ * k<=1024 * 1024:=BD (by omega) hn
   have hset:∀L e t,at_+e<=x.length->t<k->(lvB k m L).set ((at_+e) * k+t) (.bool true)=lvB k m (setP L (at_+e) t true)/\(at_+e) * k+t<m:=λL e t he htk=>by
    have:=Fg htk he;rw[<-hm] at this;exact⟨ZJ htk this,this⟩
   generalize hpe:at_ * k+s=p at *;generalize at_ * k=an at *;have hpi:(an:Int)+(s:Int)=(p:Int):=by omega
   have aLv:=aL L;have aR:(fD 1 e1 k (ruI d.rules)).getD s .any=.lst 1 ((ruI d.rules s).map e1):=WE hsn;have aR2:(fD 1 e1 k (ruI d.rules))[s]? = some (.lst 1 ((ruI d.rules s).map e1)):=Ov hsn;have lRU:(fD 1 e1 k (ruI d.rules)).length=k:=Ou;have pRI:A9 ((ruI d.rules s).map e1)=true:=Dg (λ_=>rfl) _;refine W_T ?_;(with_reducible repeat'(first|simp (disch:=omega) only[push_cast,↓zz,seval]|apply Aa|refine sp_ ?_ ?_<;>intro hc<;>push_cast at hc|omega|intro _));unfold bgV rnB ruV fiV;refine W_T ?_;cases hLs:L at_ s with
   |false =>
    rw[hLs] at aLv;(with_reducible repeat'(first|simp (disch:=omega) only[push_cast,↓zz,seval,pR,pFi,pX,hdn,pLv,lL,pRU,pFI,pO,hmul,hpi,aLv,aR,aR2,lRU,pRI]|apply Aa|refine sp_ ?_ ?_<;>intro hc<;>push_cast at hc|omega|intro _));exact⟨L,B0 _ _,⟨z62 hI hT hjk hse hLs⟩⟩
   |true =>
    rw[hLs] at aLv;(with_reducible repeat'(first|simp (disch:=omega) only[push_cast,↓zz,seval,pR,pFi,pX,hdn,pLv,lL,pRU,pFI,pO,hmul,hpi,aLv,aR,aR2,lRU,pRI]|apply Aa|refine sp_ ?_ ?_<;>intro hc<;>push_cast at hc|omega|intro _))
    refine Bv (B8 (λ(q:Nat × (Nat->Nat->Bool))=>q.1<=(ruI d.rules s).length/\Hold (LivS d x k ord at_ j s q.1 q.2)) (λq=>(ruI d.rules s).length-q.1)
     (λq=>[(1,AE x),(2,.ptr 2 1 0 0),(5,.ptr 1 1 0 0),(12,.ptr 4 1 0 0),(144,.lst 1 ((ruI d.rules s).map e1)),(145,.int .i64 (ruI d.rules s).length),(146,.int .i64 q.1)]) (λq=>bgV d x k m ord at_ q.2) (λ_ _=>[]) (0,L) ⟨Ay _,⟨ZK hI hLs⟩⟩ ?_ ?_)
    ·unfold bgV rnB ruV fiV
     (with_reducible repeat'(first|simp (disch:=omega) only[push_cast,↓zz,seval,pR,pFi,pX,hdn,pLv,pRU,pFI,pO,pRI]|apply Aa|refine sp_ ?_ ?_<;>intro hc<;>push_cast at hc|omega|intro _))
    rintro⟨i0,L2⟩ ⟨hi0,⟨hI2⟩⟩;simp only at hi0 hI2 ⊢;unfold bgV rnB ruV fiV;have hIl:=PK d.rules s;rcases Aj i0 (ruI d.rules s).length with hil|hil
    ·obtain⟨i,hi⟩:∃i,i=nth (ruI d.rules s) i0:=⟨_,rfl⟩
     have him:i∈ruI d.rules s:=by rw[hi];exact Bo hil
     obtain⟨i1,i2⟩:=FY.1 him;have aI:((ruI d.rules s).map e1).getD i0 .any=.int .i64 i:=by rw[hi];simp[nth,List.getD,hil]
     have hr:=Bo i1;obtain⟨hg1,hg2⟩:=hgb _ hr;obtain⟨_,htt,_,_⟩:=hgo.r _ hr;have hF:=Lu d x (.lst 1 (fD 1 e1 k (ruI d.rules))) (.lst 1 (fD 1 e1 k (fiI d.finals))) (.lst 1 (ord.map e1)) (.lst 1 (lvB k m L2)) (nth d.rules i).guards at_ pRU pFI pO (pLv L2) (by omega) h32 hg1.2 hg1.1 (by omega);simp only[C0,hdn] at hF;have hyes:=λhg=>z60 hI2 hgo hT hjk hse hil hg;have hno:=λhg=>zci hI2 (k:=i0) hg;rw[<-hi] at hyes hno;have tL:List.take m (lvB k m L2)=lvB k m L2:=An (by rw[I0];exact Ac _);generalize hre:nth d.rules i=r at *;have hgr:=Bw r.guards;have hot:=BV r.out;obtain⟨e,he⟩:∃e:Nat,r.eat=e:=⟨r.eat.toNat,by omega⟩;obtain⟨t,htq⟩:∃t:Nat,r.to_=t:=⟨r.to_.toNat,by omega⟩;have het:r.eat.toNat=e:=by omega
     have htt2:r.to_.toNat=t:=by omega
     rw[het,htt2] at hyes;cases hb:goB x r.guards at_ with
     |false =>
      rw[hb] at hF;have hno:=hno hb;refine W_T ?_;(with_reducible repeat'(first|simp (disch:=omega) only[push_cast,↓zz,seval,pR,pFi,pX,hdn,pLv,lL,pRU,pFI,pO,pRI,aI,hre,hgr,hot,tL]|apply Aa|refine sp_ ?_ ?_<;>intro hc<;>push_cast at hc|refine ee hF ?_|(refine cc hF ?_;(simp(disch:=omega)only[push_cast,↓zz,seval,pR,pFi,pX,hdn,pLv,lL,pRU,pFI,pO,pRI,aI,hre,hgr,hot,tL]);(fail_if_success change False))|omega|intro _));exact⟨(i0+1,L2),⟨by simp,B0 _ _⟩,⟨by omega,⟨hno⟩⟩,by simp only;omega⟩
     |true =>
      rw[hb] at hF;have hyes:=hyes hb;have hle:=G9 hb;have hge:=(hgo.r _ hr).2.2.1;rw[het] at hge;obtain⟨hs1,hs2⟩:=hset L2 e t (by omega) (by omega);have hae:(at_:Int)+(e:Int)=((at_+e:Nat):Int):=by norm_cast
      have hmul2:((at_+e:Nat):Int) * (k:Int)=(((at_+e) * k:Nat):Int):=by norm_cast
      have hmulb2:(at_+e) * k<=1024 * 1024:=BD (by omega) hn;generalize hpe2:(at_+e) * k+t=p2 at *;generalize (at_+e) * k=an2 at *;have hpi2:(an2:Int)+(t:Int)=(p2:Int):=by omega
      generalize hbe:at_+e=b2 at *;refine W_T ?_;(with_reducible repeat'(first|simp (disch:=omega) only[push_cast,↓zz,seval,pR,pFi,pX,hdn,pLv,lL,pRU,pFI,pO,pRI,aI,hre,hgr,hot,tL,he,htq,hae,hmul2,hpi2,hs1]|apply Aa|refine sp_ ?_ ?_<;>intro hc<;>push_cast at hc|refine ee hF ?_|(refine cc hF ?_;(simp(disch:=omega)only[push_cast,↓zz,seval,pR,pFi,pX,hdn,pLv,lL,pRU,pFI,pO,pRI,aI,hre,hgr,hot,tL,he,htq,hae,hmul2,hpi2,hs1]);(fail_if_success change False))|omega|intro _));exact⟨(i0+1,setP L2 b2 t true),⟨by simp,B0 _ _⟩,⟨by omega,⟨hyes⟩⟩,by simp only;omega⟩
    ·obtain rfl:i0=(ruI d.rules s).length:=by omega
     have hend:=z61 hI2 hT hjk hse;refine W_T ?_;(with_reducible repeat'(first|simp (disch:=omega) only[push_cast,↓zz,seval,pR,pFi,pX,hdn,pLv,lL,pRU,pFI,pO,pRI]|apply Aa|refine sp_ ?_ ?_<;>intro hc<;>push_cast at hc|omega|intro _));exact⟨L2,B0 _ _,⟨hend⟩⟩
  ·rintro L ⟨hI⟩
   rw[MU,hol] at hI;have hI2:=zcj hI hT;unfold bgV rnB ruV fiV;(with_reducible repeat'(first|simp (disch:=omega) only[push_cast,↓zz,seval,pR,pFi,pX,hdn,pLv,pRU,pFI,pO]|apply Aa|refine sp_ ?_ ?_<;>intro hc<;>push_cast at hc|omega|intro _));refine⟨(at_+1,L),⟨B0 _ _,by simp⟩,⟨by omega,⟨hI2⟩⟩,by simp only;omega⟩
 ·obtain rfl:at_=x.length+1:=by omega
  have hE:=zck hI;have tL:∀L,List.take m (lvB k m L)=lvB k m L:=λL=>An (by rw[I0];exact Ac _);unfold bgV rnB ruV fiV;refine W_T ?_;(with_reducible repeat'(first|simp (disch:=omega) only[push_cast,↓zz,seval,pR,pFi,pX,hdn,pLv,pRU,pFI,pO]|apply Aa|refine sp_ ?_ ?_<;>intro hc<;>push_cast at hc|omega|intro _));refine⟨_,_,z69 4 [0,3] (z:=C0 d x (ruV d.rules k) (fiV d.finals k) (.lst 1 (ord.map e1)) (.lst 1 (lvB k m L))) ?_ ?_ ?_,rfl,ord,L,?_,hT,hE⟩
  ·(simp(disch:=omega)only[push_cast,↓zz,seval,pR,pFi,pX,pLv,pRU,pFI,pO,I0,tL])
  ·(simp(disch:=omega)only[push_cast,↓zz,seval,pR,pFi,pX,pLv,pRU,pFI,pO,I0,tL])
   have e:(k:Int)=d.states:=hdn.symm;rw[e];rfl
  ·simp[AV.pure,A9,pR,pFi,pX,pLv,pRU,pFI,pO,ruV,fiV]
  ·rw[hm];rfl
set_option maxRecDepth 100000
def DC:List Int->List Int->Nat
 |[],_=>0
 |_,[]=>0
 |a::l,b::m=>if a=b then DC l m+1 else 0
def cmpL:List Int->List Int->Int
 |[],[]=>0
 |[],_::_=>-1
 |_::_,[]=>1
 |a::l,b::m=>if a<b then -1 else if b<a then 1 else cmpL l m
theorem Vl:∀a b:List Int,DC a b<=a.length/\DC a b<=b.length
 |[],_=>by simp[DC]
 |_::_,[]=>by simp[DC]
 |a::l,b::m=>by
  have:=Vl l m;simp only[DC];split<;>simp<;>omega
theorem WQ{a b:List Int}{k:Nat}(h1:k<a.length)(h2:k<b.length)(he:nth a k=nth b k):DC (a.drop k) (b.drop k)=DC (a.drop (k+1)) (b.drop (k+1))+1:=by
 rw[drop_at h1,drop_at h2,DC,Af he]
theorem WR{a b:List Int}{k:Nat}(h:¬(k<a.length/\k<b.length/\nth a k=nth b k)):DC (a.drop k) (b.drop k)=0:=by
 by_cases h1:k<a.length
 ·by_cases h2:k<b.length
  ·rw[drop_at h1,drop_at h2,DC,Ae λe=>h ⟨h1,h2,e⟩]
  ·rw[Aw (l:=b) (by omega)]
   cases a.drop k<;>rfl
 ·rw[Aw (l:=a) (by omega)];rfl
theorem RI:∀a b:List Int,cmpL a b=if DC a b=a.length/\DC a b=b.length then 0 else if DC a b=a.length then -1 else if DC a b=b.length then 1 else if nth a (DC a b)<nth b (DC a b) then -1 else if nth b (DC a b)<nth a (DC a b) then 1 else 0
 |[],[]=>rfl
 |[],_::_=>by simp[cmpL,DC]
 |_::_,[]=>by simp[cmpL,DC]
 |a::l,b::m=>by
  by_cases e:a=b
  ·subst e
   have h1:DC (a::l) (a::m)=DC l m+1:=by rw[DC,Af rfl]
   have h2:cmpL (a::l) (a::m)=cmpL l m:=by rw[cmpL,Ae (Int.lt_irrefl _),Ae (Int.lt_irrefl _)]
   rw[h1,h2,RI l m];simp only[List.length_cons,Nat.add_right_cancel_iff,z3b];rfl
  ·have h1:DC (a::l) (b::m)=0:=by rw[DC,Ae e]
   have n1:¬(0=l.length+1):=by omega
   have n2:¬(0=m.length+1):=by omega
   rw[h1,cmpL];rw[List.length_cons,List.length_cons,Ae (show ¬(0=l.length+1/\0=m.length+1) from λh=>n1 h.1),Ae n1,Ae n2];by_cases h2:a<b
   ·rw[Af h2,Af (show nth (a::l) 0<nth (b::m) 0 from h2)]
   ·have h3:b<a:=by omega
    rw[Ae h2,Ae (show ¬nth (a::l) 0<nth (b::m) 0 from h2),Af h3,Af (show nth (b::m) 0<nth (a::l) 0 from h3)]
theorem WS(a b:List Int)(hl:a.length<=1000000000):PC Tryz.prog 114 [AE a,AE b] (.int .i64 (DC a b)):=by
 have pa:A9 (a.map (AV.int .i32))=true:=Bt .i32 _;have pb:A9 (b.map (AV.int .i32))=true:=Bt .i32 _;refine Ct QS ?_;unfold KI;(with_reducible repeat'(first|simp (disch:=omega) only[push_cast,↓zz,seval]|apply Aa|refine sp_ ?_ ?_<;>intro hc<;>push_cast at hc|omega|intro _))
 refine Bv (B8 (λ(k:Nat)=>k<=a.length/\DC a b=k+DC (a.drop k) (b.drop k)) (λk=>a.length-k)
  (λk=>[(0,AE a),(1,AE b),(5,.int .i64 k)]) (λs=>[]) (λenv _=>[]) 0 (by simp) ?_ ?_)
 ·(with_reducible repeat'(first|simp (disch:=omega) only[push_cast,↓zz,seval,pa,pb]|apply Aa|refine sp_ ?_ ?_<;>intro hc<;>push_cast at hc|omega|intro _))
 rintro k ⟨hk,hr⟩;refine W_T ?_;by_cases h:k<a.length/\k<b.length/\nth a k=nth b k
 ·obtain⟨h1,h2,h3⟩:=h
  have hs:=WQ h1 h2 h3;(with_reducible repeat'(first|simp (disch:=omega) only[push_cast,↓zz,seval,pa,pb,h3]|apply Aa|refine sp_ ?_ ?_<;>intro hc<;>push_cast at hc|omega|intro _))
  all_goals
   refine⟨k+1,?_⟩;(with_reducible repeat'(first|simp (disch:=omega) only[push_cast,↓zz,seval,pa,pb]|apply Aa|refine sp_ ?_ ?_<;>intro hc<;>push_cast at hc|omega|intro _))
 ·have hs:=WR h
  rw[hs] at hr;by_cases h1:k<a.length
  ·by_cases h2:k<b.length
   ·have h3:¬nth a k=nth b k:=λe=>h ⟨h1,h2,e⟩
    (with_reducible repeat'(first|simp (disch:=omega) only[push_cast,↓zz,seval,pa,pb,h3]|apply Aa|refine sp_ ?_ ?_<;>intro hc<;>push_cast at hc|omega|intro _))
    all_goals first|omega|trace_state
   ·(with_reducible repeat'(first|simp (disch:=omega) only[push_cast,↓zz,seval,pa,pb]|apply Aa|refine sp_ ?_ ?_<;>intro hc<;>push_cast at hc|omega|intro _))
    all_goals first|omega|trace_state
  ·(with_reducible repeat'(first|simp (disch:=omega) only[push_cast,↓zz,seval,pa,pb]|apply Aa|refine sp_ ?_ ?_<;>intro hc<;>push_cast at hc|omega|intro _))
   all_goals first|omega|trace_state
theorem RJ(x:Int):PC Tryz.prog 144 [.int .i32 x] (.bool false):=by
 refine Ct Le ?_;unfold HI;(with_reducible repeat'(first|simp (disch:=omega) only[push_cast,↓zz,seval]|apply Aa|refine sp_ ?_ ?_<;>intro hc<;>push_cast at hc|omega|intro _))
 all_goals trace_state
theorem z6a(x y:Int):PC Tryz.prog 115 [.int .i32 x,.int .i32 y] (.int .i64 (if x<y then -1 else if y<x then 1 else 0)):=by
 have hx:=RJ x;have hy:=RJ y;refine Ct JN ?_;unfold GE;by_cases h1:x<y
 ·rw[Af h1]
  (with_reducible repeat'(first|simp (disch:=omega) only[push_cast,↓zz,seval,h1]|apply Aa|refine sp_ ?_ ?_<;>intro hc<;>push_cast at hc|refine ee hx ?_|refine ee hy ?_|((first|refine cc hx ?_|refine cc hy ?_);(simp(disch:=omega)only[push_cast,↓zz,seval,h1]);(fail_if_success change False))|omega|intro _))
 ·rw[Ae h1]
  by_cases h2:y<x
  ·rw[Af h2]
   (with_reducible repeat'(first|simp (disch:=omega) only[push_cast,↓zz,seval,h1,h2]|apply Aa|refine sp_ ?_ ?_<;>intro hc<;>push_cast at hc|refine ee hx ?_|refine ee hy ?_|((first|refine cc hx ?_|refine cc hy ?_);(simp(disch:=omega)only[push_cast,↓zz,seval,h1,h2]);(fail_if_success change False))|omega|intro _))
  ·rw[Ae h2]
   (with_reducible repeat'(first|simp (disch:=omega) only[push_cast,↓zz,seval,h1,h2]|apply Aa|refine sp_ ?_ ?_<;>intro hc<;>push_cast at hc|refine ee hx ?_|refine ee hy ?_|((first|refine cc hx ?_|refine cc hy ?_);(simp(disch:=omega)only[push_cast,↓zz,seval,h1,h2]);(fail_if_success change False))|omega|intro _))
   all_goals trace_state
theorem Lc(a b:List Int)(ha:a.length<=1000000000)(hb:b.length<=1000000000):PC Tryz.prog 77 [AE a,AE b] (.int .i64 (cmpL a b)):=by
 have pa:A9 (a.map (AV.int .i32))=true:=Bt .i32 _;have pb:A9 (b.map (AV.int .i32))=true:=Bt .i32 _;have hF:=WS a b ha;have hfl:=Vl a b;have hC:=z6a (nth a (DC a b)) (nth b (DC a b));rw[RI];generalize hf:DC a b=f at *;refine Ct Nm ?_;unfold IY;by_cases h1:f=a.length
 ·by_cases h2:f=b.length
  ·rw[Af ⟨h1,h2⟩]
   (with_reducible repeat'(first|simp (disch:=omega) only[push_cast,↓zz,seval,pa,pb]|apply Aa|refine sp_ ?_ ?_<;>intro hc<;>push_cast at hc|refine ee hF ?_|(refine cc hF ?_;(simp(disch:=omega)only[push_cast,↓zz,seval,pa,pb]);(fail_if_success change False))|omega|intro _))
   all_goals first|omega|trace_state
  ·rw[Ae (λh=>h2 h.2),Af h1]
   (with_reducible repeat'(first|simp (disch:=omega) only[push_cast,↓zz,seval,pa,pb]|apply Aa|refine sp_ ?_ ?_<;>intro hc<;>push_cast at hc|refine ee hF ?_|(refine cc hF ?_;(simp(disch:=omega)only[push_cast,↓zz,seval,pa,pb]);(fail_if_success change False))|omega|intro _))
   all_goals first|omega|trace_state
 ·rw[Ae (λh=>h1 h.1),Ae h1]
  by_cases h2:f=b.length
  ·rw[Af h2]
   (with_reducible repeat'(first|simp (disch:=omega) only[push_cast,↓zz,seval,pa,pb]|apply Aa|refine sp_ ?_ ?_<;>intro hc<;>push_cast at hc|refine ee hF ?_|(refine cc hF ?_;(simp(disch:=omega)only[push_cast,↓zz,seval,pa,pb]);(fail_if_success change False))|omega|intro _))
   all_goals first|omega|trace_state
  ·rw[Ae h2]
   (with_reducible repeat'(first|simp (disch:=omega) only[push_cast,↓zz,seval,pa,pb]|apply Aa|refine sp_ ?_ ?_<;>intro hc<;>push_cast at hc|refine ee hF ?_|refine ee hC ?_|((first|refine cc hF ?_|refine cc hC ?_);(simp(disch:=omega)only[push_cast,↓zz,seval,pa,pb]);(fail_if_success change False))|omega|intro _))
   all_goals first|omega|trace_state
set_option maxRecDepth 100000
theorem Vm:∀a b:List Int,cmpL a b=0↔a=b
 |[],[]=>by simp[cmpL]
 |[],_::_=>by simp[cmpL]
 |_::_,[]=>by simp[cmpL]
 |a::l,b::m=>by
  simp only[cmpL,E5];by_cases h1:a<b
  ·rw[Af h1];constructor
   ·intro h;cases h
   ·intro h;omega
  ·rw[Ae h1]
   by_cases h2:b<a
   ·rw[Af h2];constructor
    ·intro h;cases h
    ·intro h;omega
   ·rw[Ae h2,Vm l m]
    have:a=b:=by omega
    simp[this]
theorem ZT:∀a b:List Int,cmpL a b<0↔ltW a b=true
 |[],[]=>by simp[cmpL,ltW]
 |[],_::_=>by simp[cmpL,ltW]
 |_::_,[]=>by simp[cmpL,ltW]
 |a::l,b::m=>by
  simp only[cmpL,ltW];by_cases h1:a<b
  ·rw[Af h1,Af h1];simp
  ·rw[Ae h1,Ae h1]
   by_cases h2:b<a
   ·rw[Af h2,Af h2];simp
   ·rw[Ae h2,Ae h2];exact ZT l m
theorem ZU(a b:List Int)(ha:a.length<=1000000000)(hb:b.length<=1000000000):PC Tryz.prog 109 [AE a,AE b] (.bool (decide (a=b))):=by
 have hC:=Lc a b ha hb;have hz:decide (cmpL a b=0)=decide (a=b):=Cv.2 (Vm a b);refine Ct Pd ?_;unfold JM;rw[<-hz];generalize cmpL a b=c at *;(with_reducible repeat'(first|simp (disch:=omega) only[push_cast,↓zz,seval]|apply Aa|refine sp_ ?_ ?_<;>intro hc<;>push_cast at hc|refine ee hC ?_|(refine cc hC ?_;(simp(disch:=omega)only[push_cast,↓zz,seval]);(fail_if_success change False))|omega|intro _))
 all_goals trace_state
def Cg(l:List (List Int)):Nat->List (List Int)
 |0=>[]
 |k+1=>if 0<k/\nth l k=nth l (k-1) then Cg l k else Cg l k++[nth l k]
theorem MX{l:List (List Int)}:∀(k:Nat),k<=l.length->∀w,w∈Cg l k↔w∈l.take k
 |0,_,w=>by simp[Cg]
 |k+1,hk,w=>by
  have ih:=MX (l:=l) k (by omega) w;rw[take_at (by omega),Cg];split
  ·rename_i h
   rw[ih,Ap,Aq];constructor
   ·exact .inl
   ·rintro (h1|rfl)
    ·exact h1
    ·rw[h.2]
     have e:l.take k=l.take (k-1)++[nth l (k-1)]:=by
      have:=take_at (l:=l) (i:=k-1) (by omega)
      rwa [show k-1+1=k by omega] at this
     rw[e];simp
  ·rw[Ap,ih,Ap]
theorem RL{l:List (List Int)}{k:Nat}(hk:k<=l.length){w:List Int}(h:w∈l.take k):∃i,i<k/\w=nth l i:=by
 obtain⟨i,hi,rfl⟩:=AZ h;rw[D5] at hi;refine⟨i,by omega,?_⟩;rw[FR (by omega),List.getElem_take]
theorem O4{l:List (List Int)}(hs:l.Pairwise λa b=>ltW b a=false):∀(k:Nat),k<=l.length->Lh (Cg l k)
 |0,_=>List.Pairwise.nil
 |k+1,hk=>by
  have ih:=O4 hs k (by omega)
  have hle:∀i j,i<j->j<l.length->ltW (nth l j) (nth l i)=false:=λi j hij hj=>by
   rw[FR hj,FR (by omega)];exact Dy.1 hs i j (by omega) hj hij
  rw[Cg];split
  ·exact ih
  ·rename_i hne
   refine Dq.2 ⟨ih,DK _ _,λa ha b hb=>?_⟩;rw[Aq.1 hb];obtain⟨i,hi,rfl⟩:=RL (by omega) ((MX k (by omega) a).1 ha);cases hlt:ltW (nth l i) (nth l k) with
   |true=>rfl
   |false =>
    exfalso;have e:=Iv _ _ hlt (hle i k hi (by omega));refine hne ⟨by omega,?_⟩;by_cases h1:i=k-1
    ·rw[<-e,h1]
    ·have h2:=hle i (k-1) (by omega) (by omega)
     have h3:=hle (k-1) k (by omega) (by omega);rw[<-e] at h3 ⊢;exact Iv _ _ h3 h2
theorem RN(l:List (List Int)):∀k,(Cg l k).length<=k
 |0=>by simp[Cg]
 |k+1=>by
  have:=RN l k;rw[Cg];split
  ·omega
  ·simp;omega
theorem WT{l m:List (List Int)}(h:m.Pairwise λa b=>ltW b a=false)(hp:m.Perm l):Iw l=Cg m m.length:=Ve (O4 h _ (Ac _)) λw=>by
 rw[MX _ (Ac _),AB];exact hp.mem_iff
theorem ZV{α:Type}[Inhabited α](a b:List α)(k:Nat):nth (a++b) (a.length+k)=nth b k:=by
 simp[nth,List.getD,A5]
theorem Vn{α:Type}[Inhabited α](l:List α)(i k:Nat):nth (l.drop i) k=nth l (i+k):=by
 simp[nth,List.getD]
theorem set_mid{α:Type}(C J D:List α)(h v:α):(C++(h::J)++D).set C.length v=(C++[v])++J++D:=by simp
theorem Kc(ex:Bool)(l:List (List Int))(hl:l.length<=1000000000)(hw:∀w∈l,w.length<=1000000000):B4 Tryz.prog 108 [.ref 0 1 0 l.length,.fn 109 []] (Abs.hl [⟨1,1,ex,l.map AE⟩]) λy H' =>
 y=.ref 0 1 0 (Cg l l.length).length/\∃z,A9 z=true/\H'=Abs.hl [⟨1,1,ex,(Cg l l.length).map AE++z⟩]:=by
 have pL:=Cb l;have hc1:=RN l l.length;refine Ug (b:=1) FG rfl ?_;unfold Ep;by_cases h2:l.length<2
 ·have hce:Cg l l.length=l:=by
   match l,h2 with
   |[],_=>rfl
   |[a],_=>rfl
  (with_reducible repeat'(first|simp (disch:=omega) only[push_cast,↓zz,seval,pL]|apply Aa|refine sp_ ?_ ?_<;>intro hc<;>push_cast at hc|omega|intro _))
  all_goals
   refine Q6 [] (.ref 0 1 0 (Cg l l.length).length) [⟨1,1,ex,(Cg l l.length).map AE++[]⟩] ?_ ⟨rfl,[],rfl,rfl⟩;rw[hce,A3];(with_reducible repeat'(first|simp (disch:=omega) only[push_cast,↓zz,seval,pL]|apply Aa|refine sp_ ?_ ?_<;>intro hc<;>push_cast at hc|omega|intro _))
 ·have hcl:∀i,(∀j,1<=j->j<i->nth l j≠nth l (j-1))->i<=l.length->Cg l i=l.take i:=λi=>by
   induction i with
   |zero=>intro _ _;simp[Cg]
   |succ i ih =>
    intro hj hi;rw[Cg,ih (λj h1 h2=>hj j h1 (by omega)) (by omega),take_at (by omega)];by_cases h0:0<i
    ·rw[Ae λh=>hj i (by omega) (by omega) h.2]
    ·rw[Ae λh=>h0 h.1]
  have hfn:∀a∈l,∀b∈l,PC Tryz.prog 109 [AE a,AE b] (.bool (decide (a=b))):=λa ha b hb=>ZU a b (hw a ha) (hw b hb);(with_reducible repeat'(first|simp (disch:=omega) only[push_cast,↓zz,seval,pL]|apply Aa|refine sp_ ?_ ?_<;>intro hc<;>push_cast at hc|omega|intro _))
  refine Bv (B8 (λ(i:Nat)=>(1<=i/\i<=l.length)/\Hold (∀j,1<=j->j<i->nth l j≠nth l (j-1))) (λi=>l.length-i)
   (λi=>[(0,.ref 0 1 0 l.length),(1,.fn 109 []),(5,.int .i64 i)]) (λ_=>[⟨1,1,ex,l.map AE⟩]) (λ_ _=>[]) 1 ⟨by omega,⟨λj h1 h2=>by omega⟩⟩ ?_ ?_)
  ·(with_reducible repeat'(first|simp (disch:=omega) only[push_cast,↓zz,seval,pL]|apply Aa|refine sp_ ?_ ?_<;>intro hc<;>push_cast at hc|omega|intro _))
  rintro i ⟨⟨hi1,hi⟩,⟨hno⟩⟩;rcases Aj i l.length with hil|hil
  ·have m1:nth l i∈l:=Bo hil
   have m2:nth l (i-1)∈l:=Bo (by omega);have hF:=hfn _ m1 _ m2;have a1:((l.map AE).getD i .any)=AE (nth l i):=by simp[nth,List.getD,hil]
   have a2:((l.map AE).getD (i-1) .any)=AE (nth l (i-1)):=by
    have:i-1<l.length:=by omega
    simp[nth,List.getD,this]
   have hci:=hcl i hno (by omega);have hi0:((i:Int)-1).toNat=i-1:=by omega
   generalize hu:nth l i=u at *;generalize hv:nth l (i-1)=v at *;have pu:A9 (u.map (AV.int .i32))=true:=Bt .i32 _;have pv:A9 (v.map (AV.int .i32))=true:=Bt .i32 _;refine W_T ?_;by_cases he:u=v
   ·rw[AQ he] at hF
    (with_reducible repeat'(first|simp (disch:=omega) only[push_cast,↓zz,seval,pL,hu,hv,pu,pv,hi0,a1,a2]|apply Aa|refine sp_ ?_ ?_<;>intro hc<;>push_cast at hc|refine ee hF ?_|(refine cc hF ?_;(simp(disch:=omega)only[push_cast,↓zz,seval,pL,hu,hv,pu,pv,hi0,a1,a2]);(fail_if_success change False))|omega|intro _));have hst:Cg l (i+1)=l.take i:=by rw[Cg,Af ⟨by omega,by rw[hu,hv];exact he⟩,hci]
    have hstep:∀k,Cg l (i+k+1)=if nth l (i+k)=nth l (i+k-1) then Cg l (i+k) else Cg l (i+k)++[nth l (i+k)]:=λk=>by
     rw[Cg];by_cases h:nth l (i+k)=nth l (i+k-1)
     ·rw[Af ⟨by omega,h⟩,Af h]
     ·rw[Ae λhh=>h hh.2,Ae h]
    clear hno hcl hF a1 a2 pu pv
    refine Bv (B8 (λ(q:Nat × List (List Int))=>(1<=q.1/\i+q.1<=l.length)/\(Cg l (i+q.1)).length+q.2.length=i+q.1-1) (λq=>l.length-q.1)
     (λq=>[(0,.ref 0 1 0 l.length),(1,.fn 109 []),(5,.int .i64 (Cg l (i+q.1)).length),(6,.ref 0 1 i (l.length-i)),(7,.int .i64 q.1)])
     (λq=>[⟨1,1,ex,(Cg l (i+q.1)++q.2++l.drop (i+q.1-1)).map AE⟩]) (λ_ _=>[]) (1,[]) ⟨by omega,by simp only[hst];simp;omega⟩ ?_ ?_)
    ·have hX:Cg l (i+1)++[]++l.drop (i+1-1)=l:=by rw[hst,A3,Nat.add_sub_cancel,Cz]
     have hCl:(Cg l (i+1)).length=i:=by rw[hst,D5];omega
     simp only[hX,hCl];(with_reducible repeat'(first|simp (disch:=omega) only[push_cast,↓zz,seval,pL]|apply Aa|refine sp_ ?_ ?_<;>intro hc<;>push_cast at hc|omega|intro _))
    rintro⟨k,J⟩ ⟨⟨hk1,hk⟩,hJ⟩;simp only at hk1 hk hJ ⊢;have hXl:(Cg l (i+k)++J++l.drop (i+k-1)).length=l.length:=by simp only[Al,List.length_drop];omega
    have hCJ:(Cg l (i+k)++J).length=i+k-1:=by rw[Al];exact hJ
    rcases Aj (i+k) l.length with hkl|hkl
    ·have n1:nth (Cg l (i+k)++J++l.drop (i+k-1)) (i+k)=nth l (i+k):=by
      have:=ZV (Cg l (i+k)++J) (l.drop (i+k-1)) 1;rw[hCJ,Vn] at this
      rwa [show i+k-1+1=i+k by omega] at this
     have n2:nth (Cg l (i+k)++J++l.drop (i+k-1)) (i+k-1)=nth l (i+k-1):=by
      have:=ZV (Cg l (i+k)++J) (l.drop (i+k-1)) 0;rw[hCJ,Vn,Nat.add_zero] at this;exact this
     have m1:nth l (i+k)∈l:=Bo hkl;have m2:nth l (i+k-1)∈l:=Bo (by omega);have hF:=hfn _ m1 _ m2;have hs:=hstep k
     have hdr:l.drop (i+k-1)=nth l (i+k-1)::l.drop (i+k):=by
      have:=drop_at (l:=l) (i:=i+k-1) (by omega)
      rwa [show i+k-1+1=i+k by omega] at this
     obtain⟨h,J',hJ'⟩:∃h J',J++[nth l (i+k-1)]=h::J':=by
      cases J with
      |nil=>exact⟨_,[],rfl⟩
      |cons a J=>exact⟨a,J++[_],rfl⟩
     have hJl:J'.length=J.length:=by have:=Ec List.length hJ';simp at this;omega
     have hXe:Cg l (i+k)++J++l.drop (i+k-1)=Cg l (i+k)++(h::J')++l.drop (i+k):=by
      rw[hdr,<-hJ'];simp
     have hset:(Cg l (i+k)++J++l.drop (i+k-1)).set (Cg l (i+k)).length (nth l (i+k))=Cg l (i+k)++[nth l (i+k)]++J'++l.drop (i+k):=by rw[hXe,set_mid]
     have hsame:Cg l (i+k)++J++l.drop (i+k-1)=Cg l (i+k)++(J++[nth l (i+k-1)])++l.drop (i+k):=by rw[hdr];simp
     have pX:=Cb (Cg l (i+k)++J++l.drop (i+k-1));have hmset:((Cg l (i+k)++J++l.drop (i+k-1)).map AE).set (Cg l (i+k)).length (AE (nth l (i+k)))=(Cg l (i+k)++[nth l (i+k)]++J'++l.drop (i+k)).map AE:=by rw[<-List.map_set,hset]
     have hidx:(i:Int)+k=((i+k:Nat):Int):=by omega
     have e1':i+(k-1)=i+k-1:=by omega
     have hk0:((k:Int)-1).toNat=k-1:=by omega
     have hcl2:(Cg l (i+k)).length<l.length:=by omega
     generalize hX:Cg l (i+k)++J++l.drop (i+k-1)=X at *;generalize hu2:nth l (i+k)=u2 at *;generalize hv2:nth l (i+k-1)=v2 at *;have pu:A9 (u2.map (AV.int .i32))=true:=Bt .i32 _;have pv:A9 (v2.map (AV.int .i32))=true:=Bt .i32 _;refine W_T ?_;by_cases he2:u2=v2
     ·rw[AQ he2] at hF
      rw[Af he2] at hs;(with_reducible repeat'(first|simp (disch:=omega) only[push_cast,↓zz,seval,pX,hXl,n1,n2,pu,pv,hk0,e1']|apply Aa|refine sp_ ?_ ?_<;>intro hc<;>push_cast at hc|refine ee hF ?_|(refine cc hF ?_;(simp(disch:=omega)only[push_cast,↓zz,seval,pX,hXl,n1,n2,pu,pv,hk0,e1']);(fail_if_success change False))|omega|intro _))
      all_goals
       refine⟨(k+1,J++[v2]),?_⟩;have e2:i+(k+1)-1=i+k:=by omega
       have hsm:(Cg l (i+k)).map AE++(J.map AE++AE v2::(l.drop (i+k)).map AE)=X.map AE:=by rw[hsame];simp
       simp only[<-AY,hs,e2];(with_reducible repeat'(first|simp (disch:=omega) only[push_cast,↓zz,seval,pX,hsm]|apply Aa|refine sp_ ?_ ?_<;>intro hc<;>push_cast at hc|omega|intro _))
     ·rw[Bu he2] at hF
      rw[Ae he2] at hs;have pX1:=Cb (Cg l (i+k)++[u2]++J'++l.drop (i+k));(with_reducible repeat'(first|simp (disch:=omega) only[push_cast,↓zz,seval,pX,hXl,n1,n2,pu,pv,hk0,e1',hmset]|apply Aa|refine sp_ ?_ ?_<;>intro hc<;>push_cast at hc|refine ee hF ?_|(refine cc hF ?_;(simp(disch:=omega)only[push_cast,↓zz,seval,pX,hXl,n1,n2,pu,pv,hk0,e1',hmset]);(fail_if_success change False))|omega|intro _))
      all_goals
       refine⟨(k+1,J'),?_⟩;have e2:i+(k+1)-1=i+k:=by omega
       simp only[<-AY,hs,e2];(with_reducible repeat'(first|simp (disch:=omega) only[push_cast,↓zz,seval,pX1,Al,List.length_cons,List.length_nil]|apply Aa|refine sp_ ?_ ?_<;>intro hc<;>push_cast at hc|omega|intro _))
    ·have hkn:i+k=l.length:=by omega
     rw[hkn] at hXl hCJ hJ ⊢;have hm:(Cg l l.length++J++l.drop (l.length-1)).map AE=(Cg l l.length).map AE++(J++l.drop (l.length-1)).map AE:=by rw[Ax,A7]
     have hmt:((Cg l l.length++J++l.drop (l.length-1)).map AE).take (Cg l l.length).length=(Cg l l.length).map AE:=by rw[hm];exact CV (by simp)
     have hmd:((Cg l l.length++J++l.drop (l.length-1)).map AE).drop l.length=[]:=Aw (by rw[Ba,hXl];exact Ac _);have pX:=Cb (Cg l l.length++J++l.drop (l.length-1));have pC:=Cb (Cg l l.length);have pN:=I1 (l.length-(Cg l l.length).length);generalize Cg l l.length++J++l.drop (l.length-1)=X at *;generalize Cg l l.length=C at *;have hcn:C.length+(l.length-C.length)=l.length:=by omega
     refine W_T ?_;(with_reducible repeat'(first|simp (disch:=omega) only[push_cast,↓zz,seval,pX,hXl,hmt,hmd,hcn,A3]|apply Aa|refine sp_ ?_ ?_<;>intro hc<;>push_cast at hc|omega|intro _))
     all_goals
      refine Q6 [] (.ref 0 1 0 C.length) [⟨1,1,ex,C.map AE++List.replicate (l.length-C.length) .nilS⟩] ?_ ⟨rfl,_,pN,rfl⟩;(with_reducible repeat'(first|simp (disch:=omega) only[push_cast,↓zz,seval,pX,pC,pN]|apply Aa|refine sp_ ?_ ?_<;>intro hc<;>push_cast at hc|omega|intro _))
   ·rw[Bu he] at hF
    have hnx:Hold (∀j,1<=j->j<i+1->nth l j≠nth l (j-1)):=⟨λj h1 h2=>by
     by_cases e:j=i
     ·subst e;rw[hu,hv];exact he
     ·exact hno j h1 (by omega)⟩
    clear hno hcl;(with_reducible repeat'(first|simp (disch:=omega) only[push_cast,↓zz,seval,pL,hu,hv,pu,pv,hi0,a1,a2]|apply Aa|refine sp_ ?_ ?_<;>intro hc<;>push_cast at hc|refine ee hF ?_|(refine cc hF ?_;(simp(disch:=omega)only[push_cast,↓zz,seval,pL,hu,hv,pu,pv,hi0,a1,a2]);(fail_if_success change False))|omega|intro _))
    all_goals
     refine⟨i+1,?_⟩;(with_reducible repeat'(first|simp (disch:=omega) only[push_cast,↓zz,seval,pL]|apply Aa|refine sp_ ?_ ?_<;>intro hc<;>push_cast at hc|omega|intro _))
     all_goals first|exact⟨by omega,hnx⟩|exact hnx|trace_state
  ·obtain rfl:i=l.length:=by omega
   have hce:=hcl l.length hno (Ac _);rw[AB] at hce;clear hno hcl;refine W_T ?_;(with_reducible repeat'(first|simp (disch:=omega) only[push_cast,↓zz,seval,pL]|apply Aa|refine sp_ ?_ ?_<;>intro hc<;>push_cast at hc|omega|intro _))
   all_goals
    refine Q6 [] (.ref 0 1 0 (Cg l l.length).length) [⟨1,1,ex,(Cg l l.length).map AE++[]⟩] ?_ ⟨rfl,[],rfl,rfl⟩;rw[hce,A3];(with_reducible repeat'(first|simp (disch:=omega) only[push_cast,↓zz,seval,pL]|apply Aa|refine sp_ ?_ ?_<;>intro hc<;>push_cast at hc|omega|intro _))
   all_goals trace_state
theorem PP{l:List Fq}{s i:Nat}:i∈fiI l s↔i<l.length/\(nth l i).from_=s:=by simp[fiI,HH]
theorem ZW(l:List Fq)(s:Nat):(fiI l s).length<=l.length:=MW _ _
section
variable (d:Desc)(x:List Int)(S:Nat->Nat->List (List Int))(at_ s:Nat)
def finW(k:Nat):List (List Int):=((fiI d.finals s).take k).flatMap λi=>if (nth d.finals i).guards.length+at_=x.length/\goB x (nth d.finals i).guards at_=true then [DF x (nth d.finals i).out (nth d.finals i).guards at_] else []
def toW(i:Nat):List (List Int):=S (at_+(nth d.rules i).eat.toNat) (nth d.rules i).to_.toNat
def rulW(k:Nat):List (List Int):=((ruI d.rules s).take k).flatMap λi=>if goB x (nth d.rules i).guards at_=true then (toW d S at_ i).map (DF x (nth d.rules i).out (nth d.rules i).guards at_++·) else []
def allW:List (List Int):=finW d x at_ s (fiI d.finals s).length++rulW d x S at_ s (ruI d.rules s).length
variable {d x S at_ s}{k:Nat}
theorem RO:finW d x at_ s 0=[]:=rfl
theorem ZX:rulW d x S at_ s 0=[]:=rfl
theorem Vo(hk:k<(fiI d.finals s).length){f:Fq}(hf:nth d.finals (nth (fiI d.finals s) k)=f)(h:(decide (f.guards.length+at_=x.length)&&goB x f.guards at_)=true):finW d x at_ s (k+1)=finW d x at_ s k++[DF x f.out f.guards at_]:=by
 simp only[Ab,Ag] at h;rw[finW,take_at hk,CF,Cs,hf,Af h];rfl
theorem ZY(hk:k<(fiI d.finals s).length){f:Fq}(hf:nth d.finals (nth (fiI d.finals s) k)=f)(h:(decide (f.guards.length+at_=x.length)&&goB x f.guards at_)=false):finW d x at_ s (k+1)=finW d x at_ s k:=by
 rw[finW,take_at hk,CF,Cs,hf,Ae,A3]
 ·rfl
 rintro⟨h1,h2⟩;rw[h2,AQ h1] at h;cases h
theorem Vp(hk:k<(ruI d.rules s).length){r:Rule}(hf:nth d.rules (nth (ruI d.rules s) k)=r)(h:goB x r.guards at_=true):rulW d x S at_ s (k+1)=rulW d x S at_ s k++(S (at_+r.eat.toNat) r.to_.toNat).map (DF x r.out r.guards at_++·):=by
 rw[rulW,take_at hk,CF,Cs,hf,Af h,toW,hf];rfl
theorem ZZ(hk:k<(ruI d.rules s).length){r:Rule}(hf:nth d.rules (nth (ruI d.rules s) k)=r)(h:goB x r.guards at_=false):rulW d x S at_ s (k+1)=rulW d x S at_ s k:=by
 rw[rulW,take_at hk,CF,Cs,hf,Ae (by rw[h];simp),A3];rfl
theorem Vq:(finW d x at_ s k).length<=k:=by
 induction k with
 |zero=>simp[finW]
 |succ k ih =>
  rcases Aj k (fiI d.finals s).length with h|h
  ·rw[finW,take_at h,CF,Al,Cs]
   rw[finW] at ih;split
   ·rw[List.length_singleton];omega
   ·rw[List.length_nil];omega
  ·rw[finW,An (by omega)]
   rw[finW,An h] at ih;omega
theorem PQ{w:List Int}:w∈finW d x at_ s (fiI d.finals s).length↔∃f∈d.finals,f.from_=(s:Nat)/\(f.guards.length+at_=x.length/\goB x f.guards at_=true)/\w=DF x f.out f.guards at_:=by
 rw[finW,AB,D6];constructor
 ·rintro⟨i,hi,hw⟩
  obtain⟨i1,i2⟩:=PP.1 hi;split at hw
  ·rename_i h
   exact⟨_,Bo i1,i2,h,by simpa using hw⟩
  ·cases hw
 ·rintro⟨f,hf,h1,h2,rfl⟩
  obtain⟨i,hi,rfl⟩:=AZ hf;have e:nth d.finals i=d.finals[i]:=FR hi;exact⟨i,PP.2 ⟨hi,by rw[e];exact h1⟩,by rw[e,Af h2];simp⟩
theorem z6b{w:List Int}:w∈rulW d x S at_ s (ruI d.rules s).length↔∃r∈d.rules,r.from_=(s:Nat)/\goB x r.guards at_=true/\∃v∈S (at_+r.eat.toNat) r.to_.toNat,w=DF x r.out r.guards at_++v:=by
 rw[rulW,AB,D6];constructor
 ·rintro⟨i,hi,hw⟩
  obtain⟨i1,i2⟩:=FY.1 hi;split at hw
  ·rename_i h
   obtain⟨v,hv,rfl⟩:=Ar.1 hw;exact⟨_,Bo i1,i2,h,v,hv,rfl⟩
  ·cases hw
 ·rintro⟨r,hr,h1,h2,v,hv,rfl⟩
  obtain⟨i,hi,rfl⟩:=AZ hr;have e:nth d.rules i=d.rules[i]:=FR hi;refine⟨i,FY.2 ⟨hi,by rw[e];exact h1⟩,?_⟩;rw[e,Af h2,toW,e];exact Ar.2 ⟨v,hv,rfl⟩
theorem z00:Iw (allW d x S at_ s)=Iw (outL d x (λa t=>S a t.toNat) at_ (s:Nat)):=by
 refine (Ve (IP _) λw=>?_);rw[Ix,allW,Ap,PQ,z6b,outL,Ap,Ar,D6];constructor
 ·rintro (⟨f,hf,rfl⟩|⟨r,hr,hw⟩)
  ·obtain⟨h1,h2⟩:=AX.1 hf
   simp only[Ab,Ag] at h2;exact .inl ⟨f,h1,h2.1,h2.2,rfl⟩
  ·obtain⟨h1,h2⟩:=AX.1 hr
   simp only[Ab,Ag] at h2;obtain⟨v,hv,rfl⟩:=Ar.1 hw;exact .inr ⟨r,h1,h2.1,h2.2,v,hv,rfl⟩
 ·rintro (⟨f,h1,h2,h3,rfl⟩|⟨r,h1,h2,h3,v,hv,rfl⟩)
  ·exact .inl ⟨f,AX.2 ⟨h1,by simp[h2,h3.1,h3.2]⟩,rfl⟩
  ·exact .inr ⟨r,AX.2 ⟨h1,by simp[h2,h3]⟩,Ar.2 ⟨v,hv,rfl⟩⟩
end
def HV(o:Option (List Int))(w:List Int):Option (List Int):=match o with
 |none=>some w
 |some m=>if cmpL w m<0 then some w else some m
structure LeastI(C:List (List Int))(o:Option (List Int)):Prop where
 no:o=none->C=[]
 yes:∀m,o=some m->m∈C/\∀c∈C,ltW c m=false
section
variable {d:Desc}{x:List Int}{n:Nat}{ord:List Nat}{L:Nat->Nat->Bool}{at_ j:Nat}
structure LeaI(d:Desc)(x:List Int)(L:Nat->Nat->Bool)(ord:List Nat)(at_ j:Nat)(B:Nat->Nat->Option (List Int)):Prop where
 past:∀a t,a<=x.length->L a t=true->Past ord at_ j a t->B a t=(outW d x a t).head?
 rest:∀a t,¬Past ord at_ j a t->B a t=none
variable {B:Nat->Nat->Option (List Int)}
def LefI(d:Desc)(x y:List Int)(L:Nat->Nat->Bool)(ord:List Nat)(at_ j:Nat)(M:Nat->Nat->Nat->Bool):Prop :=
 ∀a t,a<=x.length->L a t=true->Past ord at_ j a t->∀m,m<=y.length->(M a t m=true↔y.drop (y.length-m)∈outW d x a t)
def GM(y w:List Int)(then_:Nat->Bool)(m:Nat):Bool:=decide (w.length<=m)&&(decide ((y.drop (y.length-m)).take w.length=w)&&then_ (m-w.length))
variable {y:List Int}{M:Nat->Nat->Nat->Bool}
theorem MY{w:List Int}{th:Nat->Bool}{m:Nat}(hm:m<=y.length){T:List Int->Prop}(hT:∀k,k<=y.length->(th k=true↔T (y.drop (y.length-k)))):GM y w th m=true↔∃v,T v/\y.drop (y.length-m)=w++v:=by
 have hl:(y.drop (y.length-m)).length=m:=by rw[List.length_drop];omega
 simp only[GM,Ab,Ag];constructor
 ·rintro⟨h1,h2,h3⟩
  refine⟨_,(hT _ (by omega)).1 h3,?_⟩;have h4:=Cz w.length (y.drop (y.length-m));rw[h2,Eb,show y.length-m+w.length=y.length-(m-w.length) by omega] at h4;exact h4.symm
 ·rintro⟨v,h1,h2⟩
  have hwl:w.length+v.length=m:=by rw[<-hl,h2,Al]
  refine⟨by omega,by rw[h2,CV rfl],(hT _ (by omega)).2 ?_⟩;have h3:(y.drop (y.length-m)).drop w.length=v:=by rw[h2,List.drop_left' rfl]
  rw[Eb,show y.length-m+w.length=y.length-(m-w.length) by omega] at h3
  rwa [h3]
theorem z01{M:Nat->Nat->Nat->Bool}:LefI d x y L ord x.length 0 M:=λa t ha _ hp=>by
 rcases hp with h|⟨_,h⟩
 ·omega
 ·simp at h
theorem z02(h:LefI d x y L ord at_ j M)(hj:j<ord.length)(ho:L at_ (nth ord j)=false):LefI d x y L ord at_ (j+1) M:=λa t ha hl hp=>by
 rcases Hr hj hp with h1|⟨rfl,rfl⟩
 ·exact h a t ha hl h1
 ·rw[ho] at hl;cases hl
theorem z6c(h:LefI d x y L ord (at_+1) n M)(hl:LivE d x n L)(ht:Topo d.rules n ord):LefI d x y L ord at_ 0 M:=λa t ha hlt hp=>h a t ha hlt (PN (CB ht) ((ht.all t).2 (hl.lead a t hlt).1) hp)
def mayF(d:Desc)(x y:List Int)(at_ s k:Nat)(m:Nat):Bool:=(finW d x at_ s k).any λw=>decide (y.drop (y.length-m)=w)
def mayR(d:Desc)(x y:List Int)(M:Nat->Nat->Nat->Bool)(at_ s k:Nat)(m:Nat):Bool:=mayF d x y at_ s (fiI d.finals s).length m ||
 ((ruI d.rules s).take k).any λi=>goB x (nth d.rules i).guards at_&&GM y (DF x (nth d.rules i).out (nth d.rules i).guards at_) (M (at_+(nth d.rules i).eat.toNat) (nth d.rules i).to_.toNat) m
theorem z03(h:LefI d x y L ord at_ j M)(hl:LivE d x n L)(hg:Goes d n)(ht:Topo d.rules n ord)(hj:j<n)(ha:at_<=x.length)(hlv:L at_ (nth ord j)=true):LefI d x y L ord at_ (j+1) (setP M at_ (nth ord j) (mayR d x y M at_ (nth ord j) (ruI d.rules (nth ord j)).length)):=by
 have hol:=CB ht;have hO:=Je hg ht (x:=x) (a:=at_) (t:=nth ord j) ha (ht.all _ |>.1 (Bo (by omega)))
 have key:∀m,m<=y.length->(mayR d x y M at_ (nth ord j) (ruI d.rules (nth ord j)).length m=true↔y.drop (y.length-m)∈outW d x at_ (nth ord j:Nat)):=λm hm=>by
  rw[hO.2,PG,mayR,DG,mayF,BG,AB,BG];refine or_congr ?_ ?_
  ·constructor
   ·rintro⟨w,hw,e⟩
    obtain rfl:=of_decide_eq_true e;exact PQ.1 hw
   ·intro hw
    exact⟨_,PQ.2 hw,AQ rfl⟩
  ·have hT:∀r∈d.rules,r.from_=(nth ord j:Nat)->goB x r.guards at_=true->∀k,k<=y.length->(M (at_+r.eat.toNat) r.to_.toNat k=true↔RelW d x (at_+r.eat.toNat) r.to_ (y.drop (y.length-k))):=λr hr hf hgo k hk=>by
    obtain⟨_,htt,e1,e2⟩:=hg.r r hr;have hle:=G9 hgo;have h2:=Je hg ht (x:=x) (a:=at_+r.eat.toNat) (t:=r.to_.toNat) (by omega) (by omega);rw[h _ _ (by omega) (hl.clos _ _ hlv r hr hf hgo) (MR hg ht hj hr hf) k hk,h2.2,Bn htt.1]
   constructor
   ·rintro⟨i,hi,e⟩
    obtain⟨i1,i2⟩:=FY.1 hi;rw[Ab] at e;exact⟨_,Bo i1,i2,e.1,(MY hm (hT _ (Bo i1) i2 e.1)).1 e.2⟩
   ·rintro⟨r,hr,hf,hgo,hv⟩
    have h3:=(MY (w:=DF x r.out r.guards at_) hm (hT r hr hf hgo)).2 hv;obtain⟨i,hi,rfl⟩:=AZ hr;have e:nth d.rules i=d.rules[i]:=FR hi;refine⟨i,FY.2 ⟨hi,by rw[e];exact hf⟩,?_⟩;rw[e,hgo,h3];rfl
 intro a t hal hlt hp m hm;simp only[setP];by_cases e:a=at_/\t=nth ord j
 ·rw[Af e]
  obtain⟨rfl,rfl⟩:=e;exact key m hm
 ·rw[Ae e]
  rcases Hr (by omega) hp with h1|h1
  ·exact h a t hal hlt h1 m hm
  ·exact absurd h1 e
theorem z6d(h:LefI d x y L ord 0 n M)(hl:LivE d x n L)(ht:Topo d.rules n ord)(hs:0<=d.start/\d.start<n):M 0 d.start.toNat y.length=decide (y∈outW d x 0 d.start):=by
 have hst:((d.start.toNat:Nat):Int)=d.start:=Bn hs.1;have h1:=h 0 d.start.toNat (Ay _) hl.start (.inr ⟨rfl,by rw[An (by rw[CB ht];omega)];exact (ht.all _).2 (by omega)⟩) y.length (Ac _);rw[hst,Nat.sub_self,B2] at h1;rw[CS,h1,Ag]
end
set_option maxRecDepth 100000
theorem Vr{σ:Type}(d:Desc)(x:List Int){n:Nat}{ord:List Nat}{L:Nat->Nat->Bool}(RU FI:AV)(hRU:RU.pure=true)(hFI:FI.pure=true)(hdn:d.states=n)(hn:n<=1024)(hx:x.length<=1024)(ht:Topo d.rules n ord)
 (f:Nat) (caps:List AV) (N:Nat) (heap:σ->List Grp) (hN:∀s,(heap s).length=N) (hcl:∀s,∀G∈heap s,ltL N G.xs) (hcaps:ltL N caps)
 (Inv:Nat->Nat->σ->Prop) (s0:σ) (h0:Inv x.length 0 s0)
 (call:∀a j s,a<=x.length->j<n->Inv a j s->L a (nth ord j)=true->B4 Tryz.prog f (.int .i64 a::.int .i64 (nth ord j:Nat)::caps) (Abs.hl (heap s)) λy H'=>y=.tup []/\∃s',H'=Abs.hl (heap s')/\Inv a (j+1) s')
 (skip:∀a j s,a<=x.length->j<n->Inv a j s->L a (nth ord j)=false->Inv a (j+1) s)
 (row:∀a s,a+1<=x.length->Inv (a+1) n s->Inv a 0 s) :
 B4 Tryz.prog 61 [C0 d x RU FI (.lst 1 (ord.map e1)) (.lst 1 (lvB n ((x.length+1) * n) L)),.fn f caps] (Abs.hl (heap s0)) λy H'=>y=.tup []/\∃s,H'=Abs.hl (heap s)/\Inv 0 n s:=by
 have pR:=BJ d.rules;have pFi:=BB d.finals;have pX:A9 (x.map (AV.int .i32))=true:=Bt .i32 _;have pO:A9 (ord.map e1)=true:=Dg (λ_=>rfl) _;have hol:=CB ht;have lL:(lvB n ((x.length+1) * n) L).length=(x.length+1) * n:=I0;have pL:A9 (lvB n ((x.length+1) * n) L)=true:=IQ;have hmx:(x.length+1) * n<=1025 * 1024:=BD (by omega) hn;have pN:(C0 d x RU FI (.lst 1 (ord.map e1)) (.lst 1 (lvB n ((x.length+1) * n) L))).pure=true:=by simp[AV.pure,A9,pR,pFi,pX,pO,pL,hRU,hFI]
 have aL:∀a t,a<=x.length->t<n->(lvB n ((x.length+1) * n) L).getD (a * n+t) .any=.bool (L a t):=λa t ha htn=>z85 htn (Fg htn ha);have pl:∀a t,a<=x.length->t<n->a * n+t<(x.length+1) * n:=λa t ha htn=>Fg htn ha;generalize hm:(x.length+1) * n=m at *;generalize hLV:lvB n m L=LV at *;refine Ho (K6 Kq (W_T ?_));unfold Hc;(with_reducible repeat'(first|simp (disch:=omega) only[push_cast,↓zz,seval,pR,pFi,pX,pO,pL,hRU,hFI]|apply Aa|refine sp_ ?_ ?_<;>intro hc<;>push_cast at hc|omega|intro _))
 refine Bv (Jv (λ(q:Nat × σ)=>q.1<=x.length+1/\Hold ((q.1=0->Inv 0 n q.2)/\∀a,q.1=a+1->Inv a 0 q.2)) (λq=>q.1)
  (λq=>Ef [(0,C0 d x RU FI (.lst 1 (ord.map e1)) (.lst 1 LV)),(1,.fn f caps),(4,.int .i64 ((q.1:Int)-1))]) (λq=>Abs.hl (heap q.2)) (x.length+1,s0) ⟨Ac _,⟨⟨λh=>(by cases h),λa h=>?_⟩⟩⟩ ?_ ?_)
 ·obtain rfl:x.length=a:=by simpa using h
  exact h0
 ·refine F6 (gar:=[]) _ (A3 _).symm (Dz ((hN _).trans (hN _).symm)) (by rw[hN];exact hcl _) ?_
  rw[hN];refine⟨rfl,trivial,rfl,hcaps,?_,trivial,trivial⟩;show AV.int _ _=_;congr 1;simp only;omega
 rintro⟨k,s⟩ ⟨hk,⟨⟨hI0,hI⟩⟩⟩;simp only at hk hI0 hI ⊢;rcases Nat.eq_zero_or_pos k with rfl|hk0
 ·have hI0:=hI0 rfl
  refine W_T ?_;(with_reducible repeat'(first|simp (disch:=omega) only[push_cast,↓zz,seval,pR,pFi,pX,pO,pL,hRU,hFI]|apply Aa|refine sp_ ?_ ?_<;>intro hc<;>push_cast at hc|omega|intro _))
  all_goals exact⟨_,_,Ent.refl,rfl,s,rfl,hI0⟩
 ·obtain⟨a,rfl⟩:∃a,k=a+1:=⟨k-1,by omega⟩
  have hIa:=hI a rfl;clear hI0 hI;have ha:a<=x.length:=by omega
  refine W_T ?_;(with_reducible repeat'(first|simp (disch:=omega) only[push_cast,↓zz,seval,pR,pFi,pX,pO,pL,hRU,hFI]|apply Aa|refine sp_ ?_ ?_<;>intro hc<;>push_cast at hc|omega|intro _))
  refine Bv (Jv (λ(q:Nat × σ)=>q.1<=n/\Hold (Inv a q.1 q.2)) (λq=>n-q.1)
   (λq=>Ef [(0,C0 d x RU FI (.lst 1 (ord.map e1)) (.lst 1 LV)),(1,.fn f caps),(4,.int .i64 a),(19,.lst 1 (ord.map e1)),(20,.int .i64 n),(21,.int .i64 q.1)]) (λq=>Abs.hl (heap q.2)) (0,s) ⟨Ay _,⟨hIa⟩⟩ ?_ ?_)
  ·refine F6 (gar:=[]) _ (A3 _).symm (Dz ((hN _).trans (hN _).symm)) (by rw[hN];exact hcl _) ?_
   rw[hN];have hO:ltV N (.lst 1 (ord.map e1)):=Cf _ _ pO;refine⟨rfl,trivial,rfl,hcaps,?_,trivial,rfl,hO,?_,trivial,rfl,trivial,trivial⟩
   ·show AV.int _ _=_
    congr 1;omega
   ·show AV.int _ _=_
    congr 1;omega
  rintro⟨j,s1⟩ ⟨hj,⟨hI⟩⟩;simp only at hj hI ⊢;have hO:ltV N (.lst 1 (ord.map e1)):=Cf _ _ pO;rcases Aj j n with hjn|hjn
  ·have aO:(ord.map e1).getD j .any=.int .i64 (nth ord j:Nat):=by simp[nth,List.getD,hol,hjn]
   have htn:nth ord j<n:=(ht.all _).1 (Bo (by omega));have hcall:=call a j s1 ha hjn hI;have hskip:=skip a j s1 ha hjn hI;have aK:=aL a _ ha htn;have hpm:=pl a _ ha htn;generalize nth ord j=t at *;have hmul:((a:Int) * (n:Int))=((a * n:Nat):Int):=by norm_cast
   generalize hpe:a * n+t=p at *;generalize a * n=an at *;have hpi:(an:Int)+(t:Int)=(p:Int):=by omega
   cases hL:L a t with
   |true =>
    rw[hL] at aK;refine W_T ?_;(with_reducible repeat'(first|simp (disch:=omega) only[push_cast,↓zz,seval,pR,pFi,pX,pO,pL,hRU,hFI,aO,hdn,hmul,hpi,aK]|apply Aa|refine sp_ ?_ ?_<;>intro hc<;>push_cast at hc|omega|intro _));refine ZH (extra:=[]) (A3 _).symm (hcall hL) ?_ (by rw[hN];exact hcl _) ?_
    ·rw[hN];exact⟨trivial,trivial,hcaps⟩
    rintro y H' ⟨rfl,s2,rfl,hI2⟩;refine⟨_,rfl,by rw[hN,hN],trivial,by rw[hN];exact hcl _,?_⟩;rw[A3];(with_reducible repeat'(first|simp (disch:=omega) only[push_cast,↓zz,seval]|apply Aa|refine sp_ ?_ ?_<;>intro hc<;>push_cast at hc|omega|intro _));refine⟨(j+1,s2),F6 (gar:=[]) _ (A3 _).symm (Dz ((hN _).trans (hN _).symm)) (by rw[hN];exact hcl _) ?_,⟨by omega,⟨hI2⟩⟩,by simp only;omega⟩;rw[hN];exact⟨rfl,trivial,rfl,hcaps,rfl,trivial,rfl,hO,rfl,trivial,rfl,trivial,trivial⟩
   |false =>
    rw[hL] at aK;refine W_T ?_;(with_reducible repeat'(first|simp (disch:=omega) only[push_cast,↓zz,seval,pR,pFi,pX,pO,pL,hRU,hFI,aO,hdn,hmul,hpi,aK]|apply Aa|refine sp_ ?_ ?_<;>intro hc<;>push_cast at hc|omega|intro _));refine⟨(j+1,s1),F6 (gar:=[]) _ (A3 _).symm (Dz ((hN _).trans (hN _).symm)) (by rw[hN];exact hcl _) ?_,⟨by omega,⟨hskip hL⟩⟩,by simp only;omega⟩;rw[hN];exact⟨rfl,trivial,rfl,hcaps,rfl,trivial,rfl,hO,rfl,trivial,rfl,trivial,trivial⟩
  ·obtain rfl:j=n:=by omega
   refine W_T ?_;(with_reducible repeat'(first|simp (disch:=omega) only[push_cast,↓zz,seval,pR,pFi,pX,pO,pL,hRU,hFI]|apply Aa|refine sp_ ?_ ?_<;>intro hc<;>push_cast at hc|omega|intro _));refine⟨(a,s1),F6 (gar:=[]) _ (A3 _).symm (Dz ((hN _).trans (hN _).symm)) (by rw[hN];exact hcl _) ?_,⟨by omega,⟨⟨λh=>?_,λa' h=>?_⟩⟩⟩,by simp only;omega⟩
   ·rw[hN]
    exact⟨rfl,trivial,rfl,hcaps,rfl,trivial,trivial⟩
   ·have h:a=0:=h
    subst h;exact hI
   ·have h:a=a'+1:=h
    subst h;exact row a' s1 (by omega) hI
end Go.Proofs.YtbcjoeadpjfcfaaGreat
namespace Go.Proofs
open Go.Shelf
def Tryz.sortWd_ren:Go.Shelf.Ren:=⟨fun|6=>107|15=>139|14=>138|28=>162|29=>163|20=>154|21=>155|22=>156|23=>157|24=>158|25=>159|26=>160|27=>161|46=>176|47=>177|48=>178|49=>179|50=>180|57=>189|n=>n,fun|22=>42|24=>39|25=>130|3=>3|39=>187|0=>0|53=>205|55=>207|4=>4|46=>199|45=>198|50=>32|5=>5|9=>9|66=>216|70=>220|76=>224|77=>84|n=>n,fun|n=>n⟩
theorem Tryz.sortWd:Go.Proofs.SlLaysF.n6 Tryz.prog Tryz.sortWd_ren:={
 mixed:=by kernel_rfl
 f6:=⟨Tryz.f107.name,by decide,Tryz.func107.trans (congrArg some (by kernel_rfl))⟩
 f14:=⟨Tryz.f138.name,by decide,Tryz.func138.trans (congrArg some (by kernel_rfl))⟩
 f15:=Tryz.func139.trans (congrArg some (by kernel_rfl))
 f20:=⟨Tryz.f154.name,by decide,Tryz.func154.trans (congrArg some (by kernel_rfl))⟩
 f21:=⟨Tryz.f155.name,by decide,Tryz.func155.trans (congrArg some (by kernel_rfl))⟩
 f22:=⟨Tryz.f156.name,by decide,Tryz.func156.trans (congrArg some (by kernel_rfl))⟩
 f23:=⟨Tryz.f157.name,by decide,Tryz.func157.trans (congrArg some (by kernel_rfl))⟩
 f24:=⟨Tryz.f158.name,by decide,Tryz.func158.trans (congrArg some (by kernel_rfl))⟩
 f25:=⟨Tryz.f159.name,by decide,Tryz.func159.trans (congrArg some (by kernel_rfl))⟩
 f26:=⟨Tryz.f160.name,by decide,Tryz.func160.trans (congrArg some (by kernel_rfl))⟩
 f27:=⟨Tryz.f161.name,by decide,Tryz.func161.trans (congrArg some (by kernel_rfl))⟩
 f28:=Tryz.func162.trans (congrArg some (by kernel_rfl))
 f29:=Tryz.func163.trans (congrArg some (by kernel_rfl))
 f46:=⟨Tryz.f176.name,by decide,Tryz.func176.trans (congrArg some (by kernel_rfl))⟩
 f47:=Tryz.func177.trans (congrArg some (by kernel_rfl))
 f48:=Tryz.func178.trans (congrArg some (by kernel_rfl))
 f49:=⟨Tryz.f179.name,by decide,Tryz.func179.trans (congrArg some (by kernel_rfl))⟩
 f50:=⟨Tryz.f180.name,by decide,Tryz.func180.trans (congrArg some (by kernel_rfl))⟩
 f57:=⟨Tryz.f189.name,by decide,Tryz.func189.trans (congrArg some (by kernel_rfl))⟩
 t0:=Tryz.underlying0
 a0:=Tryz.isAgg0
 z0:=Tryz.sizeOf0
 v0:=Tryz.zeroValue0
 t3:=Tryz.underlying3
 a3:=Tryz.isAgg3
 z3:=Tryz.sizeOf3
 v3:=Tryz.zeroValue3
 t4:=Tryz.underlying4
 a4:=Tryz.isAgg4
 z4:=Tryz.sizeOf4
 v4:=Tryz.zeroValue4
 t5:=Tryz.underlying5
 a5:=Tryz.isAgg5
 z5:=Tryz.sizeOf5
 v5:=Tryz.zeroValue5
 t9:=Tryz.underlying9
 a9:=Tryz.isAgg9
 z9:=Tryz.sizeOf9
 v9:=Tryz.zeroValue9
 t22:=Tryz.underlying42
 a22:=Tryz.isAgg42
 z22:=Tryz.sizeOf42
 v22:=Tryz.zeroValue42
 a24:=Tryz.isAgg39
 z24:=Tryz.sizeOf39
 t25:=Tryz.underlying130
 a25:=Tryz.isAgg130
 z25:=Tryz.sizeOf130
 v25:=Tryz.zeroValue130
 t39:=Tryz.underlying187
 a39:=Tryz.isAgg187
 z39:=Tryz.sizeOf187
 v39:=Tryz.zeroValue187
 t45:=Tryz.underlying198
 a45:=Tryz.isAgg198
 z45:=Tryz.sizeOf198
 v45:=Tryz.zeroValue198
 t46:=Tryz.underlying199
 a46:=Tryz.isAgg199
 z46:=Tryz.sizeOf199
 v46:=Tryz.zeroValue199
 t50:=Tryz.underlying32
 a50:=Tryz.isAgg32
 z50:=Tryz.sizeOf32
 v50:=Tryz.zeroValue32
 t53:=Tryz.underlying205
 a53:=Tryz.isAgg205
 z53:=Tryz.sizeOf205
 v53:=Tryz.zeroValue205
 t55:=Tryz.underlying207
 a55:=Tryz.isAgg207
 z55:=Tryz.sizeOf207
 v55:=Tryz.zeroValue207
 t66:=Tryz.underlying216
 a66:=Tryz.isAgg216
 z66:=Tryz.sizeOf216
 v66:=Tryz.zeroValue216
 t70:=Tryz.underlying220
 a70:=Tryz.isAgg220
 z70:=Tryz.sizeOf220
 v70:=Tryz.zeroValue220
 t76:=Tryz.underlying224
 a76:=Tryz.isAgg224
 z76:=Tryz.sizeOf224
 v76:=Tryz.zeroValue224
 t77:=Tryz.underlying84
 a77:=Tryz.isAgg84
 z77:=Tryz.sizeOf84
 v77:=Tryz.zeroValue84 }
end Go.Proofs
set_option maxRecDepth 100000
namespace Go.Proofs.YtbcjoeadpjfcfaaGreat
open Abs O1 O2 O3 Go.Shelf Go.RowKit Go.Lib Go.Sort
def WV(S:MS):Type:={ p:List Int × Value // VRel S (AE p.1) p.2/\p.1.length<=1000000000 }
instance (S:MS):Inhabited (WV S):=⟨⟨([],.slice none 0 0),⟨rfl,Nat.one_pos,none,0,[],rfl,⟨Ac _,λ_=>rfl⟩,rfl,λh=>absurd rfl h⟩,Ay _⟩⟩
def encW(S:MS)(p:WV S):Value:=p.val.2
def cfW(S:MS)(p q:WV S):Int:=cmpL p.val.1 q.val.1
theorem ltCW(S:MS)(p q:WV S):ltOf (cfW S) p q=ltW p.val.1 q.val.1:=by
 unfold ltOf cfW;cases h:ltW p.val.1 q.val.1 with
 |true=>exact AQ ((ZT _ _).2 h)
 |false=>exact Bu λhh=>by rw[(ZT _ _).1 hh] at h;cases h
theorem WU(a b c:List Int)(h1:ltW a b=false)(h2:ltW b c=false):ltW a c=false:=by
 cases h:ltW a c with
 |false=>rfl
 |true =>
  exfalso;cases hba:ltW b a with
  |true=>have:=Iu b a c hba h;rw[h2] at this;cases this
  |false =>
   have e:=Iv a b h1 hba;subst e;rw[h2] at h;cases h
theorem swoW(S:MS):SWO (ltOf (cfW S)) where
 irrefl x:=by rw[ltCW];exact Gt _
 trans x y z h1 h2:=by rw[ltCW] at *;exact Iu _ _ _ h1 h2
 ntrans x y z h1 h2:=by rw[ltCW] at *;exact WU _ _ _ h1 h2
theorem z04:∀{a b:World},a.heap=b.heap->a.tape=b.tape->a.drawn=b.drawn->a.os=b.os->a.output=b.output->a=b
 |⟨_,_,_,_,_⟩,⟨_,_,_,_,_⟩,rfl,rfl,rfl,rfl,rfl=>rfl
theorem Jf{α:Type}[Inhabited α](enc:α->Value)(w:World)(b m:Nat)(d:Array α)(os:Array Obj):w.heap.size<=(sortWorld enc w b 0 m d os).heap.size:=by
 show _<=((w.heap.modify _ _)++os).size;rw[EO,C6];omega
theorem I2{α:Type}[Inhabited α](enc:α->Value)(w:World)(b m:Nat)(d:Array α)(os:Array Obj){k:Nat}(hk:k<w.heap.size)(hb:b≠k):(sortWorld enc w b 0 m d os).heap[k]? = w.heap[k]? := by
 show ((w.heap.modify _ _)++os)[k]? = _;rw[Bz (by rw[C6];exact hk),Da,Ae hb]
theorem WW(S:MS){H:As}(hS:SRel S H){blk:Nat}(hni:¬(S.im blk\/S.keep blk))(size:Nat):CmpLays1 Tryz.prog 77 #[] (encW S) (cfW S) blk 0 size S.w:=by
 intro m os dk _ x y;obtain⟨W,hW⟩:∃W,W=sortWorld (encW S) S.w blk 0 m dk os:=⟨_,rfl⟩;rw[<-hW];have hsz:S.w.heap.size<=W.heap.size:=by rw[hW];exact Jf ..
 have hkept:∀b,S.im b->W.heap[b]? = S.w.heap[b]? := λb hb=>by rw[hW];exact I2 _ _ _ _ _ _ (hS.im b (.inl hb)) λe=>hni (e ▸ .inl hb)
 have ev1:Evi S { S with w:=W }:=⟨hkept,λ_ h=>h,Ac _,λ_ _=>Ac _,λ_ _ _=>⟨rfl,rfl,rfl⟩⟩
 let S2:MS:=⟨W,S.im,λb=>b<W.heap.size,0,λ_=>0,λ_=>0,λ_=>0,λ_=>0,0⟩
 have down:∀p:WV S,VRel S2 (AE p.val.1) p.val.2:=λp=>by
  have h:=VRel.moni ev1 _ p.property.1;rw[<-OX (AE p.val.1)] at h;exact OV (A:=S2) (B:={ S with w:=W }) (σ:=λg=>g) (m:=0) rfl (λb hb=>hb) (λg hg=>absurd hg (AL _)) (AE p.val.1) trivial h
 have hS2:SRel S2 As.nil:=⟨rfl,λg hg=>absurd hg (AL _),λg _ hg=>absurd hg (AL _),λb hb=>hb.elim (λh=>AI (hS.im b (.inl h)) hsz) id⟩;refine ((Lc x.val.1 y.val.1 x.property.2 y.property.2).2 S2 [encW S x,encW S y] hS2 ⟨_,_,rfl,down x,_,_,rfl,down y,rfl⟩).mono λe w' hh=>?_;obtain⟨v,S',z,H',rfl,rfl,ev,_,hv,rfl,_⟩:=hh;have hv':v=.int .i64 (cmpL x.val.1 y.val.1):=hv;subst hv';have hsz2:W.heap.size<=S'.w.heap.size:=ev.size;refine⟨rfl,S'.w.drawn-W.drawn,S'.w.heap.extract W.heap.size S'.w.heap.size,z04 ?_ ev.tape.1 ?_ ev.os ev.output⟩
 ·show S'.w.heap=W.heap++_
  refine Array.ext_getElem? λi=>?_;rcases Aj i W.heap.size with hi|hi
  ·rw[Bz hi]
   exact ev.kept i (.inr hi)
  ·rw[Array.getElem?_append_right hi,Array.getElem?_extract]
   rcases Aj i S'.w.heap.size with h2|h2
   ·rw[Af (by omega)];congr 1;omega
   ·rw[Ae (by omega),Cr (by omega)]
 ·show S'.w.drawn=W.drawn+(S'.w.drawn-W.drawn)
  have:=ev.tape.2;have h2:W.drawn<=S'.w.drawn:=this;omega
theorem O5{S:MS}:∀{l:List (List Int)}{vs:List Value},(∀w∈l,w.length<=1000000000)->A4 S (l.map AE) vs->∃pl:List (WV S),pl.map (λp=>p.val.1)=l/\pl.map (encW S)=vs
 |[],vs,_,h=>⟨[],rfl,h.symm⟩
 |x::l,vs,hl,⟨v,r,hv,h1,h2⟩=>by
  obtain⟨pl,a,b⟩:=O5 (λw hw=>hl w (by simp[hw])) h2;exact⟨⟨(x,v),h1,hl x (by simp)⟩::pl,by show x::pl.map _=x::l;rw[a],by rw[hv,<-b];rfl⟩
theorem RP{S:MS}(p:WV S):∃a n c,encW S p=.slice a n c:=by
 obtain⟨_,_,a,cap,vs,hv,_⟩:=p.property.1;exact⟨a,_,cap,hv⟩
theorem oneW(S:MS):OneCell (encW S):=λp=>by
 obtain⟨a,n,c,h⟩:=RP p;rw[h];rfl
theorem Vs{S:MS}(p:WV S):(encW S p).cells=#[encW S p]:=by
 obtain⟨a,n,c,h⟩:=RP p;rw[h];rfl
theorem z6e{S:MS}{b:Nat}{cells:Array Value}{T:TypeId}{pl:List (WV S)}(hb:S.w.heap[b]? = some (.cells cells T (0,0)))(hf:FN cells 1 (pl.map (encW S))):Holds (encW S) S.w b 0 pl.toArray:=by
 intro j hj;have hi:j<pl.length:=by simpa using hj
 have he:(pl.map (encW S))[j]? = some (encW S pl[j]):=by simp[hi]
 obtain⟨_,_,h3⟩:=hf _ _ he;have h4:=h3 0 Nat.one_pos;rw[Nat.mul_one,Nat.add_zero,Vs] at h4;have hg:pl.toArray[j]! = pl[j]:=by simp[hi]
 refine⟨?_,?_⟩
 ·rw[hg]
  simp only[World.cell?,hb,AO,Option.isSome_none,Av,AT,h4,id];rfl
 ·simp[World.frozen?,hb]
theorem zcn{S:MS}{b n:Nat}{cells:Array Value}{T:TypeId}{d:Array (WV S)}{os:Array Obj}(hb:S.w.heap[b]? = some (.cells cells T (0,0)))(hsz:d.size<=cells.size):
 ∃cells',(sortWorld (encW S) S.w b 0 n d os).heap[b]? = some (.cells cells' T (0,0))/\cells'.size=cells.size/\FN cells' 1 (d.toList.map (encW S)):=by
 have hlt:b<S.w.heap.size:=(AM.1 hb).1;refine⟨putCells (encW S) 0 d cells,?_,by simp[putCells],λi v hv=>?_⟩
 ·show ((S.w.heap.modify b _)++os)[b]? = _
  rw[Bz (by rw[C6];exact hlt),Da,Af rfl,hb];rfl
 ·rw[Dh] at hv
  obtain⟨x,hx,rfl⟩:=Ad.1 hv;have hi:i<d.size:=by have:=(AP.1 hx).1;simpa using this
  refine⟨by rw[Vs];rfl,λc hc=>?_,λj hj=>?_⟩
  ·rw[Vs] at hc
   obtain rfl:c=encW S x:=by simpa using hc
   exact oneW S x
  ·obtain rfl:j=0:=by omega
   have hlt2:i<cells.size:=by omega
   have hd:d[i]! = x:=by
    rw[El] at hx;rw[getElem!_pos d i hi];exact (AM.1 hx).2
   rw[Nat.mul_one,Nat.add_zero,putCells,Ek,Dv hlt2];simp only[Option.map_some,Ay,Ed,AO,Nat.sub_zero];rw[Af hi,hd,Vs];rfl
def Tt(l:List (List Int)):Prop:=l.Pairwise λa b=>ltW b a=false
theorem z05{S:MS}{d:Array (WV S)}(h:SortedIn (ltOf (cfW S)) 0 d.size d):Tt (d.toList.map λp=>p.val.1):=by
 rw[Tt,ER,Dy];intro i j hi hj hij;have hi':i<d.size:=by simpa using hi
 have hj':j<d.size:=by simpa using hj
 have:=h i j (Ay _) hij hj';rw[ltCW,getElem!_pos d j hj',getElem!_pos d i hi'] at this;simpa using this
theorem z06{S:MS}:∀(pl:List (WV S)),A4 S (pl.map λp=>AE p.val.1) (pl.map (encW S))
 |[]=>rfl
 |p::pl=>⟨_,_,rfl,p.property.1,z06 pl⟩
theorem zco{H:As}{g ver:Nat}{ex:Bool}{l:List (List Int)}(hg:g<H.n)(hG:H.at_ g=⟨1,ver,ex,l.map AE⟩)(h1:l≠[])(hl:l.length<4611686018427387904)(hw:∀w∈l,w.length<=1000000000):
 B4 Tryz.prog 107 [.ref g ver 0 l.length,.fn 77 []] H λy H'=>y=.tup []/\∃l':List (List Int),l'.Perm l/\Tt l'/\H'=H.set g ⟨1,ver,ex,l'.map AE⟩:=by
 have eg:∀args w,(callFunc 77 args).run Tryz.prog w=.ok (.enter 77 args) w:=enters_of Tryz.func77 (by kernel_rfl) rfl;refine⟨enters_of Tryz.func107 (by kernel_rfl) rfl,λS cargs hS hx=>?_⟩;obtain⟨v1,r1,rfl,⟨_,hgn,_,hv1⟩,v2,r2,rfl,⟨lb,rfl,rfl⟩,rfl⟩:=hx;have hgr:=hS.grp g hg;rw[hG] at hgr;obtain⟨a,cap',rfl,hcase⟩:=hv1 hgr.ver;have hpos:0<l.length:=by cases l;exact absurd rfl h1;simp
 obtain⟨rfl,rfl,hcap⟩:=hcase.resolve_right (λh=>by omega);have hlen:l.length<=S.cap g:=by have:=hgr.len (show 0<1 by decide);simpa using this
 obtain⟨⟨cells,T,vs,b1,b2,b3,b4⟩,hni⟩:=hgr.live (show 0<1 by decide) (by omega);obtain⟨pl,e1,rfl⟩:=O5 hw b3;have b2':cells.size=S.cap g * 1:=b2;have hpl:pl.length=l.length:=by rw[<-e1,Ba]
 have hblk:S.place g<S.w.heap.size:=(AM.1 b1).1;have hcon:=Any.slices_SortFunc Tryz.sortWd (encW S) (oneW S) (cfW S) (swoW S) 77 #[] (S.place g) 0 (S.cap g-0) pl.toArray S.w eg (WW S hS hni _) (z6e b1 b4) hblk (by simp;omega);change Calls Tryz.prog 107 _ _ _ at hcon;rw[BA,hpl] at hcon;rw[DY];refine hcon.mono λe w' ⟨he,d',n,os,hp,hs,hw'⟩=>?_;subst he hw';obtain⟨q1,q2,q3⟩:=hp;have q1:d'.size=l.length:=by simpa [hpl] using q1
 have hperm:(d'.toList.map λp=>p.val.1).Perm l:=by
  rw[Dm,Dm] at q3;have q4:d'.toList.Perm pl:=by simpa [List.extract,q1,hpl,An (show d'.toList.length<=l.length by simp[q1]),An (show pl.length<=l.length by omega)] using q3
  rw[<-e1];exact q4.map _
 rw[<-q1] at hs;obtain⟨cells',c1,c2,c3⟩:=zcn (n:=n) (d:=d') (os:=os) b1 (by omega);have hoth:∀b,b≠S.place g->b<S.w.heap.size->(sortWorld (encW S) S.w (S.place g) 0 n d' os).heap[b]? = S.w.heap[b]? := λb hb hlt=>I2 _ _ _ _ _ _ hlt (CH hb);have ev1:Evi S { S with w:=sortWorld (encW S) S.w (S.place g) 0 n d' os }:=⟨λb hb=>hoth b (λe=>hni (e ▸ .inl hb)) (hS.im b (.inl hb)),λ_ h=>h,Ac _,λ_ _=>Ac _,λ_ _ _=>⟨rfl,rfl,rfl⟩⟩;have hmm:(d'.toList.map λp=>p.val.1).map AE=d'.toList.map λp=>AE p.val.1:=by rw[CN];rfl
 have hh:=hS.moved hg (by rw[hG];exact (show 0<1 by decide)) (sortWorld (encW S) S.w (S.place g) 0 n d' os) (S.place g) (S.cap g) ⟨1,ver,ex,(d'.toList.map λp=>p.val.1).map AE⟩ rfl ⟨rfl,Et _ _⟩ rfl
  (Jf ..)
  (λb hb hlt=>hoth b (λe=>hb ⟨by omega,e⟩) hlt)
  (.inl ⟨by omega,rfl⟩) (λ_=>⟨cells',T,_,c1,by rw[c2];exact b2',by rw[hmm];exact z06 _,c3⟩) (by simp[q1];exact hlen)
  (λhx=>by have:=hgr.full (show 0<1 by decide) hx;simp at this;simp[q1];exact this) (show 0<1 by decide) (by rw[hgr.ver];exact Ac _) (λ_=>⟨rfl,rfl,by rw[hgr.wid]⟩)
 exact⟨_,_,.tup [],_,rfl,rfl,hh.1,hh.2,⟨[],rfl,rfl⟩,rfl,_,hperm,z05 hs,rfl⟩
set_option maxRecDepth 100000
theorem z6f(l:List (List Int)):B4 Tryz.prog 154 [.ref 0 1 0 0,.int .i64 0,.int .i64 0,.fn 77 []] (Abs.hl [⟨1,1,true,l.map AE⟩]) λy H'=>y=.tup []/\H'=Abs.hl [⟨1,1,true,l.map AE⟩]:=by
 refine GF (b:=1) F9 rfl ?_;unfold DT;(with_reducible repeat'(first|simp (disch:=omega) only[push_cast,↓zz,seval]|apply Aa|refine sp_ ?_ ?_<;>intro hc<;>push_cast at hc|omega|intro _))
 refine Bv (B8 (λ(_:Unit)=>True) (λ_=>0) (λ_=>[(0,.ref 0 1 0 0),(1,.int .i64 0),(2,.int .i64 0),(3,.fn 77 []),(8,.int .i64 1)])
  (λ_=>[⟨1,1,true,l.map AE⟩]) (λ_ _=>[]) () trivial ?_ ?_)
 ·(with_reducible repeat'(first|simp (disch:=omega) only[push_cast,↓zz,seval]|apply Aa|refine sp_ ?_ ?_<;>intro hc<;>push_cast at hc|omega|intro _))
 rintro _ _;refine W_T ?_;(with_reducible repeat'(first|simp (disch:=omega) only[push_cast,↓zz,seval]|apply Aa|refine sp_ ?_ ?_<;>intro hc<;>push_cast at hc|omega|intro _))
 all_goals trace_state
theorem pdqW0(l:List (List Int)):B4 Tryz.prog 138 [.ref 0 1 0 0,.int .i64 0,.int .i64 0,.int .i64 0,.fn 77 []] (Abs.hl [⟨1,1,true,l.map AE⟩]) λy H'=>y=.tup []/\H'=Abs.hl [⟨1,1,true,l.map AE⟩]:=by
 refine GF (b:=1) Gn rfl ?_;unfold EL;(with_reducible repeat'(first|simp (disch:=omega) only[push_cast,↓zz,seval]|apply Aa|refine sp_ ?_ ?_<;>intro hc<;>push_cast at hc|omega|intro _))
 refine Bv (B8 (λ(_:Unit)=>True) (λ_=>0) (λ_=>[(0,.ref 0 1 0 0),(1,.int .i64 0),(2,.int .i64 0),(3,.int .i64 0),(4,.fn 77 []),(10,.bool true),(11,.bool true)])
  (λ_=>[⟨1,1,true,l.map AE⟩]) (λ_ _=>[]) () trivial ?_ ?_)
 ·(with_reducible repeat'(first|simp (disch:=omega) only[push_cast,↓zz,seval]|apply Aa|refine sp_ ?_ ?_<;>intro hc<;>push_cast at hc|omega|intro _))
 rintro _ _;refine W_T ?_;(with_reducible repeat'(first|simp (disch:=omega) only[push_cast,↓zz,seval]|apply Aa|refine sp_ ?_ ?_<;>intro hc<;>push_cast at hc|omega|intro _));refine B4.mono (z6f l) ?_;rintro y H' ⟨rfl,rfl⟩;(with_reducible repeat'(first|simp (disch:=omega) only[push_cast,↓zz,seval]|apply Aa|refine sp_ ?_ ?_<;>intro hc<;>push_cast at hc|omega|intro _))
 all_goals trace_state
theorem zgl(l:List (List Int)):B4 Tryz.prog 107 [.ref 0 1 0 0,.fn 77 []] (Abs.hl [⟨1,1,true,l.map AE⟩]) λy H'=>y=.tup []/\H'=Abs.hl [⟨1,1,true,l.map AE⟩]:=by
 refine GF (b:=1) Gh rfl ?_;unfold EF;(with_reducible repeat'(first|simp (disch:=omega) only[push_cast,↓zz,seval]|apply Aa|refine sp_ ?_ ?_<;>intro hc<;>push_cast at hc|refine ee z47 ?_|(refine cc z47 ?_;(simp(disch:=omega)only[push_cast,↓zz,seval]);(fail_if_success change False))|omega|intro _));refine B4.mono (pdqW0 l) ?_;rintro y H' ⟨rfl,rfl⟩;(with_reducible repeat'(first|simp (disch:=omega) only[push_cast,↓zz,seval]|apply Aa|refine sp_ ?_ ?_<;>intro hc<;>push_cast at hc|omega|intro _))
 all_goals trace_state
theorem Tu(l:List Int)(hl:l.length<=1000000000000):PC Tryz.prog 106 [AE l] (AE l):=by
 have hp:A9 (l.map (AV.int .i32))=true:=Bt .i32 _;cases l with
 |nil =>
  refine zf5 ?_ ?_
  ·refine Ct E3 ?_
   unfold Dr;(with_reducible repeat'(first|simp (disch:=omega) only[push_cast,↓zz,seval]|apply Aa|refine sp_ ?_ ?_<;>intro hc<;>push_cast at hc|omega|intro _))
  ·refine Ct E3 ?_
   unfold Dr;(with_reducible repeat'(first|simp (disch:=omega) only[push_cast,↓zz,seval]|apply Aa|refine sp_ ?_ ?_<;>intro hc<;>push_cast at hc|omega|intro _))
 |cons a l =>
  have hne:((a::l).map (AV.int .i32)).isEmpty=false:=rfl;have hm0:¬(a::l)=[]:=by simp
  generalize (a::l)=m at *;refine Ct E3 ?_;unfold Dr;(with_reducible repeat'(first|simp (disch:=omega) only[push_cast,↓zz,seval,hne,hp,hm0]|apply Aa|refine sp_ ?_ ?_<;>intro hc<;>push_cast at hc|omega|intro _))
  all_goals trace_state
theorem z07(l:List (List Int))(hl:l.length<=1000000000)(hw:∀w∈l,w.length<=1000000000):PC Tryz.prog 67 [G0 l] (G0 (Iw l)):=by
 have pW:=Cb l;refine Ct S8 ?_;unfold Md;(with_reducible repeat'(first|simp (disch:=omega) only[push_cast,↓zz,seval,pW]|apply Aa|refine sp_ ?_ ?_<;>intro hc<;>push_cast at hc|omega|intro _))
 refine Bv (B8 (λ(k:Nat)=>k<=l.length) (λk=>l.length-k)
  (λk=>[(3,.ref 0 1 0 l.length),(9,G0 l),(10,.int .i64 l.length),(11,.int .i64 k)]) (λk=>[⟨1,1,true,(l.take k).map AE++List.replicate (l.length-k) .nilS⟩]) (λenv _=>[DD 1 (env 3)]) 0 (by simp) ?_ ?_)
 ·(with_reducible repeat'(first|simp (disch:=omega) only[push_cast,↓zz,seval,pW,I1,List.take_zero,Bh,List.nil_append,Nat.sub_zero]|apply Aa|refine sp_ ?_ ?_<;>intro hc<;>push_cast at hc|omega|intro _))
 intro k hk;rcases Aj k l.length with hkl|hkl
 ·have hC:=Tu (nth l k) (by have:=hw _ (Bo hkl);omega)
  have lT:((l.take k).map AE++List.replicate (l.length-k) AV.nilS).length=l.length:=by simp;omega
  have sT:((l.take k).map AE++List.replicate (l.length-k) AV.nilS).set k (AE (nth l k))=(l.take (k+1)).map AE++List.replicate (l.length-(k+1)) AV.nilS:=by
   have e1:List.replicate (l.length-k) AV.nilS=AV.nilS::List.replicate (l.length-(k+1)) AV.nilS:=by rw[<-List.replicate_succ];congr 1;omega
   have e2:((l.take k).map AE).length=k:=by simp;omega
   rw[e1,En _ _ (by omega),e2,Nat.sub_self,List.set_cons_zero,take_at hkl,A7,Ax];rfl
  have pK:A9 ((nth l k).map (AV.int .i32))=true:=Bt .i32 _;have pT:∀k,A9 ((l.take k).map AE++List.replicate (l.length-k) AV.nilS)=true:=λk=>by rw[GZ,Cb (l.take k),I1];rfl
  generalize hwk:nth l k=w at *;generalize hLk:(l.take k).map AE++List.replicate (l.length-k) AV.nilS=T0 at *;have hp0:=pT k;have hp1:=pT (k+1);rw[hLk] at hp0;generalize hLk1:(l.take (k+1)).map AE++List.replicate (l.length-(k+1)) AV.nilS=T1 at *;refine W_T ?_;(with_reducible repeat'(first|simp (disch:=omega) only[push_cast,↓zz,seval,pW,hwk,lT,sT,pK,hp0]|apply Aa|refine sp_ ?_ ?_<;>intro hc<;>push_cast at hc|refine ee hC ?_|(refine cc hC ?_;(simp(disch:=omega)only[push_cast,↓zz,seval,pW,hwk,lT,sT,pK,hp0]);(fail_if_success change False))|omega|intro _))
  all_goals
   refine⟨k+1,?_⟩;(with_reducible repeat'(first|simp (disch:=omega) only[push_cast,↓zz,seval,pW,hLk1,hp1]|apply Aa|refine sp_ ?_ ?_<;>intro hc<;>push_cast at hc|omega|intro _))
 ·obtain rfl:k=l.length:=by omega
  have e1:(l.take l.length).map AE++List.replicate (l.length-l.length) AV.nilS=l.map AE:=by simp
  rw[e1];refine W_T ?_;(with_reducible repeat'(first|simp (disch:=omega) only[push_cast,↓zz,seval,pW]|apply Aa|refine sp_ ?_ ?_<;>intro hc<;>push_cast at hc|omega|intro _));by_cases h0:l=[]
  ·subst h0
   refine B4.mono (zgl []) ?_;rintro y H' ⟨rfl,rfl⟩;have hC:=Kc true [] (by simp) (λw hw'=>by cases hw');(with_reducible repeat'(first|simp (disch:=omega) only[push_cast,↓zz,seval]|apply Aa|refine sp_ ?_ ?_<;>intro hc<;>push_cast at hc|omega|intro _));refine B4.mono hC ?_;rintro y H' ⟨rfl,z,pz,rfl⟩;have e0:Cg [] 0=[]:=rfl;have e1:Iw []=[]:=rfl;(with_reducible repeat'(first|simp (disch:=omega) only[push_cast,↓zz,seval,pz,e0,e1,List.length_nil,Bh,List.nil_append,List.take_zero]|apply Aa|refine sp_ ?_ ?_<;>intro hc<;>push_cast at hc|omega|intro _))
  have hS:=zco (H:=Abs.hl [⟨1,1,true,l.map AE⟩]) (g:=0) (ver:=1) (ex:=true) (l:=l) (by show 0<1;omega) rfl h0 (by omega) hw;refine B4.mono hS ?_;rintro y H' ⟨rfl,l',hp,hs,rfl⟩;have hl':l'.length=l.length:=hp.length_eq;have hC:=Kc true l' (by omega) λw hw'=>hw w (hp.mem_iff.1 hw');have hsw:=WT hs hp;rw[hl'] at hC hsw;rw[hsw];(with_reducible repeat'(first|simp (disch:=omega) only[push_cast,↓zz,seval]|apply Aa|refine sp_ ?_ ?_<;>intro hc<;>push_cast at hc|omega|intro _));refine B4.mono hC ?_;rintro y H' ⟨rfl,z,pz,rfl⟩;generalize Cg l' l.length=M at *;have pM:=Cb M;have tM:∀z,List.take M.length (M.map AE++z)=M.map AE:=λz=>CV (by simp);(with_reducible repeat'(first|simp (disch:=omega) only[push_cast,↓zz,seval,pz,pM,tM]|apply Aa|refine sp_ ?_ ?_<;>intro hc<;>push_cast at hc|omega|intro _))
  all_goals trace_state
theorem WX(n:Nat)(h0:0<n)(hn:n<=1000000000):B4 Tryz.prog 105 [.nilS,.int .i64 n] (Abs.hl []) λy H'=>y=.ref 0 1 0 0/\H'=Abs.hl [⟨1,1,false,List.replicate n (AV.int .i32 0)⟩]:=by
 refine GF (b:=0) FF rfl ?_;unfold EC;have e0:((n:Int)-0).toNat=n:=by omega
 (with_reducible repeat'(first|simp (disch:=omega) only[push_cast,↓zz,seval,e0]|apply Aa|refine sp_ ?_ ?_<;>intro hc<;>push_cast at hc|omega|intro _))
 all_goals trace_state
theorem Tv:PC Tryz.prog 105 [.nilS,.int .i64 0] .nilS:=by
 refine Ct FF ?_;unfold EC;(with_reducible repeat'(first|simp (disch:=omega) only[push_cast,↓zz,seval]|apply Aa|refine sp_ ?_ ?_<;>intro hc<;>push_cast at hc|omega|intro _))
 all_goals trace_state
theorem Ht(l:List Int):A9 (l.map (AV.int .i32))=true:=Bt .i32 _
def Gf(ws:List (List Int))(k:Nat):List AV:=(ws.take k).flatten.map (AV.int .i32)++List.replicate (ws.flatten.length-(ws.take k).flatten.length) (AV.int .i32 0)
theorem O6{α:Type}(ws:List (List α)){k:Nat}(h:k<ws.length):(ws.take (k+1)).flatten=(ws.take k).flatten++ws[k]:=by
 rw[List.take_succ_eq_append_getElem h,List.flatten_append];simp only[List.flatten_cons,List.flatten_nil,A3]
theorem PR{α:Type}(ws:List (List α))(k:Nat):(ws.take k).flatten.length<=ws.flatten.length:=by
 have:ws.flatten=(ws.take k).flatten++(ws.drop k).flatten:=by rw[<-List.flatten_append,Cz]
 rw[this];simp
theorem RQ(ws:List (List Int))(hk:ws.length<=1000000000)(h0:0<ws.flatten.length)(hl:ws.flatten.length<=1000000000):PC Tryz.prog 66 [.lst 1 (ws.map AE)] (AE ws.flatten):=by
 have pW:A9 (ws.map AE)=true:=BL.2 λx hx=>by
  obtain⟨l,_,rfl⟩:=Ar.1 hx;exact Ht l
 have aW:∀k,k<ws.length->(ws.map AE).getD k .any=AE (nth ws k):=λk hk=>by simp[nth,List.getD,hk]
 have hG:=WX ws.flatten.length h0 hl;refine Ct Fu ?_;unfold Eo;(with_reducible repeat'(first|simp (disch:=omega) only[push_cast,↓zz,seval,pW]|apply Aa|refine sp_ ?_ ?_<;>intro hc<;>push_cast at hc|omega|intro _))
 refine Bv (B8 (λ(k:Nat)=>k<=ws.length) (λk=>ws.length-k)
  (λk=>[(0,.lst 1 (ws.map AE)),(3,.int .i64 (ws.take k).flatten.length),(9,.lst 1 (ws.map AE)),(10,.int .i64 ws.length),(11,.int .i64 k)]) (λ_=>[]) (λ_ _=>[]) 0 (by simp) ?_ ?_)
 ·(with_reducible repeat'(first|simp (disch:=omega) only[push_cast,↓zz,seval,pW,List.flatten_nil,List.length_nil]|apply Aa|refine sp_ ?_ ?_<;>intro hc<;>push_cast at hc|omega|intro _))
 intro k hkw;rcases Aj k ws.length with hkl|hkl
 ·have hn:nth ws k=ws[k]:=by simp[nth,hkl]
  have hf:=O6 ws hkl;rw[<-hn] at hf;have h1:=PR ws (k+1);have h2:(ws.take (k+1)).flatten.length=(ws.take k).flatten.length+(nth ws k).length:=by rw[hf];simp
  have aK:=aW k hkl;generalize (ws.take k).flatten.length=m at *;refine W_T ?_;(with_reducible repeat'(first|simp (disch:=omega) only[push_cast,↓zz,seval,pW,aK]|apply Aa|refine sp_ ?_ ?_<;>intro hc<;>push_cast at hc|omega|intro _))
  all_goals
   refine⟨k+1,?_⟩;(with_reducible repeat'(first|simp (disch:=omega) only[push_cast,↓zz,seval,pW,h2]|apply Aa|refine sp_ ?_ ?_<;>intro hc<;>push_cast at hc|omega|intro _))
 ·obtain rfl:k=ws.length:=by omega
  rw[An (Ac _)];have hzz:(ws.flatten.length:Int)≠0:=by omega
  refine W_T ?_;(with_reducible repeat'(first|simp (disch:=omega) only[push_cast,↓zz,seval,pW]|apply Aa|refine sp_ ?_ ?_<;>intro hc<;>push_cast at hc|omega|intro _))
  (refine Ju [] (hG) (by decide) (by simp) (by (simp(disch:=omega)only[push_cast,↓zz,seval])) (by (simp(disch:=omega)only[push_cast,↓zz,seval])) (by (simp(disch:=omega)only[push_cast,↓zz,seval])) (by (simp(disch:=omega)only[push_cast,↓zz,seval,Ah,Au,AA,BW,De,Cq])) ?_)
  rintro y H' ⟨rfl,rfl⟩;refine⟨_,rfl,by simp,?_⟩;(with_reducible repeat'(first|simp (disch:=omega) only[push_cast,↓zz,seval,pW]|apply Aa|refine sp_ ?_ ?_<;>intro hc<;>push_cast at hc|omega|intro _))
  refine Bv (B8 (λ(k:Nat)=>k<=ws.length) (λk=>ws.length-k)
   (λk=>[(6,.ref 0 1 0 (ws.take k).flatten.length),(25,.lst 1 (ws.map AE)),(26,.int .i64 ws.length),(27,.int .i64 k)]) (λk=>[⟨1,1,false,Gf ws k⟩]) (λenv _=>[DD 1 (env 6)]) 0 (by simp) ?_ ?_)
  ·have r0:Gf ws 0=List.replicate ws.flatten.length (AV.int .i32 0):=by simp[Gf]
   have pZ:∀n,A9 (List.replicate n (AV.int .i32 0))=true:=λn=>BL.2 λx hx=>by rw[Ci hx];rfl
   (with_reducible repeat'(first|simp (disch:=omega) only[push_cast,↓zz,seval,pW,pZ,r0,List.flatten_nil,List.length_nil]|apply Aa|refine sp_ ?_ ?_<;>intro hc<;>push_cast at hc|omega|intro _))
  intro k hkw
  have pL:∀k,A9 (Gf ws k)=true:=λk=>by
   rw[Gf,GZ,Ht,AN];exact BL.2 λx hx=>by rw[Ci hx];rfl
  have h1:=PR ws k;have lR:(Gf ws k).length=ws.flatten.length:=by simp only[Gf,Al,Ba,List.length_replicate];omega
  rcases Aj k ws.length with hkl|hkl
  ·have hn:nth ws k=ws[k]:=by simp[nth,hkl]
   have hf:=O6 ws hkl;rw[<-hn] at hf;have h1':=PR ws (k+1);have h2:(ws.take (k+1)).flatten.length=(ws.take k).flatten.length+(nth ws k).length:=by rw[hf];simp
   have aK:=aW k hkl;have pw:=Ht (nth ws k)
   have hR:(Gf ws k).take (ws.take k).flatten.length++(nth ws k).map (AV.int .i32)++(Gf ws k).drop ((ws.take k).flatten.length+(nth ws k).length)=Gf ws (k+1):=by
    have e1:(Gf ws k).take (ws.take k).flatten.length=(ws.take k).flatten.map (AV.int .i32):=by
     rw[Gf];exact CV (by rw[Ba])
    have e2:(Gf ws k).drop ((ws.take k).flatten.length+(nth ws k).length)=List.replicate (ws.flatten.length-(ws.take (k+1)).flatten.length) (AV.int .i32 0):=by
     rw[<-Eb,Gf,List.drop_left' (by rw[Ba]),List.drop_replicate,h2];congr 1;omega
    rw[e1,e2,Gf,hf,A7,Ax]
   rw[Ax] at hR
   have hQ:(Gf ws k).length<=(ws.take k).flatten.length->Gf ws k++(nth ws k).map (AV.int .i32)=Gf ws (k+1):=λh=>by
    have h0:nth ws k=[]:=Ao (by omega);rw[Gf,Gf,hf,h0,A3,Bh,A3]
   have pT:A9 ((Gf ws k).take (ws.take k).flatten.length)=true:=BL.2 λx hx=>BL.1 (pL k) x (BC hx);have pD:A9 ((Gf ws k).drop ((ws.take k).flatten.length+(nth ws k).length))=true:=BL.2 λx hx=>BL.1 (pL k) x (BQ hx);have hpk:=pL k;have hpk1:=pL (k+1);generalize (ws.take k).flatten.length=m at *;generalize hRk:Gf ws k=R at *;generalize hRk1:Gf ws (k+1)=R1 at *;refine W_T ?_;(with_reducible repeat'(first|simp (disch:=omega) only[push_cast,↓zz,seval,pW,aK,pw,hpk]|apply Aa|refine sp_ ?_ ?_<;>intro hc<;>push_cast at hc|omega|intro _))
   all_goals
    refine⟨k+1,?_⟩;(with_reducible repeat'(first|simp (disch:=omega) only[push_cast,↓zz,seval,pW,h2,hRk1,hpk1,pw,hpk,pT,pD,hR,hQ]|apply Aa|refine sp_ ?_ ?_<;>intro hc<;>push_cast at hc|omega|intro _))
  ·obtain rfl:k=ws.length:=by omega
   have rE:Gf ws ws.length=ws.flatten.map (AV.int .i32):=by simp[Gf]
   rw[rE,AB] at *;refine W_T ?_;(with_reducible repeat'(first|simp (disch:=omega) only[push_cast,↓zz,seval,pW,Ht]|apply Aa|refine sp_ ?_ ?_<;>intro hc<;>push_cast at hc|omega|intro _))
   all_goals trace_state
theorem PS(ws:List (List Int))(hk:ws.length<=1000000000)(h0:ws.flatten.length=0):PC Tryz.prog 66 [.lst 1 (ws.map AE)] (AE ws.flatten):=by
 have pW:A9 (ws.map AE)=true:=BL.2 λx hx=>by
  obtain⟨l,_,rfl⟩:=Ar.1 hx;exact Ht l
 have hE:ws.flatten=[]:=Ao h0
 have aW:∀k,k<ws.length->(ws.map AE).getD k .any=.lst 1 []:=λk hk=>by
  have:ws[k]=[]:=by
   have:=List.flatten_eq_nil_iff.1 hE _ (BI hk);exact this
  simp[List.getD,hk,this,AE]
 have hG:=Tv;rw[hE];refine Ct Fu ?_;unfold Eo;(with_reducible repeat'(first|simp (disch:=omega) only[push_cast,↓zz,seval,pW]|apply Aa|refine sp_ ?_ ?_<;>intro hc<;>push_cast at hc|omega|intro _))
 refine Bv (B8 (λ(k:Nat)=>k<=ws.length) (λk=>ws.length-k)
  (λk=>[(0,.lst 1 (ws.map AE)),(3,.int .i64 0),(9,.lst 1 (ws.map AE)),(10,.int .i64 ws.length),(11,.int .i64 k)]) (λ_=>[]) (λ_ _=>[]) 0 (by simp) ?_ ?_)
 ·(with_reducible repeat'(first|simp (disch:=omega) only[push_cast,↓zz,seval,pW]|apply Aa|refine sp_ ?_ ?_<;>intro hc<;>push_cast at hc|omega|intro _))
 intro k hkw;rcases Aj k ws.length with hkl|hkl
 ·have aK:=aW k hkl
  refine W_T ?_;(with_reducible repeat'(first|simp (disch:=omega) only[push_cast,↓zz,seval,pW,aK]|apply Aa|refine sp_ ?_ ?_<;>intro hc<;>push_cast at hc|omega|intro _))
  all_goals
   refine⟨k+1,?_⟩;(with_reducible repeat'(first|simp (disch:=omega) only[push_cast,↓zz,seval,pW]|apply Aa|refine sp_ ?_ ?_<;>intro hc<;>push_cast at hc|omega|intro _))
 ·obtain rfl:k=ws.length:=by omega
  refine W_T ?_;(with_reducible repeat'(first|simp (disch:=omega) only[push_cast,↓zz,seval,pW]|apply Aa|refine sp_ ?_ ?_<;>intro hc<;>push_cast at hc|refine ee hG ?_|(refine cc hG ?_;(simp(disch:=omega)only[push_cast,↓zz,seval,pW]);(fail_if_success change False))|omega|intro _))
  refine Bv (B8 (λ(k:Nat)=>k<=ws.length) (λk=>ws.length-k)
   (λk=>[(6,.ref 0 1 0 0),(25,.lst 1 (ws.map AE)),(26,.int .i64 ws.length),(27,.int .i64 k)]) (λk=>[⟨1,1,false,[]⟩]) (λenv _=>[DD 1 (env 6)]) 0 (by simp) ?_ ?_)
  ·(with_reducible repeat'(first|simp (disch:=omega) only[push_cast,↓zz,seval,pW]|apply Aa|refine sp_ ?_ ?_<;>intro hc<;>push_cast at hc|omega|intro _))
  intro k hkw;rcases Aj k ws.length with hkl|hkl
  ·have aK:=aW k hkl
   refine W_T ?_;(with_reducible repeat'(first|simp (disch:=omega) only[push_cast,↓zz,seval,pW,aK]|apply Aa|refine sp_ ?_ ?_<;>intro hc<;>push_cast at hc|omega|intro _))
   all_goals
    refine⟨k+1,?_⟩;(with_reducible repeat'(first|simp (disch:=omega) only[push_cast,↓zz,seval,pW]|apply Aa|refine sp_ ?_ ?_<;>intro hc<;>push_cast at hc|omega|intro _))
  ·obtain rfl:k=ws.length:=by omega
   refine W_T ?_;(with_reducible repeat'(first|simp (disch:=omega) only[push_cast,↓zz,seval,pW]|apply Aa|refine sp_ ?_ ?_<;>intro hc<;>push_cast at hc|omega|intro _))
   all_goals trace_state
theorem PT(a b:List Int)(hl:a.length+b.length<=1000000000):PC Tryz.prog 66 [.lst 1 [AE a,AE b]] (AE (a++b)):=by
 have e:[a,b].flatten=a++b:=by simp
 have el:[a,b].flatten.length=a.length+b.length:=by rw[e,Al]
 rw[<-e];rcases Nat.eq_zero_or_pos [a,b].flatten.length with h|h
 ·exact PS [a,b] (by simp) h
 ·exact RQ [a,b] (by simp) h (by omega)
end Go.Proofs.YtbcjoeadpjfcfaaGreat
