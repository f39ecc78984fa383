/-
  Parts of the proof that the law holds whatever the input; without conditions.
-/
import Derived.Test.YtbcjoeadpjfcfaaGreatEK5
import Derived.Test.YtbcjoeadpjfcfaaGreatEK4
set_option linter.unusedSimpArgs false
set_option linter.unusedVariables false
namespace Go.Proofs.YtbcjoeadpjfcfaaGreat
open Abs
def Oh:Int->List Span->Bool
 |_,[]=>true
 |last,s::l=>decide (s.lo<=s.hi/\-1073741824<=s.lo/\s.hi<=1073741824/\last+1<s.lo)&&Oh s.hi l
def Xg(g:List Span):Bool:=Oh (-1073741826) g
theorem Zv(g:List Span)(hl:g.length<=9223372036854775807):PC Tryz.prog 145 [AY g] (.bool (Xg g)):=by
 refine BV SE ?_;unfold Mi;(with_reducible repeat'(first|(simp(disch:=omega)only[push_cast,↓zz,seval])|refine Aa ?_ ?_|(first|refine Ac ?_ ?_|refine Ab ?_ ?_)<;>intro hc<;>(try simp only[push_cast] at hc)|omega|intro _))
 refine B4 (BK (λ(s:Nat × Int)=>s.1<=g.length/\Xg g=Oh s.2 (g.drop s.1)/\-1073741826<=s.2/\s.2<=1073741824) (λs=>g.length-s.1)
  (λs=>[(3,.int .i64 s.2),(6,AY g),(7,.int .i64 g.length),(8,.int .i64 s.1)]) (λs=>[]) (λ_ _=>[]) (0,-1073741826) ⟨by simp,rfl,by simp,by simp⟩ ?_ ?_)
 ·(with_reducible repeat'(first|(simp(disch:=omega)only[push_cast,↓zz,seval])|refine Aa ?_ ?_|(first|refine Ac ?_ ?_|refine Ab ?_ ?_)<;>intro hc<;>(try simp only[push_cast] at hc)|omega|intro _))
 rintro⟨k,last⟩ ⟨h1,h2,h3,h4⟩;simp only at h1 h2 h3 h4;rcases An k g.length with hk|hk
 ·rw[drop_at hk,Oh] at h2
  generalize hxe:nth g k=x at *;have hw:IntKind.i64.wrap (last+1)=last+1:=IntWalk.i64_in _ (by omega);refine W_T ?_;(with_reducible repeat'(first|(simp(disch:=omega)only[push_cast,↓zz,seval,hw,hxe])|refine Aa ?_ ?_|(first|refine Ac ?_ ?_|refine Ab ?_ ?_)<;>intro hc<;>(try simp only[push_cast] at hc)|omega|intro _))
  all_goals first
   |(rw[h2,By (by omega),AA];done)
   |exact⟨(k+1,x.hi),⟨rfl,by push_cast⟩,⟨by simp only;omega,by rw[h2,Ba (by omega),Ax],by simp only;omega,by simp only;omega⟩,by simp only;omega⟩
 ·rw[A6 hk,Oh] at h2
  refine W_T ?_;(with_reducible repeat'(first|(simp(disch:=omega)only[push_cast,↓zz,seval,h2])|refine Aa ?_ ?_|(first|refine Ac ?_ ?_|refine Ab ?_ ?_)<;>intro hc<;>(try simp only[push_cast] at hc)|omega|intro _))
  all_goals trace_state
def PO(i:Int)(g:List Span):Bool:=!decide ((g.length:Int)=0)&&(decide ((g.length:Int)<=64)&&(Xg g&&decide (Ju g (domL i)=[])))
def HA(i:Int)(gs:List (List Span)):Bool:=decide ((gs.length:Int)<=4)&&gs.all (PO i)
theorem Oi(i:Int)(gs:List (List Span)):PC Tryz.prog 120 [.int .i64 i,Bs gs] (.bool (HA i gs)):=by
 have hP:=AL gs;have hD:=FW i;have hdl:=z49 i;refine BV QK ?_;unfold KI;by_cases h4:4<gs.length
 ·rw[HA,By (by omega),AA]
  (with_reducible repeat'(first|(simp(disch:=omega)only[push_cast,↓zz,seval])|refine Aa ?_ ?_|(first|refine Ac ?_ ?_|refine Ab ?_ ?_)<;>intro hc<;>(try simp only[push_cast] at hc)|omega|intro _))
 rw[HA,Ba (by omega),Ax];(with_reducible repeat'(first|(simp(disch:=omega)only[push_cast,↓zz,seval])|refine Aa ?_ ?_|(first|refine Ac ?_ ?_|refine Ab ?_ ?_)<;>intro hc<;>(try simp only[push_cast] at hc)|refine eK hD ?_|refine eQ hD ?_|refine eG hD ?_|((first|refine cK hD ?_|refine cQ hD ?_|refine cG hD ?_);(simp(disch:=omega)only[push_cast,↓zz,seval]);(fail_if_success change False))|omega|intro _))
 refine B4 (BK (λ(k:Nat)=>k<=gs.length/\gs.all (PO i)=(gs.drop k).all (PO i)) (λk=>gs.length-k)
  (λk=>[(5,AY (domL i)),(13,Bs gs),(14,.int .i64 gs.length),(15,.int .i64 k)]) (λs=>[]) (λ_ _=>[]) 0 ⟨by simp,rfl⟩ ?_ ?_)
 ·(with_reducible repeat'(first|(simp(disch:=omega)only[push_cast,↓zz,seval,hP])|refine Aa ?_ ?_|(first|refine Ac ?_ ?_|refine Ab ?_ ?_)<;>intro hc<;>(try simp only[push_cast] at hc)|omega|intro _))
 rintro k ⟨h1,h2⟩;rcases An k gs.length with hk|hk
 ·rw[drop_at hk,List.all_cons,PO] at h2
  generalize hge:nth gs k=g at *;refine W_T ?_;by_cases hl:(g.length:Int)=0
  ·rw[Ba hl,Gb,AA,AA] at h2
   (with_reducible repeat'(first|(simp(disch:=omega)only[push_cast,↓zz,seval,hP,hge,h2])|refine Aa ?_ ?_|(first|refine Ac ?_ ?_|refine Ab ?_ ?_)<;>intro hc<;>(try simp only[push_cast] at hc)|omega|intro _))
  by_cases hl2:(g.length:Int)<=64
  ·rw[By hl,Ba hl2,EK,Ax,Ax] at h2
   have hW:=NT g (domL i) (by omega) (by omega);have hC:=Zv g (by omega);(with_reducible repeat'(first|(simp(disch:=omega)only[push_cast,↓zz,seval,hP,hge])|refine Aa ?_ ?_|(first|refine Ac ?_ ?_|refine Ab ?_ ?_)<;>intro hc<;>(try simp only[push_cast] at hc)|refine eK hC ?_|refine eQ hC ?_|refine eG hC ?_|refine eK hW ?_|refine eQ hW ?_|refine eG hW ?_|((first|refine cK hC ?_|refine cQ hC ?_|refine cG hC ?_|refine cK hW ?_|refine cQ hW ?_|refine cG hW ?_);(simp(disch:=omega)only[push_cast,↓zz,seval,hP,hge]);(fail_if_success change False))|omega|intro _))
   all_goals first
    |(rw[h2];simp[*];done)
    |exact⟨k+1,by push_cast,⟨by omega,by rw[h2];simp[*]⟩,by omega⟩
  ·rw[By hl2,AA,EJ,AA] at h2
   (with_reducible repeat'(first|(simp(disch:=omega)only[push_cast,↓zz,seval,hP,hge,h2])|refine Aa ?_ ?_|(first|refine Ac ?_ ?_|refine Ab ?_ ?_)<;>intro hc<;>(try simp only[push_cast] at hc)|omega|intro _))
 ·rw[A6 hk,List.all_nil] at h2
  refine W_T ?_;(with_reducible repeat'(first|(simp(disch:=omega)only[push_cast,↓zz,seval,hP,h2])|refine Aa ?_ ?_|(first|refine Ac ?_ ?_|refine Ab ?_ ?_)<;>intro hc<;>(try simp only[push_cast] at hc)|omega|intro _))
  all_goals trace_state
def I1(d:Desc)(s:Int):Bool:=decide (0<=s)&&decide (s<d.states)
theorem JM(d:Desc)(s:Int):PC Tryz.prog 119 [Dm d,.int .i64 s] (.bool (I1 d s)):=by
 refine BV S7 ?_;unfold Md I1;(with_reducible repeat'(first|(simp(disch:=omega)only[push_cast,↓zz,seval])|refine Aa ?_ ?_|(first|refine Ac ?_ ?_|refine Ab ?_ ?_)<;>intro hc<;>(try simp only[push_cast] at hc)|omega|intro _))
 all_goals simp only[*,Bi,AP,Ax,AA]
def OT(d:Desc):Bool:=decide (0<((domL d.in_).length:Int))&&(decide (0<((domL d.out).length:Int))&&(decide (1<=d.states)&&(decide (d.states<=1024)&&(I1 d d.start&&(decide ((d.rules.length:Int)<=4096)&&decide ((d.finals.length:Int)<=4096))))))
theorem z4b(d:Desc):PC Tryz.prog 117 [Dm d] (.bool (OT d)):=by
 have h1:=FW d.in_;have h2:=FW d.out;have h3:=JM d d.start;refine BV U3 ?_;unfold N1 OT;(with_reducible repeat'(first|(simp(disch:=omega)only[push_cast,↓zz,seval])|refine Aa ?_ ?_|(first|refine Ac ?_ ?_|refine Ab ?_ ?_)<;>intro hc<;>(try simp only[push_cast] at hc)|refine eK h1 ?_|refine eQ h1 ?_|refine eG h1 ?_|refine eK h2 ?_|refine eQ h2 ?_|refine eG h2 ?_|refine eK h3 ?_|refine eQ h3 ?_|refine eG h3 ?_|((first|refine cK h1 ?_|refine cQ h1 ?_|refine cG h1 ?_|refine cK h2 ?_|refine cQ h2 ?_|refine cG h2 ?_|refine cK h3 ?_|refine cQ h3 ?_|refine cG h3 ?_);(simp(disch:=omega)only[push_cast,↓zz,seval]);(fail_if_success change False))|omega|intro _))
 all_goals simp only[*,Bi,AP,Ax,AA]
 all_goals trace_state
def G9(d:Desc)(out:List Term)(gs:List (List Span)):Bool:=decide ((out.length:Int)<=64)&&out.all λt=>KV t d.in_ d.out gs
theorem Oj(d:Desc)(out:List Term)(gs:List (List Span))(ho:∀t∈out,t.parts.length<1000000000000)(hg:∀g∈gs,g.length<=1000000)(hl:gs.length<=9223372036854775807):
 PC Tryz.prog 121 [Dm d,C9 out,Bs gs] (.bool (G9 d out gs)):=by
 have hP:=AL gs;have hT:=B5 out;refine BV QL ?_;unfold KJ;by_cases h4:64<out.length
 ·rw[G9,By (by omega),AA]
  (with_reducible repeat'(first|(simp(disch:=omega)only[push_cast,↓zz,seval])|refine Aa ?_ ?_|(first|refine Ac ?_ ?_|refine Ab ?_ ?_)<;>intro hc<;>(try simp only[push_cast] at hc)|omega|intro _))
 rw[G9,Ba (by omega),Ax];(with_reducible repeat'(first|(simp(disch:=omega)only[push_cast,↓zz,seval])|refine Aa ?_ ?_|(first|refine Ac ?_ ?_|refine Ab ?_ ?_)<;>intro hc<;>(try simp only[push_cast] at hc)|omega|intro _))
 refine B4 (BK (λ(k:Nat)=>k<=out.length/\(out.all λt=>KV t d.in_ d.out gs)=(out.drop k).all λt=>KV t d.in_ d.out gs) (λk=>out.length-k)
  (λk=>[(2,Bs gs),(3,.ptr 0 1 0 0),(12,C9 out),(13,.int .i64 out.length),(14,.int .i64 k)]) (λs=>[⟨6,1,true,[Dm d]⟩]) (λenv _=>[C0 1 (env 3)]) 0 ⟨by simp,rfl⟩ ?_ ?_)
 ·(with_reducible repeat'(first|(simp(disch:=omega)only[push_cast,↓zz,seval,hP,hT])|refine Aa ?_ ?_|(first|refine Ac ?_ ?_|refine Ab ?_ ?_)<;>intro hc<;>(try simp only[push_cast] at hc)|omega|intro _))
 rintro k ⟨h1,h2⟩;rcases An k out.length with hk|hk
 ·rw[drop_at hk,List.all_cons] at h2
  have hF:=z4a (nth out k) d.in_ d.out gs (ho _ (B2 hk)) hg hl;refine W_T ?_;(with_reducible repeat'(first|(simp(disch:=omega)only[push_cast,↓zz,seval,hP,hT])|refine Aa ?_ ?_|(first|refine Ac ?_ ?_|refine Ab ?_ ?_)<;>intro hc<;>(try simp only[push_cast] at hc)|refine eK hF ?_|refine eQ hF ?_|refine eG hF ?_|((first|refine cK hF ?_|refine cQ hF ?_|refine cG hF ?_);(simp(disch:=omega)only[push_cast,↓zz,seval,hP,hT]);(fail_if_success change False))|omega|intro _))
  all_goals first
   |(rw[h2];simp[*];done)
   |exact⟨k+1,by push_cast,⟨by omega,by rw[h2];simp[*]⟩,by omega⟩
 ·rw[A6 hk,List.all_nil] at h2
  refine W_T ?_;(with_reducible repeat'(first|(simp(disch:=omega)only[push_cast,↓zz,seval,hP,hT,h2])|refine Aa ?_ ?_|(first|refine Ac ?_ ?_|refine Ab ?_ ?_)<;>intro hc<;>(try simp only[push_cast] at hc)|omega|intro _))
  all_goals trace_state
def eatB(n e:Int):Bool:=!decide (e<min n 1)&&!decide (n<e)
def Hq(d:Desc)(r:Rule):Bool:=I1 d r.from_&&(I1 d r.to_&&(HA d.in_ r.guards&&(eatB r.guards.length r.eat&&G9 d r.out r.guards)))
theorem G0{i:Int}{gs:List (List Span)}(h:HA i gs=true):gs.length<=4/\∀g∈gs,g.length<=64:=by
 simp only[HA,Ad,Aj] at h;refine⟨by omega,λg hg=>?_⟩;have:=AO.1 h.2 g hg;simp only[PO,Ad,Aj] at this;omega
theorem z4c(d:Desc)(r:Rule)(ho:∀t∈r.out,t.parts.length<1000000000000):PC Tryz.prog 118 [Dm d,D6 r] (.bool (Hq d r)):=by
 have h1:=JM d r.from_;have h2:=JM d r.to_;have h3:=Oi d.in_ r.guards;have hP:=AL r.guards;have hT:=B5 r.out;refine BV U4 ?_;unfold N2 Hq eatB;cases hg:HA d.in_ r.guards with
 |false =>
  rw[hg] at h3;(with_reducible repeat'(first|(simp(disch:=omega)only[push_cast,↓zz,seval,hP,hT])|refine Aa ?_ ?_|(first|refine Ac ?_ ?_|refine Ab ?_ ?_)<;>intro hc<;>(try simp only[push_cast] at hc)|refine eK h1 ?_|refine eQ h1 ?_|refine eG h1 ?_|refine eK h2 ?_|refine eQ h2 ?_|refine eG h2 ?_|refine eK h3 ?_|refine eQ h3 ?_|refine eG h3 ?_|((first|refine cK h1 ?_|refine cQ h1 ?_|refine cG h1 ?_|refine cK h2 ?_|refine cQ h2 ?_|refine cG h2 ?_|refine cK h3 ?_|refine cQ h3 ?_|refine cG h3 ?_);(simp(disch:=omega)only[push_cast,↓zz,seval,hP,hT]);(fail_if_success change False))|omega|intro _))
  all_goals simp only[*,Bi,AP,Ax,AA,EJ]
 |true =>
  rw[hg] at h3;obtain⟨g1,g2⟩:=G0 hg;have h4:=Oj d r.out r.guards ho (λg hg=>by have:=g2 g hg;omega) (by omega);(with_reducible repeat'(first|(simp(disch:=omega)only[push_cast,↓zz,seval,hP,hT])|refine Aa ?_ ?_|(first|refine Ac ?_ ?_|refine Ab ?_ ?_)<;>intro hc<;>(try simp only[push_cast] at hc)|refine eK h1 ?_|refine eQ h1 ?_|refine eG h1 ?_|refine eK h2 ?_|refine eQ h2 ?_|refine eG h2 ?_|refine eK h3 ?_|refine eQ h3 ?_|refine eG h3 ?_|refine eK h4 ?_|refine eQ h4 ?_|refine eG h4 ?_|((first|refine cK h1 ?_|refine cQ h1 ?_|refine cG h1 ?_|refine cK h2 ?_|refine cQ h2 ?_|refine cG h2 ?_|refine cK h3 ?_|refine cQ h3 ?_|refine cG h3 ?_|refine cK h4 ?_|refine cQ h4 ?_|refine cG h4 ?_);(simp(disch:=omega)only[push_cast,↓zz,seval,hP,hT]);(fail_if_success change False))|omega|intro _))
  all_goals simp only[*,Bi,AP,Ax,AA,EJ,Gb,EK,Fl]
  all_goals trace_state
abbrev UY(v:Nat)(l:List Int):Grp:=⟨1,v,l.isEmpty,l.map (AV.int .i64)⟩
def famF(n:Nat)(V:Nat->Nat)(D:Nat->List Int):List Grp:=(List.range n).map λi=>UY (V i) (D i)
def famT(n:Nat)(V:Nat->Nat)(D:Nat->List Int):List AV:=(List.range n).map λi=>AV.ref (i+3) (V i) 0 (D i).length
def famI(n:Nat)(f:Nat->Int):List AV:=(List.range n).map λi=>AV.int .i64 (f i)
theorem EV{α:Type}{n i:Nat}{f:Nat->α}{x:α}(h:i<n):((List.range n).map f).set i x=(List.range n).map λj=>if j=i then x else f j:=by
 refine C7 (by simp) λj h1 h2=>?_;simp only[CV,AM,CU] at h1;simp only[List.getElem_set,Fg,EB];by_cases e:i=j
 ·rw[Ai e,Ai e.symm]
 ·rw[Ah e,Ah λh=>e h.symm]
theorem Dy{α:Type}{n i:Nat}{f:Nat->α}{z:α}(h:i<n):((List.range n).map f).getD i z=f i:=by simp[List.getD,h]
theorem IK{ks:List Nat}{G:Grp}:∀{l:List Grp}{p i:Nat},p+i∈ks->Dd p ks l (l.set i G)
 |[],p,i,h=>trivial
 |a::l,p,0,h=>⟨.inl h,sameBut_refl⟩
 |a::l,p,i+1,h=>⟨.inr rfl,IK (by rwa [show p+1+i=p+(i+1) by omega])⟩
where sameBut_refl {ks:List Nat}:∀{l:List Grp}{p:Nat},Dd p ks l l
 |[],p=>trivial
 |a::l,p=>⟨.inr rfl,sameBut_refl⟩
theorem Xh:∀(l:List Grp)(G G':Grp),setQ (l++[G]) l.length G'=some (l++[G'])
 |[],_,_=>rfl
 |a::l,G,G'=>by rw[List.cons_append,List.length_cons,setQ,Xh l G G'];rfl
theorem Xi:∀(l:List Grp)(G G':Grp){i:Nat},i<l.length->setQ (l++[G]) i G'=some (l.set i G'++[G])
 |[],_,_,i,h=>by simp at h
 |a::l,G,G',0,h=>rfl
 |a::l,G,G',i+1,h=>by rw[List.cons_append,setQ,Xi l G G' (by simpa using h)];rfl
def setV(V:Nat->Nat)(i v:Nat)(j:Nat):Nat:=if j=i then v else V j
structure CycOk(d:Desc):Prop where
 st:1<=d.states/\d.states<=1024
 len:d.rules.length<=4096
 rul:∀r∈d.rules,(0<=r.from_/\r.from_<d.states)/\0<=r.to_/\r.to_<d.states
def Ol(d:Desc)(k:Nat):Env:=E4 [(1,.ptr 0 1 0 0),(3,.ref 1 1 0 d.states.toNat),(4,.ref 2 1 0 d.states.toNat),(21,DF d.rules),(22,.int .i64 d.rules.length),(23,.int .i64 k)]
def EH(d:Desc)(k:Nat)(V:Nat->Nat):A7:=Abs.hl (⟨6,1,true,[Dm d]⟩::⟨1,1,true,famT d.states.toNat V (toD (d.rules.take k))⟩::⟨1,1,true,famI d.states.toNat (inD (d.rules.take k))⟩::famF d.states.toNat V (toD (d.rules.take k)))
def cycL(d:Desc)(k:Nat)(V:Nat->Nat):List Grp:=⟨6,1,true,[Dm d]⟩::⟨1,1,true,famT d.states.toNat V (toD (d.rules.take k))⟩::⟨1,1,true,famI d.states.toNat (inD (d.rules.take k))⟩::famF d.states.toNat V (toD (d.rules.take k))
theorem PP(d:Desc)(k:Nat)(V:Nat->Nat):EH d k V=Abs.hl (cycL d k V):=rfl
theorem Rn(d:Desc)(k:Nat)(V:Nat->Nat):(cycL d k V).length=d.states.toNat+3:=by simp[cycL,famF]
theorem GR(d:Desc):(Dm d).pure=true:=by simp[Dm,AV.pure,AT,B8,B6]
theorem UZ(d:Desc)(k:Nat)(V:Nat->Nat):∀G∈cycL d k V,ltL (cycL d k V).length G.xs:=λG hG=>by
 rw[Rn];simp only[cycL,Ag] at hG;rcases hG with rfl|rfl|rfl|hG
 ·exact CS _ _ (by simp[AT,GR])
 ·have key:∀(l:List Nat),(∀i∈l,i<d.states.toNat)->ltL (d.states.toNat+3) (l.map λi=>AV.ref (i+3) (V i) 0 (toD (d.rules.take k) i).length):=λl=>by
   induction l with
   |nil=>exact λ_=>trivial
   |cons i l ih =>
    intro h;exact⟨by have:=h i (by simp);show i+3<_;omega,ih λj hj=>h j (by simp[hj])⟩
  exact key _ λi hi=>by simpa using hi
 ·exact CS _ _ (Ca.2 λx hx=>by
   obtain⟨i,_,rfl⟩:=Aq.1 hx
   rfl)
 ·obtain⟨i,_,rfl⟩:=Aq.1 hG
  exact CS _ _ (Cv .i64 _)
theorem z4d{d:Desc}{k:Nat}{V:Nat->Nat}{env:Env}{l gar:List Grp}(hn:1<=d.states)(hl':l=cycL d k V++gar)
 (h1:env 1=.ptr 0 1 0 0) (h3:env 3=.ref 1 1 0 d.states.toNat) (h4:env 4=.ref 2 1 0 d.states.toNat) (h21:env 21=DF d.rules) (h22:env 22=.int .i64 d.rules.length) (h23:env 23=.int .i64 k) :
 Ent 105 0 env (Abs.hl l) (Ol d k) (EH d k V):=by
 rw[hl',PP];refine (JK [(1,.ptr 0 1 0 0),(3,.ref 1 1 0 d.states.toNat),(4,.ref 2 1 0 d.states.toNat),(21,DF d.rules),(22,.int .i64 d.rules.length),(23,.int .i64 k)] (λp hp=>?_)).trans (NP (by omega) (UZ d k V) λi _=>?_)
 ·simp only[Ag,Am,A5] at hp
  rcases hp with rfl|rfl|rfl|rfl|rfl|rfl<;>assumption
 ·rw[Rn]
  have hr:ltV (d.states.toNat+3) (DF d.rules):=Ce _ _ (by simp[DF,AV.pure,B8]);simp only[E4]
  repeat' split
  all_goals first
   |exact hr
   |trivial
   |(show _<_;omega)
theorem zad{n i:Nat}{V:Nat->Nat}{D:Nat->List Int}{x:Int}(h:i<n):(famT n V D).set i (.ref (i+3) (V i+1) 0 ((D i).length+1))=famT n (setV V i (V i+1)) λp=>if p=i then D i++[x] else D p:=by
 rw[famT,EV h,famT];refine AQ λj _=>?_;by_cases e:j=i
 ·subst e;simp[setV]
 ·simp[setV,e]
theorem zae{n i:Nat}{V:Nat->Nat}{D:Nat->List Int}{x:Int}(h:i<n):(famF n V D).set i ⟨1,V i+1,false,(D i).map (AV.int .i64)++[.int .i64 x]⟩=famF n (setV V i (V i+1)) λp=>if p=i then D i++[x] else D p:=by
 rw[famF,EV h,famF];refine AQ λj _=>?_;by_cases e:j=i
 ·subst e;simp[setV,UY]
 ·simp[setV,e]
theorem Xj{n j:Nat}{f:Nat->Int}{x:Int}(h:j<n):(famI n f).set j (.int .i64 x)=famI n λp=>if p=j then x else f p:=by
 rw[famI,EV h,famI];refine AQ λp _=>?_;by_cases e:p=j
 ·subst e;simp
 ·simp[e]
theorem zaf{l:List Rule}{k i:Nat}(hk:k<l.length)(hi:(nth l k).from_=i)(he:Cy (nth l k)=true):toD (l.take (k+1))=λp=>if p=i then toD (l.take k) i++[(nth l k).to_] else toD (l.take k) p:=by
 funext p;rw[take_at hk];simp only[toD,BM,A9,BH,List.filter_nil,he,Ax,hi,Aj];by_cases e:p=i
 ·subst e;simp
 ·rw[Ah (by omega),Ah e];simp
theorem zag{l:List Rule}{k j:Nat}(hk:k<l.length)(hj:(nth l k).to_=j)(he:Cy (nth l k)=true):inD (l.take (k+1))=λp=>if p=j then inD (l.take k) j+1 else inD (l.take k) p:=by
 funext p;rw[take_at hk];simp only[inD,BM,Ak,BH,List.filter_nil,he,Ax,hj,Aj];by_cases e:p=j
 ·subst e;simp
 ·rw[Ah (by omega),Ah e];simp
theorem zah{l:List Rule}{k:Nat}(hk:k<l.length)(he:Cy (nth l k)=false):toD (l.take (k+1))=toD (l.take k)/\inD (l.take (k+1))=inD (l.take k):=by
 rw[take_at hk];refine⟨?_,?_⟩<;>funext p<;>simp[toD,inD,he]
theorem z4e(l:List Rule)(j:Nat):0<=inD l j/\inD l j<=l.length:=by
 have:=B7 (λr=>Cy r&&decide (r.to_=j)) l;simp only[inD];omega
theorem zcp(l:List Rule)(j:Nat):(toD l j).length<=l.length:=by
 have:=B7 (λr=>Cy r&&decide (r.from_=j)) l;simp only[toD,AM];omega
theorem Kx(l0:List Grp):∀l:List Grp,Il l0 l l
 |[]=>trivial
 |G::l=>⟨⟨rfl,rfl,id,Ck _ _⟩,Kx l0 l⟩
theorem zai(n:Nat):famF n (λ_=>1) (toD [])=(List.replicate n 1).map IX:=by
 rw[DJ];refine C7 (by simp[famF]) λi h1 h2=>?_;simp only[famF,Fg,EB,List.getElem_replicate];rfl
theorem zaj(n:Nat):famI n (inD [])=List.replicate n (.int .i64 0):=by
 refine C7 (by simp[famI]) λi h1 h2=>?_;simp[famI,inD]
theorem z4f{l:List Grp}{n:Nat}(h:∀i,i<n->l.getD (i+3) default=IX 1/\i+3<l.length):leSL l (List.replicate n .nilS) (famT n (λ_=>1) (toD [])):=by
 have key:∀idx:List Nat,(∀i∈idx,i<n)->leSL l (List.replicate idx.length .nilS) (idx.map λi=>AV.ref (i+3) 1 0 (toD [] i).length):=λidx=>by
  induction idx with
  |nil=>exact λ_=>rfl
  |cons i idx ih =>
   intro hi;obtain⟨h1,h2⟩:=h i (hi i (by simp));refine⟨?_,ih λj hj=>hi j (by simp[hj])⟩;show 0=0/\(toD [] i).length=0/\(l.getD (i+3) default).ver=1/\0<(l.getD (i+3) default).w/\(l.getD (i+3) default).xs=[]/\(l.getD (i+3) default).exact=true/\i+3<l.length;rw[h1];exact⟨rfl,rfl,rfl,by decide,rfl,rfl,h2⟩
 have:=key (List.range n) λi hi=>by simpa using hi
 rwa [CU] at this
theorem z4g{d:Desc}{env:Env}(h1:env 1=.ptr 0 1 0 0)(h3:env 3=.ref 1 1 0 d.states.toNat)(h4:env 4=.ref 2 1 0 d.states.toNat)(h21:env 21=DF d.rules)(h22:env 22=.int .i64 d.rules.length)(h23:env 23=.int .i64 0):
 Ent 105 0 env (Abs.hl [⟨6,1,true,[Dm d]⟩,⟨1,1,true,List.replicate d.states.toNat .nilS⟩,⟨1,1,true,List.replicate d.states.toNat (.int .i64 0)⟩]) (Ol d 0) (EH d 0 λ_=>1):=by
 refine (JK [(1,.ptr 0 1 0 0),(3,.ref 1 1 0 d.states.toNat),(4,.ref 2 1 0 d.states.toNat),(21,DF d.rules),(22,.int .i64 d.rules.length),(23,.int .i64 0)] (λp hp=>?_)).trans
  ((WT (List.replicate d.states.toNat 1) (λw hw=>by have:=(List.mem_replicate.1 hw).2;omega)).trans (z3f ?_ λi _=>HN _ _))
 ·simp only[Ag,Am,A5] at hp
  rcases hp with rfl|rfl|rfl|rfl|rfl|rfl<;>assumption
 ·rw[List.take_zero,zai,zaj]
  refine⟨⟨rfl,rfl,id,Ck _ _⟩,⟨rfl,rfl,id,z4f λi hi=>?_⟩,⟨rfl,rfl,id,Ck _ _⟩,Kx _ _⟩;refine⟨?_,by simp;omega⟩;rw[DJ];simp[List.getD,hi]
def z4h(n:Nat)(D:Nat->List Int):AV:=.lst 1 ((List.range n).map λi=>OK (D i))
theorem Om{n b:Nat}{env:Env}{H H':A7}(hn:H'.n=H.n)(h:∀g,g<H.n->H'.at_ g=H.at_ g):Ent n b env H env H':=λS val hb hS hv=>⟨S,rfl,.refl hb,hS.congr hn h,hv⟩
def KW(n:Nat):List Nat:=1::(List.range n).map (·+3)
theorem Tw{n i:Nat}(h:i<n):i+3∈KW n:=Ag.2 (.inr (Aq.2 ⟨i,Bo.2 h,rfl⟩))
theorem zcq(d:Desc)(k:Nat)(V:Nat->Nat){i:Nat}(hi:i<d.states.toNat):(EH d k V).at_ (i+3)=UY (V i) (toD (d.rules.take k) i):=by
 rw[EH,DT];simp only[C1];exact Dy hi
theorem zgw(d:Desc)(k:Nat)(V:Nat->Nat):Ea 2 ((EH d k V).only (KW d.states.toNat)) (.ref 1 1 0 d.states.toNat)/\frzV 2 ((EH d k V).only (KW d.states.toNat)) (.ref 1 1 0 d.states.toNat)=z4h d.states.toNat (toD (d.rules.take k)):=by
 have hat1:((EH d k V).only (KW d.states.toNat)).at_ 1=⟨1,1,true,famT d.states.toNat V (toD (d.rules.take k))⟩:=by
  show (if 1∈KW d.states.toNat then (EH d k V).at_ 1 else ((EH d k V).at_ 1).dead)=_;rw[Ai (by simp[KW])];rfl
 have hat:∀i,i<d.states.toNat->((EH d k V).only (KW d.states.toNat)).at_ (i+3)=UY (V i) (toD (d.rules.take k) i):=λi hi=>by
  show (if i+3∈KW d.states.toNat then (EH d k V).at_ (i+3) else ((EH d k V).at_ (i+3)).dead)=_;rw[Ai (Tw hi)];exact zcq d k V hi
 have htl:(((famT d.states.toNat V (toD (d.rules.take k))).drop 0).take d.states.toNat)=famT d.states.toNat V (toD (d.rules.take k)):=by
  rw[CM];exact Ar (by simp[famT])
 constructor
 ·refine⟨by rw[hat1],by rw[hat1];exact Nat.one_pos,by rw[hat1];simp[famT],λy hy=>?_⟩
  rw[hat1,htl] at hy;obtain⟨i,hi,rfl⟩:=Aq.1 hy;have hi':i<d.states.toNat:=by simpa using hi
  refine⟨by rw[hat i hi'],by rw[hat i hi'];exact Nat.one_pos,by rw[hat i hi'];simp,λz hz=>?_⟩;rw[hat i hi'] at hz;obtain⟨u,_,rfl⟩:=Aq.1 (BX (BP hz));rfl
 ·show AV.lst _ _=_
  rw[hat1,htl,z4h,famT,Dj];congr 1;refine AQ λi hi=>?_;have hi':i<d.states.toNat:=by simpa using hi
  show AV.lst _ _=_;rw[hat i hi']
  have e:(((UY (V i) (toD (d.rules.take k) i)).xs.drop 0).take (toD (d.rules.take k) i).length).map (frzV 0 ((EH d k V).only (KW d.states.toNat)))=(toD (d.rules.take k) i).map (AV.int .i64):=by
   rw[CM,Ar (by simp[UY])];refine (AQ λx hx=>?_).trans (List.map_id _);obtain⟨u,_,rfl⟩:=Aq.1 hx;rfl
  rw[e]
def JN(d:Desc)(k:Nat):List (Nat × AV):=[(1,.ptr 0 1 0 0),(3,z4h d.states.toNat (toD (d.rules.take k))),(4,.ref 2 1 0 d.states.toNat),(7,.nilS),(52,.ref 2 1 0 d.states.toNat),(53,.int .i64 d.states.toNat),(54,.int .i64 0)]
theorem Zw{d:Desc}{k:Nat}{V:Nat->Nat}{env:Env}(h1:env 1=.ptr 0 1 0 0)(h3:env 3=.ref 1 1 0 d.states.toNat)(h4:env 4=.ref 2 1 0 d.states.toNat)(h7:env 7=.nilS)(h52:env 52=.ref 2 1 0 d.states.toNat)(h53:env 53=.int .i64 d.states.toNat)(h54:env 54=.int .i64 0):
 Ent 105 0 env (EH d k V) (E4 (JN d k)) (Abs.hl [⟨6,1,true,[Dm d]⟩,⟨0,2,false,[]⟩,⟨1,1,true,famI d.states.toNat (inD (d.rules.take k))⟩]):=by
 obtain⟨f1,f2⟩:=zgw d k V;rw[<-h3] at f1 f2;refine (UK 3 2 (KW d.states.toNat) f1).trans ((JK (JN d k) λp hp=>?_).trans ((Om (H':=Abs.hl ([⟨6,1,true,[Dm d]⟩,⟨0,2,false,[]⟩,⟨1,1,true,famI d.states.toNat (inD (d.rules.take k))⟩]++(famF d.states.toNat V (toD (d.rules.take k))).map Grp.dead)) ?_ ?_).trans (NP (by omega) ?_ ?_)))
 ·rw[f2]
  simp only[JN,Ag,Am,A5] at hp;rcases hp with rfl|rfl|rfl|rfl|rfl|rfl|rfl<;>first|rfl|assumption
 ·simp[EH,A7.kill,Abs.hl]
 ·intro g hg
  show _=if g∈KW d.states.toNat then ((EH d k V).at_ g).dead else (EH d k V).at_ g
  have hlen:(EH d k V).n=d.states.toNat+3:=Rn d k V;have hg':g<d.states.toNat+3:=by rw[<-hlen];exact hg
  match g,hg' with
  |0,_=>rw[Ah (by simp[KW])];rfl
  |1,_=>rw[Ai (by simp[KW])];rfl
  |2,_=>rw[Ah (by simp[KW])];rfl
  |i+3,hi =>
   have hi':i<d.states.toNat:=by omega
   rw[Ai (Tw hi'),zcq d k V hi',DT];simp only[List.cons_append,List.nil_append,C1,famF,Dj];exact Dy hi'
 ·intro G hG
  simp only[Ag,Am,A5] at hG;rcases hG with rfl|rfl|rfl
  ·exact CS _ _ (by simp[AT,GR])
  ·trivial
  ·exact CS _ _ (Ca.2 λx hx=>by
    obtain⟨i,_,rfl⟩:=Aq.1 hx
    rfl)
 ·intro i _
  have hd:ltV 3 (z4h d.states.toNat (toD (d.rules.take k))):=trivial;simp only[E4,JN]
  repeat' split
  all_goals first
   |exact hd
   |trivial
   |(show _<_;simp)
theorem Zx(d:Desc)(hd:CycOk d):PC Tryz.prog 122 [Dm d] (.bool (@decide (cycP d.rules d.states.toNat) (Classical.propDecidable _))):=by
 obtain⟨⟨hn1,hn2⟩,hlen,hrul⟩:=hd;have hP:=B8 d.rules;refine BV S8 ?_;unfold Me;(with_reducible repeat'(first|(simp(disch:=omega)only[push_cast,↓zz,seval])|refine Aa ?_ ?_|(first|refine Ac ?_ ?_|refine Ab ?_ ?_)<;>intro hc<;>(try simp only[push_cast] at hc)|omega|intro _));refine B4 (Hi (λ(s:Nat × (Nat->Nat))=>s.1<=d.rules.length) (λs=>d.rules.length-s.1) (λs=>Ol d s.1) (λs=>EH d s.1 s.2) (0,λ_=>1) (by simp) ?_ ?_)
 ·exact z4g rfl rfl rfl rfl rfl rfl
 rintro⟨k,V⟩ hk;simp only at hk ⊢;rcases An k d.rules.length with hkl|hkl
 ·have hr:=hrul _ (B2 hkl)
  generalize hre:nth d.rules k=r at *;have hgr:=AL r.guards;have hot:=B5 r.out;obtain⟨n,hn⟩:∃n:Nat,d.states=n:=⟨d.states.toNat,by omega⟩;obtain⟨i,hi⟩:∃i:Nat,r.from_=i:=⟨r.from_.toNat,by omega⟩;obtain⟨j,hj⟩:∃j:Nat,r.to_=j:=⟨r.to_.toNat,by omega⟩;have hin:i<n:=by omega
  have hjn:j<n:=by omega
  have hni:¬n=i:=by omega
  have ee:Ol d k=E4 [(1,.ptr 0 1 0 0),(3,.ref 1 1 0 n),(4,.ref 2 1 0 n),(21,DF d.rules),(22,.int .i64 d.rules.length),(23,.int .i64 k)]:=by simp only[Ol,hn,Int.toNat_natCast]
  have eh:EH d k V=Abs.hl (⟨6,1,true,[Dm d]⟩::⟨1,1,true,famT n V (toD (d.rules.take k))⟩::⟨1,1,true,famI n (inD (d.rules.take k))⟩::famF n V (toD (d.rules.take k))):=by simp only[EH,hn,Int.toNat_natCast]
  rw[ee,eh];clear ee eh;have hFl:(famF n V (toD (d.rules.take k))).length=n:=by simp[famF]
  have hTl:(famT n V (toD (d.rules.take k))).length=n:=by simp[famT]
  have hIl:(famI n (inD (d.rules.take k))).length=n:=by simp[famI]
  have gI:∀G,(famF n V (toD (d.rules.take k))++[G]).getD i default=UY (V i) (toD (d.rules.take k) i):=λG=>by
   rw[Av,AE (by omega),<-Av];exact Dy hin
  have gR:∀G,(famF n V (toD (d.rules.take k))++[G]).getD n default=G:=λG=>by
   rw[Av,AG (by omega)];simp[hFl]
  have tI:(famT n V (toD (d.rules.take k))).getD i .any=.ref (i+3) (V i) 0 (toD (d.rules.take k) i).length:=Dy hin;have iJ:(famI n (inD (d.rules.take k))).getD j .any=.int .i64 (inD (d.rules.take k) j):=Dy hjn
  have sR:∀G G',setQ (famF n V (toD (d.rules.take k))++[G]) n G'=some (famF n V (toD (d.rules.take k))++[G']):=λG G'=>by
   have:=Xh (famF n V (toD (d.rules.take k))) G G'
   rwa [hFl] at this
  have sI:∀G G',setQ (famF n V (toD (d.rules.take k))++[G]) i G'=some ((famF n V (toD (d.rules.take k))).set i G'++[G]):=λG G'=>Xi _ _ _ (by omega)
  have gR2:∀G G',((famF n V (toD (d.rules.take k))).set i G'++[G]).getD n default=G:=λG G'=>by
   rw[Av,AG (by simp[hFl])];simp[hFl]
  have hSB:∀R G,Dd 3 [i+3] (famF n V (toD (d.rules.take k))++[R]) ((famF n V (toD (d.rules.take k))).set i G++[R]):=λR G=>by
   rw[<-Fq _ _ (by omega)];exact IK (by simp;omega)
  generalize hF:famF n V (toD (d.rules.take k))=F at *;generalize hT:famT n V (toD (d.rules.take k))=TT at *;generalize hI:famI n (inD (d.rules.take k))=II at *;generalize hD:toD (d.rules.take k) i=Di at *;generalize hJ:inD (d.rules.take k) j=Ij at *;refine W_T ?_;have hEx:(!Di.isEmpty||(Di.map (AV.int .i64)).isEmpty)=true:=by cases Di<;>rfl
  have hDl:Di.length<=4096:=by rw[<-hD];have:=zcp (d.rules.take k) i;simp at this;omega
  have hJb:0<=Ij/\Ij<=4096:=by rw[<-hJ];have:=z4e (d.rules.take k) j;simp at this;omega
  (with_reducible repeat'(first|(simp(disch:=omega)only[push_cast,↓zz,seval,hP,hre,hi,hj,hFl,hTl,hIl,gI,gR,gR2,sR,sI,tI,iJ,List.cons_append,Ak,List.length_cons])|refine Aa ?_ ?_|(first|refine Ac ?_ ?_|refine Ab ?_ ?_)<;>intro hc<;>(try simp only[push_cast] at hc)|omega|intro _))
  ·refine De [i+3] ?_
   (with_reducible repeat'(first|(simp(disch:=omega)only[push_cast,↓zz,seval,xx,Ag,Am,A5,Bg,B9,Ay,B0,Bz,hP,hre,hi,hj,hFl,hTl,hIl,gI,gR,gR2,sR,sI,tI,iJ,List.cons_append,Ak,List.length_cons,hni,hEx])|refine Aa ?_ ?_|(first|refine Ac ?_ ?_|refine Ab ?_ ?_)<;>intro hc<;>(try simp only[push_cast] at hc)|omega|intro _))
   ·exact hSB _ _
   have he:Cy (nth d.rules k)=true:=by rw[hre,Cy];simpa using ‹(r.guards.length:Int)=0›
   have e1:=zaf (i:=i) hkl (by rw[hre];exact hi) he;have e2:=zag (j:=j) hkl (by rw[hre];exact hj) he;refine⟨(k+1,setV V i (V i+1)),z4d (gar:=[⟨5,1,true,[.agg [.int .i64 i,.int .i64 j,Bs r.guards,.int .i64 r.eat,C9 r.out]]⟩]) hn1 ?_ ?_ ?_ ?_ ?_ ?_ ?_,by simp only;omega,by simp only;omega⟩
   ·rw[cycL,e1,e2,hn,Int.toNat_natCast,<-hF,<-hT,<-hI,<-hD,<-hJ,hre,hj,zad hin,Xj hjn,zae hin]
    rfl
   all_goals first|rfl|(rw[hn];rfl)
  ·have he:Cy (nth d.rules k)=false:=by rw[hre,Cy];simpa using ‹¬(r.guards.length:Int)=0›
   obtain⟨e1,e2⟩:=zah hkl he;refine⟨(k+1,V),z4d (gar:=[⟨5,1,true,[.agg [.int .i64 i,.int .i64 j,Bs r.guards,.int .i64 r.eat,C9 r.out]]⟩]) hn1 ?_ ?_ ?_ ?_ ?_ ?_ ?_,by simp only;omega,by simp only;omega⟩
   ·rw[cycL,e1,e2,hn,Int.toNat_natCast,hF,hT,hI]
    rfl
   all_goals first|rfl|(rw[hn];rfl)
 ·obtain rfl:k=d.rules.length:=by omega
  obtain⟨n,hn⟩:∃n:Nat,d.states=n:=⟨d.states.toNat,by omega⟩;have ee:Ol d d.rules.length=E4 [(1,.ptr 0 1 0 0),(3,.ref 1 1 0 n),(4,.ref 2 1 0 n),(21,DF d.rules),(22,.int .i64 d.rules.length),(23,.int .i64 d.rules.length)]:=by simp only[Ol,hn,Int.toNat_natCast]
  refine W_T ?_;rw[ee,PP];(with_reducible repeat'(first|(simp(disch:=omega)only[push_cast,↓zz,seval,hP])|refine Aa ?_ ?_|(first|refine Ac ?_ ?_|refine Ab ?_ ?_)<;>intro hc<;>(try simp only[push_cast] at hc)|omega|intro _));refine zgk (Zw rfl (by rw[hn];rfl) (by rw[hn];rfl) rfl (by rw[hn];rfl) (by rw[hn];rfl) rfl) ?_
  have el:JN d d.rules.length=[(1,.ptr 0 1 0 0),(3,.lst 1 ((List.range n).map λi=>OK (toD d.rules i))),(4,.ref 2 1 0 n),(7,.nilS),(52,.ref 2 1 0 n),(53,.int .i64 n),(54,.int .i64 0)]:=by
   simp only[JN,hn,Int.toNat_natCast,AH,z4h]
  rw[el,hn,Int.toNat_natCast,AH];clear el ee
  have pL:AT ((List.range n).map λi=>OK (toD d.rules i))=true:=Ca.2 λx hx=>by
   obtain⟨i,_,rfl⟩:=Aq.1 hx;exact Cv .i64 _
  have lL:((List.range n).map λi=>OK (toD d.rules i)).length=n:=by simp
  have aL:∀i,i<n->((List.range n).map λi=>OK (toD d.rules i)).getD i .any=OK (toD d.rules i):=λi hi=>Dy hi;have aL2:∀i,i<n->((List.range n).map λi=>OK (toD d.rules i))[i]? = some (OK (toD d.rules i)):=λi hi=>by simp[hi]
  generalize hLe:(List.range n).map (λi=>OK (toD d.rules i))=L at *
  have pI:∀f,AT (famI n f)=true:=λf=>Ca.2 λx hx=>by
   obtain⟨i,_,rfl⟩:=Aq.1 hx;rfl
  have lI:∀f,(famI n f).length=n:=λf=>by simp[famI]
  have aI:∀f i,i<n->(famI n f).getD i .any=.int .i64 (f i):=λf i hi=>Dy hi;have hnn:(n:Int)<=1024:=by omega
  refine B4 (BK (λ(k:Nat)=>k<=n) (λk=>n-k)
   (λk=>[(1,.ptr 0 1 0 0),(3,.lst 1 L),(4,.ref 1 1 0 n),(7,.ref 2 1 0 (Kw (inD d.rules) k).length),(52,.ref 1 1 0 n),(53,.int .i64 n),(54,.int .i64 k)]) (λk=>[⟨6,1,true,[Dm d]⟩,⟨1,1,true,famI n (inD d.rules)⟩,⟨1,1,false,(Kw (inD d.rules) k).map (AV.int .i64)⟩]) (λenv _=>[C0 1 (env 1),C0 1 (env 4),C0 1 (env 7)]) 0 (by simp) ?_ ?_)
  ·have z0:Kw (inD d.rules) 0=[]:=rfl
   (with_reducible repeat'(first|(simp(disch:=omega)only[push_cast,↓zz,seval,pL,lL,pI,lI,z0])|refine Aa ?_ ?_|(first|refine Ac ?_ ?_|refine Ab ?_ ?_)<;>intro hc<;>(try simp only[push_cast] at hc)|omega|intro _))
  intro k hk;have zl:=z3h (inD d.rules) k;rcases An k n with hkn|hkn
  ·have aK:=aI (inD d.rules) k hkn
   have zs:=YK (inD d.rules) k;have hib:=z4e d.rules k;generalize inD d.rules k=v at *;refine W_T ?_;(with_reducible repeat'(first|(simp(disch:=omega)only[push_cast,↓zz,seval,pL,lL,pI,lI,aK])|refine Aa ?_ ?_|(first|refine Ac ?_ ?_|refine Ab ?_ ?_)<;>intro hc<;>(try simp only[push_cast] at hc)|omega|intro _))
   ·rw[Ai (by assumption)] at zs
    refine⟨k+1,?_⟩;(with_reducible repeat'(first|(simp(disch:=omega)only[push_cast,↓zz,seval,zs])|refine Aa ?_ ?_|(first|refine Ac ?_ ?_|refine Ab ?_ ?_)<;>intro hc<;>(try simp only[push_cast] at hc)|omega|intro _))
   ·rw[Ah (by assumption)] at zs
    refine⟨k+1,?_⟩;(with_reducible repeat'(first|(simp(disch:=omega)only[push_cast,↓zz,seval,zs])|refine Aa ?_ ?_|(first|refine Ac ?_ ?_|refine Ab ?_ ?_)<;>intro hc<;>(try simp only[push_cast] at hc)|omega|intro _))
  ·have hkn2:n=k:=by omega
   subst hkn2;refine W_T ?_;(with_reducible repeat'(first|(simp(disch:=omega)only[push_cast,↓zz,seval,pL,lL,pI,lI])|refine Aa ?_ ?_|(first|refine Ac ?_ ?_|refine Ab ?_ ?_)<;>intro hc<;>(try simp only[push_cast] at hc)|omega|intro _))
   have hto:∀s m,m<(toD d.rules s).length->0<=nth (toD d.rules s) m/\nth (toD d.rules s) m<n:=λs m hm=>by
    have hm2:nth (toD d.rules s) m∈toD d.rules s:=B2 hm;generalize nth (toD d.rules s) m=x at *;obtain⟨r,hr,rfl⟩:=Aq.1 hm2;have:=hrul r (AX.1 hr).1;omega
   refine B4 (BK (λ(s:List Int × List Int × List Int)=>KInv d.rules n (s.1++s.2.1) (cntE d.rules s.1)) (λs=>n-s.1.length)
    (λs=>[(1,.ptr 0 1 0 0),(3,.lst 1 L),(4,.ref 1 1 0 n),(7,.ref 2 1 s.2.2.length s.2.1.length),(10,.int .i64 s.1.length)]) (λs=>[⟨6,1,true,[Dm d]⟩,⟨1,1,true,famI n (cntE d.rules s.1)⟩,⟨1,1,false,(s.2.2++s.2.1).map (AV.int .i64)⟩]) (λenv _=>[C0 1 (env 1),C0 1 (env 4),C0 1 (env 7)]) ([],Kw (inD d.rules) n,[]) (YL d.rules n) ?_ ?_)
   ·have e0:cntE d.rules []=inD d.rules:=funext λj=>Rb _ _
    (with_reducible repeat'(first|(simp(disch:=omega)only[push_cast,↓zz,seval,pL,lL,pI,lI,e0])|refine Aa ?_ ?_|(first|refine Ac ?_ ?_|refine Ab ?_ ?_)<;>intro hc<;>(try simp only[push_cast] at hc)|omega|intro _))
   rintro⟨P,td,junk⟩ hK;simp only at hK;have hlen2:=hK.len;rw[Ak] at hlen2;rcases td with _|⟨x,rest⟩
   ·rw[A8] at hK
    have hdone:=z3k (λr hr=>by have:=hrul r hr;omega) hK;refine W_T ?_;(with_reducible repeat'(first|(simp(disch:=omega)only[push_cast,↓zz,seval,pL,lL,pI,lI])|refine Aa ?_ ?_|(first|refine Ac ?_ ?_|refine Ab ?_ ?_)<;>intro hc<;>(try simp only[push_cast] at hc)|omega|intro _))
    all_goals exact DC.2 (by rw[<-hdone];omega)
   ·have hx:=hK.range x (by simp)
    obtain⟨s,rfl⟩:∃s:Nat,x=s:=⟨x.toNat,by omega⟩;have hsn:s<n:=by omega
    have hsP:(s:Int)∉P:=λhh=>by
     exact (Dr.1 hK.nodup).2.2 (s:Int) hh (s:Int) (by simp) rfl
    have aS:=aL s hsn;have aS2:=aL2 s hsn;have j0:(junk.map (AV.int .i64)++AV.int .i64 (s:Int)::rest.map (AV.int .i64)).getD junk.length .any=.int .i64 s:=by simp[List.getD]
    have j1:nth (junk++(s:Int)::rest) junk.length=s:=by simp[nth]
    have hjl:(junk++(s:Int)::rest).length=junk.length+(rest.length+1):=by simp
    simp only[List.length_cons] at hlen2;refine W_T ?_;(with_reducible repeat'(first|(simp(disch:=omega)only[push_cast,↓zz,seval,pL,lL,pI,lI,aS,aS2,j0,j1,hjl,List.length_cons])|refine Aa ?_ ?_|(first|refine Ac ?_ ?_|refine Ab ?_ ?_)<;>intro hc<;>(try simp only[push_cast] at hc)|omega|intro _))
    have hK0:KInv d.rules n (P++[(s:Int)]++rest) (G3 d.rules P s 0):=by
     rw[P9,Aw];exact hK
    have hDb:=zcp d.rules s
    refine B4 (BK (λ(q:Nat × List Int × List Int)=>q.1<=(toD d.rules s).length/\KInv d.rules n (P++[(s:Int)]++q.2.1) (G3 d.rules P s q.1)) (λq=>(toD d.rules s).length-q.1)
     (λq=>[(1,.ptr 0 1 0 0),(3,.lst 1 L),(4,.ref 1 1 0 n),(7,.ref 2 1 q.2.2.length q.2.1.length),(10,.int .i64 P.length),(79,OK (toD d.rules s)),(80,.int .i64 (toD d.rules s).length),(81,.int .i64 q.1)]) (λq=>[⟨6,1,true,[Dm d]⟩,⟨1,1,true,famI n (G3 d.rules P s q.1)⟩,⟨1,1,false,(q.2.2++q.2.1).map (AV.int .i64)⟩]) (λenv _=>[C0 1 (env 1),C0 1 (env 4),C0 1 (env 7)]) (0,rest,junk++[(s:Int)]) ⟨by simp,hK0⟩ ?_ ?_)
    ·have e0:=P9 d.rules P s
     (with_reducible repeat'(first|(simp(disch:=omega)only[push_cast,↓zz,seval,pL,lL,pI,lI,e0,A9,Aw,BB,BF,List.cons_append,List.nil_append,Ak,List.length_cons,List.length_nil])|refine Aa ?_ ?_|(first|refine Ac ?_ ?_|refine Ab ?_ ?_)<;>intro hc<;>(try simp only[push_cast] at hc)|omega|intro _))
    rintro⟨m,td,jk⟩ ⟨m1,m2⟩;simp only at m1 m2;have hlen3:=m2.len;simp only[Ak,List.length_cons,List.length_nil] at hlen3;rcases An m (toD d.rules s).length with hm|hm
    ·obtain⟨t1,t2⟩:=hto s m hm
     obtain⟨t,ht⟩:∃t:Nat,nth (toD d.rules s) m=t:=⟨(nth (toD d.rules s) m).toNat,by omega⟩;have htn:t<n:=by omega
     have hst:=z3j hsP hm ht htn m2;have hle:=LA (P:=P) hm ht;have hps:=Tj hsP hm ht;have aT:=aI (G3 d.rules P s m) t htn;have aT2:=aI (G3 d.rules P s (m+1)) t htn;have hv:G3 d.rules P s (m+1) t=G3 d.rules P s m t-1:=by rw[hle];simp
     have hset:(famI n (G3 d.rules P s m)).set t (.int .i64 (G3 d.rules P s m t-1))=famI n (G3 d.rules P s (m+1)):=by rw[hle];exact Xj htn
     have hlb:G3 d.rules P s m t<=4096:=by
      have c1:cntE d.rules P t<=inD d.rules t:=by
       rw[<-Rb];exact zgm _ _ _
      have c2:=z4e d.rules t;have c3:G3 d.rules P s m t<=cntE d.rules P t:=by simp only[G3];omega
      omega
     rw[hv] at aT2;generalize G3 d.rules P s m t=v at *;refine W_T ?_
     have eD:List.drop jk.length (jk.map (AV.int .i64)++td.map (AV.int .i64))=td.map (AV.int .i64):=by
      rw[List.drop_append_of_le_length (by simp),EE (by simp),List.nil_append]
     (with_reducible repeat'(first|(simp(disch:=omega)only[push_cast,↓zz,seval,pL,lL,pI,lI,ht,aT,aT2,hset,eD])|refine Aa ?_ ?_|(first|refine Ac ?_ ?_|refine Ab ?_ ?_)<;>intro hc<;>(try simp only[push_cast] at hc)|omega|intro _))
     ·rw[Ai (by assumption)] at hst
      refine⟨(m+1,td++[(t:Int)],jk),?_⟩;(with_reducible repeat'(first|(simp(disch:=omega)only[push_cast,↓zz,seval,A9,Aw,BB,BF,Ak,List.length_cons,List.length_nil])|refine Aa ?_ ?_|(first|refine Ac ?_ ?_|refine Ab ?_ ?_)<;>intro hc<;>(try simp only[push_cast] at hc)|omega|intro _));simpa [Aw] using hst
     ·rw[Ai (by assumption)] at hst
      refine⟨(m+1,td++[(t:Int)],[]),?_⟩;(with_reducible repeat'(first|(simp(disch:=omega)only[push_cast,↓zz,seval,A9,Aw,BB,BF,List.nil_append,Ak,List.length_cons,List.length_nil])|refine Aa ?_ ?_|(first|refine Ac ?_ ?_|refine Ab ?_ ?_)<;>intro hc<;>(try simp only[push_cast] at hc)|omega|intro _));simpa [Aw] using hst
     ·rw[Ah (by assumption)] at hst
      refine⟨(m+1,td,jk),?_⟩;(with_reducible repeat'(first|(simp(disch:=omega)only[push_cast,↓zz,seval])|refine Aa ?_ ?_|(first|refine Ac ?_ ?_|refine Ab ?_ ?_)<;>intro hc<;>(try simp only[push_cast] at hc)|omega|intro _));simpa [Aw] using hst
    ·have hme:m=(toD d.rules s).length:=by omega
     subst hme;have hE:=z3i (l:=d.rules) hsP;rw[hE] at m2;rw[hE];refine W_T ?_;(with_reducible repeat'(first|(simp(disch:=omega)only[push_cast,↓zz,seval,pL,lL,pI,lI])|refine Aa ?_ ?_|(first|refine Ac ?_ ?_|refine Ab ?_ ?_)<;>intro hc<;>(try simp only[push_cast] at hc)|omega|intro _))
     all_goals
      refine⟨(P++[(s:Int)],td,jk),?_⟩;(with_reducible repeat'(first|(simp(disch:=omega)only[push_cast,↓zz,seval,Ak,List.length_cons,List.length_nil])|refine Aa ?_ ?_|(first|refine Ac ?_ ?_|refine Ab ?_ ?_)<;>intro hc<;>(try simp only[push_cast] at hc)|omega|intro _))
     all_goals (simpa [Aw] using m2)
def HB{α:Type}(p:α->Bool):List α->Nat->Option Nat
 |[],_=>none
 |x::l,i=>if p x then HB p l (i+1) else some i
theorem Ro{α:Type}[Inhabited α]{p:α->Bool}{l:List α}{k:Nat}(h:k<l.length):HB p (l.drop k) k=if p (nth l k) then HB p (l.drop (k+1)) (k+1) else some k:=by rw[drop_at h,HB]
theorem JO{α:Type}{p:α->Bool}:∀{l:List α}{i:Nat},HB p l i=none->∀x∈l,p x=true
 |[],_,_,_,h=>by cases h
 |y::l,i,h,x,hx=>by
  rw[HB] at h;split at h
  ·rename_i hp
   rcases Ag.1 hx with rfl|hx
   ·exact hp
   ·exact JO h x hx
  ·cases h
def GA(d:Desc)(f:Es):Bool:=I1 d f.from_&&(HA d.in_ f.guards&&G9 d f.out f.guards)
open Classical in
noncomputable def HU (d:Desc):Int × Int :=
 if OT d=false then (1,0) else
  match HB (Hq d) d.rules 0 with
  |some i=>(2,i)
  |none=>match HB (GA d) d.finals 0 with
   |some i=>(3,i)
   |none=>if cycP d.rules d.states.toNat then (4,0) else (0,0)
def GB(d:Desc):Prop:=(∀r∈d.rules,∀t∈r.out,t.parts.length<1000000000000)/\∀f∈d.finals,∀t∈f.out,t.parts.length<1000000000000
theorem z4i{d:Desc}(h:OT d=true):(1<=d.states/\d.states<=1024)/\d.rules.length<=4096/\d.finals.length<=4096/\0<=d.start/\d.start<d.states:=by
 simp only[OT,I1,Ad,Aj] at h;omega
theorem z4j{d:Desc}{r:Rule}(h:Hq d r=true):(0<=r.from_/\r.from_<d.states)/\0<=r.to_/\r.to_<d.states:=by
 simp only[Hq,I1,Ad,Aj] at h;omega
theorem Zy(d:Desc)(hf:GB d):PC Tryz.prog 82 [Dm d] (.tup [.int .i64 (HU d).1,.int .i64 (HU d).2]):=by
 have hH:=z4b d;have hPr:=B8 d.rules;have hPf:=B6 d.finals;refine BV Sx ?_;unfold LZ;cases hh:OT d with
 |false =>
  rw[hh] at hH;rw[HU,Ai hh];(with_reducible repeat'(first|(simp(disch:=omega)only[push_cast,↓zz,seval])|refine Aa ?_ ?_|(first|refine Ac ?_ ?_|refine Ab ?_ ?_)<;>intro hc<;>(try simp only[push_cast] at hc)|refine eK hH ?_|refine eQ hH ?_|refine eG hH ?_|((first|refine cK hH ?_|refine cQ hH ?_|refine cG hH ?_);(simp(disch:=omega)only[push_cast,↓zz,seval]);(fail_if_success change False))|omega|intro _))
 |true =>
 rw[hh] at hH;obtain⟨b1,b2,b3,b4⟩:=z4i hh
 have hW:HU d=match HB (Hq d) d.rules 0 with
  |some i=>(2,(i:Int))
  |none=>match HB (GA d) d.finals 0 with
   |some i=>(3,(i:Int))
   |none=>if (@decide (cycP d.rules d.states.toNat) (Classical.propDecidable _))=true then (4,0) else (0,0):=by
  rw[HU,Ah (by simp[hh])];split
  ·rfl
  ·split
   ·rfl
   ·by_cases hc:cycP d.rules d.states.toNat
    ·rw[Ai hc,Ai (@Ba _ (Classical.propDecidable _) hc)]
    ·rw[Ah hc,Ah (by rw[@By _ (Classical.propDecidable _) hc];simp)]
 (with_reducible repeat'(first|(simp(disch:=omega)only[push_cast,↓zz,seval])|refine Aa ?_ ?_|(first|refine Ac ?_ ?_|refine Ab ?_ ?_)<;>intro hc<;>(try simp only[push_cast] at hc)|refine eK hH ?_|refine eQ hH ?_|refine eG hH ?_|((first|refine cK hH ?_|refine cQ hH ?_|refine cG hH ?_);(simp(disch:=omega)only[push_cast,↓zz,seval]);(fail_if_success change False))|omega|intro _))
 refine B4 (BK (λ(k:Nat)=>k<=d.rules.length/\HB (Hq d) d.rules 0=HB (Hq d) (d.rules.drop k) k) (λk=>d.rules.length-k)
  (λk=>[(1,.ptr 0 1 0 0),(12,DF d.rules),(13,.int .i64 d.rules.length),(14,.int .i64 k)]) (λk=>[⟨6,1,true,[Dm d]⟩]) (λenv _=>[C0 1 (env 1)]) 0 ⟨by simp,rfl⟩ ?_ ?_)
 ·(with_reducible repeat'(first|(simp(disch:=omega)only[push_cast,↓zz,seval,hPr,hPf])|refine Aa ?_ ?_|(first|refine Ac ?_ ?_|refine Ab ?_ ?_)<;>intro hc<;>(try simp only[push_cast] at hc)|omega|intro _))
 rintro k ⟨k1,k2⟩;rcases An k d.rules.length with hk|hk
 ·have hr:=z4c d (nth d.rules k) (hf.1 _ (B2 hk))
  rw[Ro hk] at k2;cases hb:Hq d (nth d.rules k) with
  |false =>
   rw[hb] at hr k2;simp only[AB,Bt] at k2;rw[hW,k2];refine W_T ?_;(with_reducible repeat'(first|(simp(disch:=omega)only[push_cast,↓zz,seval,hPr,hPf])|refine Aa ?_ ?_|(first|refine Ac ?_ ?_|refine Ab ?_ ?_)<;>intro hc<;>(try simp only[push_cast] at hc)|refine eK hr ?_|refine eQ hr ?_|refine eG hr ?_|((first|refine cK hr ?_|refine cQ hr ?_|refine cG hr ?_);(simp(disch:=omega)only[push_cast,↓zz,seval,hPr,hPf]);(fail_if_success change False))|omega|intro _))
  |true =>
   rw[hb] at hr k2;simp only[Br] at k2;refine W_T ?_;(with_reducible repeat'(first|(simp(disch:=omega)only[push_cast,↓zz,seval,hPr,hPf])|refine Aa ?_ ?_|(first|refine Ac ?_ ?_|refine Ab ?_ ?_)<;>intro hc<;>(try simp only[push_cast] at hc)|refine eK hr ?_|refine eQ hr ?_|refine eG hr ?_|((first|refine cK hr ?_|refine cQ hr ?_|refine cG hr ?_);(simp(disch:=omega)only[push_cast,↓zz,seval,hPr,hPf]);(fail_if_success change False))|omega|intro _))
   all_goals exact⟨k+1,by push_cast,⟨by omega,k2⟩,by omega⟩
 ·rw[A6 hk,HB] at k2
  have hall:=JO k2;have hC:=Zx d ⟨b1,b2,λr hr=>z4j (hall r hr)⟩;rw[k2] at hW;simp only at hW;refine W_T ?_;(with_reducible repeat'(first|(simp(disch:=omega)only[push_cast,↓zz,seval,hPr,hPf])|refine Aa ?_ ?_|(first|refine Ac ?_ ?_|refine Ab ?_ ?_)<;>intro hc<;>(try simp only[push_cast] at hc)|omega|intro _))
  refine B4 (BK (λ(k:Nat)=>k<=d.finals.length/\HB (GA d) d.finals 0=HB (GA d) (d.finals.drop k) k) (λk=>d.finals.length-k)
   (λk=>[(1,.ptr 0 1 0 0),(26,Fb d.finals),(27,.int .i64 d.finals.length),(28,.int .i64 k)]) (λk=>[⟨6,1,true,[Dm d]⟩]) (λenv _=>[C0 1 (env 1)]) 0 ⟨by simp,rfl⟩ ?_ ?_)
  ·(with_reducible repeat'(first|(simp(disch:=omega)only[push_cast,↓zz,seval,hPr,hPf])|refine Aa ?_ ?_|(first|refine Ac ?_ ?_|refine Ab ?_ ?_)<;>intro hc<;>(try simp only[push_cast] at hc)|omega|intro _))
  rintro j ⟨j1,j2⟩;rcases An j d.finals.length with hj|hj
  ·generalize hfe:nth d.finals j=f at *
   have hfm:f∈d.finals:=by rw[<-hfe];exact B2 hj
   have hfo:=hf.2 f hfm;have h1:=JM d f.from_;have h2:=Oi d.in_ f.guards;have hP:=AL f.guards;have hT:=B5 f.out;rw[Ro hj,hfe] at j2;cases hg:HA d.in_ f.guards with
   |false =>
    have hb:GA d f=false:=by rw[GA,hg];simp
    rw[hg] at h2;rw[hb] at j2;simp only[AB,Bt] at j2;rw[hW,j2];refine W_T ?_;(with_reducible repeat'(first|(simp(disch:=omega)only[push_cast,↓zz,seval,hPr,hPf,hfe,hP,hT])|refine Aa ?_ ?_|(first|refine Ac ?_ ?_|refine Ab ?_ ?_)<;>intro hc<;>(try simp only[push_cast] at hc)|refine eK h1 ?_|refine eQ h1 ?_|refine eG h1 ?_|refine eK h2 ?_|refine eQ h2 ?_|refine eG h2 ?_|((first|refine cK h1 ?_|refine cQ h1 ?_|refine cG h1 ?_|refine cK h2 ?_|refine cQ h2 ?_|refine cG h2 ?_);(simp(disch:=omega)only[push_cast,↓zz,seval,hPr,hPf,hfe,hP,hT]);(fail_if_success change False))|omega|intro _))
   |true =>
    rw[hg] at h2;obtain⟨g1,g2⟩:=G0 hg;have h4:=Oj d f.out f.guards hfo (λg hg=>by have:=g2 g hg;omega) (by omega);cases hb:GA d f with
    |false =>
     rw[hb] at j2;simp only[AB,Bt] at j2;rw[hW,j2];rw[GA,hg,Ax] at hb;refine W_T ?_;(with_reducible repeat'(first|(simp(disch:=omega)only[push_cast,↓zz,seval,hPr,hPf,hfe,hP,hT])|refine Aa ?_ ?_|(first|refine Ac ?_ ?_|refine Ab ?_ ?_)<;>intro hc<;>(try simp only[push_cast] at hc)|refine eK h1 ?_|refine eQ h1 ?_|refine eG h1 ?_|refine eK h2 ?_|refine eQ h2 ?_|refine eG h2 ?_|refine eK h4 ?_|refine eQ h4 ?_|refine eG h4 ?_|((first|refine cK h1 ?_|refine cQ h1 ?_|refine cG h1 ?_|refine cK h2 ?_|refine cQ h2 ?_|refine cG h2 ?_|refine cK h4 ?_|refine cQ h4 ?_|refine cG h4 ?_);(simp(disch:=omega)only[push_cast,↓zz,seval,hPr,hPf,hfe,hP,hT]);(fail_if_success change False))|omega|intro _))
     all_goals first
      |(exfalso;simp_all;done)
      |trace_state
    |true =>
     rw[hb] at j2;simp only[Br] at j2;rw[GA,hg,Ax,Ad] at hb;rw[hb.1] at h1;rw[hb.2] at h4;refine W_T ?_;(with_reducible repeat'(first|(simp(disch:=omega)only[push_cast,↓zz,seval,hPr,hPf,hfe,hP,hT])|refine Aa ?_ ?_|(first|refine Ac ?_ ?_|refine Ab ?_ ?_)<;>intro hc<;>(try simp only[push_cast] at hc)|refine eK h1 ?_|refine eQ h1 ?_|refine eG h1 ?_|refine eK h2 ?_|refine eQ h2 ?_|refine eG h2 ?_|refine eK h4 ?_|refine eQ h4 ?_|refine eG h4 ?_|((first|refine cK h1 ?_|refine cQ h1 ?_|refine cG h1 ?_|refine cK h2 ?_|refine cQ h2 ?_|refine cG h2 ?_|refine cK h4 ?_|refine cQ h4 ?_|refine cG h4 ?_);(simp(disch:=omega)only[push_cast,↓zz,seval,hPr,hPf,hfe,hP,hT]);(fail_if_success change False))|omega|intro _))
     all_goals exact⟨j+1,by push_cast,⟨by omega,j2⟩,by omega⟩
  ·rw[A6 hj,HB] at j2
   rw[j2] at hW;simp only at hW;generalize @decide (cycP d.rules d.states.toNat) (Classical.propDecidable _)=c at *;refine W_T ?_;rw[hW];cases c
   ·(with_reducible repeat'(first|(simp(disch:=omega)only[push_cast,↓zz,seval,hPr,hPf])|refine Aa ?_ ?_|(first|refine Ac ?_ ?_|refine Ab ?_ ?_)<;>intro hc<;>(try simp only[push_cast] at hc)|refine eK hC ?_|refine eQ hC ?_|refine eG hC ?_|((first|refine cK hC ?_|refine cQ hC ?_|refine cG hC ?_);(simp(disch:=omega)only[push_cast,↓zz,seval,hPr,hPf]);(fail_if_success change False))|omega|intro _))
   ·(with_reducible repeat'(first|(simp(disch:=omega)only[push_cast,↓zz,seval,hPr,hPf])|refine Aa ?_ ?_|(first|refine Ac ?_ ?_|refine Ab ?_ ?_)<;>intro hc<;>(try simp only[push_cast] at hc)|refine eK hC ?_|refine eQ hC ?_|refine eG hC ?_|((first|refine cK hC ?_|refine cQ hC ?_|refine cG hC ?_);(simp(disch:=omega)only[push_cast,↓zz,seval,hPr,hPf]);(fail_if_success change False))|omega|intro _))
    all_goals trace_state
noncomputable def Ew (d:Desc):Int:=if (HU d).1=0 then 0 else 2
theorem JP(d:Desc)(hf:GB d):PC Tryz.prog 39 [Dm d] (.int .i64 (Ew d)):=by
 have hW:=Zy d hf;refine BV Sv ?_;unfold LX Ew;generalize HU d=w at *;by_cases h:w.1=0
 ·rw[Ai h]
  (with_reducible repeat'(first|(simp(disch:=omega)only[push_cast,↓zz,seval,h])|refine Aa ?_ ?_|(first|refine Ac ?_ ?_|refine Ab ?_ ?_)<;>intro hc<;>(try simp only[push_cast] at hc)|refine eK hW ?_|refine eQ hW ?_|refine eG hW ?_|((first|refine cK hW ?_|refine cQ hW ?_|refine cG hW ?_);(simp(disch:=omega)only[push_cast,↓zz,seval,h]);(fail_if_success change False))|omega|intro _))
 ·rw[Ah h]
  (with_reducible repeat'(first|(simp(disch:=omega)only[push_cast,↓zz,seval,h])|refine Aa ?_ ?_|(first|refine Ac ?_ ?_|refine Ab ?_ ?_)<;>intro hc<;>(try simp only[push_cast] at hc)|refine eK hW ?_|refine eQ hW ?_|refine eG hW ?_|((first|refine cK hW ?_|refine cQ hW ?_|refine cG hW ?_);(simp(disch:=omega)only[push_cast,↓zz,seval,h]);(fail_if_success change False))|omega|intro _))
  all_goals trace_state
theorem fold_at{α β:Type}[Inhabited α]{f:β->α->β}{l:List α}{k:Nat}{s:β}(h:k<l.length):(l.drop k).foldl f s=(l.drop (k+1)).foldl f (f s (nth l k)):=by rw[drop_at h,List.foldl_cons]
def zak(d:Desc):Bool:=d.rules.all λr=>!Cy r
def idxE(l:List Rule):Option Nat:=HB (λr=>!Cy r) l 0
theorem zal(r:Rule):PC Tryz.prog 89 [D6 r] (.bool (Cy r)):=by
 have hP:=AL r.guards;have hT:=B5 r.out;refine BV QI ?_;unfold KF Cy;(with_reducible repeat'(first|(simp(disch:=omega)only[push_cast,↓zz,seval,hP,hT])|refine Aa ?_ ?_|(first|refine Ac ?_ ?_|refine Ab ?_ ?_)<;>intro hc<;>(try simp only[push_cast] at hc)|omega|intro _))
 all_goals trace_state
theorem z4k(l:List Rule)(hl:l.length<=9223372036854775807):PC Tryz.prog 127 [DF l,.fn 89 []] (.int .i64 (match idxE l with|some i=>i|none=>-1)):=by
 have hPr:=B8 l;refine BV Gr ?_;unfold E2;(with_reducible repeat'(first|(simp(disch:=omega)only[push_cast,↓zz,seval])|refine Aa ?_ ?_|(first|refine Ac ?_ ?_|refine Ab ?_ ?_)<;>intro hc<;>(try simp only[push_cast] at hc)|omega|intro _))
 refine B4 (BK (λ(k:Nat)=>k<=l.length/\idxE l=HB (λr=>!Cy r) (l.drop k) k) (λk=>l.length-k)
  (λk=>[(0,DF l),(1,.fn 89 []),(7,.int .i64 l.length),(8,.int .i64 k)]) (λk=>[]) (λ_ _=>[]) 0 ⟨by simp,rfl⟩ ?_ ?_)
 ·(with_reducible repeat'(first|(simp(disch:=omega)only[push_cast,↓zz,seval,hPr])|refine Aa ?_ ?_|(first|refine Ac ?_ ?_|refine Ab ?_ ?_)<;>intro hc<;>(try simp only[push_cast] at hc)|omega|intro _))
 rintro k ⟨k1,k2⟩;rcases An k l.length with hk|hk
 ·have hF:=zal (nth l k)
  rw[Ro hk] at k2;refine W_T ?_;cases he:Cy (nth l k) with
  |true =>
   rw[he] at hF k2;rw[k2];(with_reducible repeat'(first|(simp(disch:=omega)only[push_cast,↓zz,seval,hPr])|refine Aa ?_ ?_|(first|refine Ac ?_ ?_|refine Ab ?_ ?_)<;>intro hc<;>(try simp only[push_cast] at hc)|refine eK hF ?_|refine eQ hF ?_|refine eG hF ?_|((first|refine cK hF ?_|refine cQ hF ?_|refine cG hF ?_);(simp(disch:=omega)only[push_cast,↓zz,seval,hPr]);(fail_if_success change False))|omega|intro _))
  |false =>
   rw[he] at hF k2;(with_reducible repeat'(first|(simp(disch:=omega)only[push_cast,↓zz,seval,hPr])|refine Aa ?_ ?_|(first|refine Ac ?_ ?_|refine Ab ?_ ?_)<;>intro hc<;>(try simp only[push_cast] at hc)|refine eK hF ?_|refine eQ hF ?_|refine eG hF ?_|((first|refine cK hF ?_|refine cQ hF ?_|refine cG hF ?_);(simp(disch:=omega)only[push_cast,↓zz,seval,hPr]);(fail_if_success change False))|omega|intro _))
   all_goals exact⟨k+1,by push_cast,⟨by omega,k2⟩,by omega⟩
 ·rw[A6 hk,HB] at k2
  rw[k2];refine W_T ?_;(with_reducible repeat'(first|(simp(disch:=omega)only[push_cast,↓zz,seval,hPr])|refine Aa ?_ ?_|(first|refine Ac ?_ ?_|refine Ab ?_ ?_)<;>intro hc<;>(try simp only[push_cast] at hc)|omega|intro _))
  all_goals trace_state
theorem zam(l:List Rule):(idxE l).isSome=!(l.all λr=>!Cy r):=by
 have key:∀(l:List Rule)(i:Nat),(HB (λr=>!Cy r) l i).isSome=!(l.all λr=>!Cy r):=λl=>by
  induction l with
  |nil=>intro i;rfl
  |cons r l ih =>
   intro i;rw[HB,List.all_cons];cases h:Cy r
   ·simp[ih]
   ·simp
 exact key l 0
theorem Tx(l:List Rule)(hl:l.length<=9223372036854775807):PC Tryz.prog 88 [DF l,.fn 89 []] (.bool (idxE l).isSome):=by
 have hPr:=B8 l;have hI:=z4k l hl;refine BV FU ?_;unfold Ed;cases h:idxE l with
 |none =>
  rw[h] at hI;(with_reducible repeat'(first|(simp(disch:=omega)only[push_cast,↓zz,seval,hPr])|refine Aa ?_ ?_|(first|refine Ac ?_ ?_|refine Ab ?_ ?_)<;>intro hc<;>(try simp only[push_cast] at hc)|refine eK hI ?_|refine eQ hI ?_|refine eG hI ?_|((first|refine cK hI ?_|refine cQ hI ?_|refine cG hI ?_);(simp(disch:=omega)only[push_cast,↓zz,seval,hPr]);(fail_if_success change False))|omega|intro _))
 |some i =>
  rw[h] at hI;simp only at hI;(with_reducible repeat'(first|(simp(disch:=omega)only[push_cast,↓zz,seval,hPr])|refine Aa ?_ ?_|(first|refine Ac ?_ ?_|refine Ab ?_ ?_)<;>intro hc<;>(try simp only[push_cast] at hc)|refine eK hI ?_|refine eQ hI ?_|refine eG hI ?_|((first|refine cK hI ?_|refine cQ hI ?_|refine cG hI ?_);(simp(disch:=omega)only[push_cast,↓zz,seval,hPr]);(fail_if_success change False))|omega|intro _))
  all_goals trace_state
theorem z4l(d:Desc)(hl:d.rules.length<=9223372036854775807):PC Tryz.prog 42 [Dm d] (.bool (zak d)):=by
 have hC:=Tx d.rules hl;have hPr:=B8 d.rules;rw[zam] at hC;refine BV Uy ?_;unfold Nv zak;(with_reducible repeat'(first|(simp(disch:=omega)only[push_cast,↓zz,seval,hPr])|refine Aa ?_ ?_|(first|refine Ac ?_ ?_|refine Ab ?_ ?_)<;>intro hc<;>(try simp only[push_cast] at hc)|refine eK hC ?_|refine eQ hC ?_|refine eG hC ?_|((first|refine cK hC ?_|refine cQ hC ?_|refine cG hC ?_);(simp(disch:=omega)only[push_cast,↓zz,seval,hPr]);(fail_if_success change False))|omega|intro _))
 all_goals exact Bool.not_not _
def widF(n:Int)(r:Rule):Int:=max n r.guards.length
def zl6(d:Desc):Int:=d.rules.foldl widF 0
def lenR(l:List Rule):Prop:=∀r∈l,r.guards.length<=9223372036854775807/\r.out.length<=9223372036854775807
def aheF(n:Int)(r:Rule):Int:=max n (r.guards.length-max r.eat 0)
def zl7(d:Desc):Int:=d.rules.foldl aheF 0
def lonF(n:Int)(r:Rule):Int:=max n r.out.length
def lonG(n:Int)(f:Es):Int:=max n f.out.length
def On(d:Desc):Int:=d.finals.foldl lonG (d.rules.foldl lonF 0)
theorem Ty(d:Desc)(hl:d.rules.length<=9223372036854775807)(hlf:d.finals.length<=9223372036854775807)(hr:lenR d.rules):PC Tryz.prog 53 [Dm d] (.int .i64 (On d)):=by
 have hPr:=B8 d.rules;have hPf:=B6 d.finals;refine BV OO ?_;unfold JZ;(with_reducible repeat'(first|(simp(disch:=omega)only[push_cast,↓zz,seval])|refine Aa ?_ ?_|(first|refine Ac ?_ ?_|refine Ab ?_ ?_)<;>intro hc<;>(try simp only[push_cast] at hc)|omega|intro _))
 refine B4 (BK (λ(s:Nat × Int)=>s.1<=d.rules.length/\On d=d.finals.foldl lonG ((d.rules.drop s.1).foldl lonF s.2)) (λs=>d.rules.length-s.1)
  (λs=>[(1,.ptr 0 1 0 0),(3,.int .i64 s.2),(9,DF d.rules),(10,.int .i64 d.rules.length),(11,.int .i64 s.1)]) (λk=>[⟨6,1,true,[Dm d]⟩]) (λenv _=>[C0 1 (env 1)]) (0,0) ⟨by simp,rfl⟩ ?_ ?_)
 ·(with_reducible repeat'(first|(simp(disch:=omega)only[push_cast,↓zz,seval,hPr,hPf])|refine Aa ?_ ?_|(first|refine Ac ?_ ?_|refine Ab ?_ ?_)<;>intro hc<;>(try simp only[push_cast] at hc)|omega|intro _))
 rintro⟨k,n⟩ ⟨k1,k2⟩;simp only at k1 k2;rcases An k d.rules.length with hk|hk
 ·rw[fold_at hk] at k2
  generalize hre:nth d.rules k=r at *;have hP:=AL r.guards;have hT:=B5 r.out;refine W_T ?_;(with_reducible repeat'(first|(simp(disch:=omega)only[push_cast,↓zz,seval,hPr,hPf,hre,hP,hT])|refine Aa ?_ ?_|(first|refine Ac ?_ ?_|refine Ab ?_ ?_)<;>intro hc<;>(try simp only[push_cast] at hc)|omega|intro _))
  all_goals exact⟨(k+1,max n r.out.length),⟨rfl,by push_cast⟩,⟨by simp only;omega,k2⟩,by simp only;omega⟩
 ·rw[A6 hk,List.foldl_nil] at k2
  refine W_T ?_;(with_reducible repeat'(first|(simp(disch:=omega)only[push_cast,↓zz,seval,hPr,hPf])|refine Aa ?_ ?_|(first|refine Ac ?_ ?_|refine Ab ?_ ?_)<;>intro hc<;>(try simp only[push_cast] at hc)|omega|intro _))
  refine B4 (BK (λ(s:Nat × Int)=>s.1<=d.finals.length/\On d=(d.finals.drop s.1).foldl lonG s.2) (λs=>d.finals.length-s.1)
   (λs=>[(3,.int .i64 s.2),(22,Fb d.finals),(23,.int .i64 d.finals.length),(24,.int .i64 s.1)]) (λk=>[]) (λ_ _=>[]) (0,n) ⟨by simp,k2⟩ ?_ ?_)
  ·(with_reducible repeat'(first|(simp(disch:=omega)only[push_cast,↓zz,seval,hPr,hPf])|refine Aa ?_ ?_|(first|refine Ac ?_ ?_|refine Ab ?_ ?_)<;>intro hc<;>(try simp only[push_cast] at hc)|omega|intro _))
  rintro⟨j,m⟩ ⟨j1,j2⟩;simp only at j1 j2;rcases An j d.finals.length with hj|hj
  ·rw[fold_at hj] at j2
   generalize hfe:nth d.finals j=f at *;have hP:=AL f.guards;have hT:=B5 f.out;refine W_T ?_;(with_reducible repeat'(first|(simp(disch:=omega)only[push_cast,↓zz,seval,hPf,hfe,hP,hT])|refine Aa ?_ ?_|(first|refine Ac ?_ ?_|refine Ab ?_ ?_)<;>intro hc<;>(try simp only[push_cast] at hc)|omega|intro _))
   all_goals exact⟨(j+1,max m f.out.length),⟨rfl,by push_cast⟩,⟨by simp only;omega,j2⟩,by simp only;omega⟩
  ·rw[A6 hj,List.foldl_nil] at j2
   refine W_T ?_;(with_reducible repeat'(first|(simp(disch:=omega)only[push_cast,↓zz,seval,hPf,j2])|refine Aa ?_ ?_|(first|refine Ac ?_ ?_|refine Ab ?_ ?_)<;>intro hc<;>(try simp only[push_cast] at hc)|omega|intro _))
   all_goals trace_state
theorem Va(l:List Span)(hl:l.length<=1000000000000):PC Tryz.prog 95 [AY l] (AY l):=by
 by_cases h0:l=[]
 ·subst h0
  refine z1v ?_ ?_
  ·refine BV DG ?_
   unfold CQ;(with_reducible repeat'(first|(simp(disch:=omega)only[push_cast,↓zz,seval])|refine Aa ?_ ?_|(first|refine Ac ?_ ?_|refine Ab ?_ ?_)<;>intro hc<;>(try simp only[push_cast] at hc)|omega|intro _))
  ·refine BV DG ?_
   unfold CQ;(with_reducible repeat'(first|(simp(disch:=omega)only[push_cast,↓zz,seval])|refine Aa ?_ ?_|(first|refine Ac ?_ ?_|refine Ab ?_ ?_)<;>intro hc<;>(try simp only[push_cast] at hc)|omega|intro _))
 refine BV DG ?_;unfold CQ;(with_reducible repeat'(first|(simp(disch:=omega)only[push_cast,↓zz,seval])|refine Aa ?_ ?_|(first|refine Ac ?_ ?_|refine Ab ?_ ?_)<;>intro hc<;>(try simp only[push_cast] at hc)|omega|intro _))
 all_goals trace_state
theorem zcr{lo hi D q:Int}(hD:0<D)(h:lo<=hi):(∃x,lo<=x/\x<=hi/\x / D=q)↔lo / D<=q/\q<=hi / D:=by
 constructor
 ·rintro⟨x,h1,h2,rfl⟩
  exact⟨Da hD h1,Da hD h2⟩
 ·rintro⟨h1,h2⟩
  rcases Int.lt_or_eq_of_le h1 with h3|h3
  ·refine⟨q * D,?_,?_,Int.mul_ediv_cancel _ (by omega)⟩
   ·have:=(Int.ediv_lt_iff_lt_mul hD).1 h3;omega
   ·exact (Int.le_ediv_iff_mul_le hD).1 h2
  ·exact⟨lo,BY _,h,h3⟩
theorem Rp{x y M:Int}(hM:0<M)(h1:x<=y)(h2:y-x<M):y / M=x / M\/y / M=x / M+1:=by
 have a:=Da hM h1;have c:y / M<=(x+M * 1) / M:=Da hM (by omega);rw[Int.add_mul_ediv_left _ _ (by omega)] at c;omega
theorem MJ{w M k:Int}(h:0<=w/\w<M):(M * k+w) % M=w:=by
 rw[Int.add_comm,Int.add_mul_emod_self_left,Int.emod_eq_of_lt h.1 h.2]
theorem z4m{a b M w:Int}(hM:0<M)(hab:a<=b)(hs:b-a<M-1):
 (∃q,a<=q/\q<=b/\q % M=w)↔if a % M<=b % M then a % M<=w/\w<=b % M else (0<=w/\w<=b % M)\/(a % M<=w/\w<=M-1):=by
 have ea:=DX a M;have eb:=DX b M;have a1:=Cc a (by omega:M≠0);have a2:=BL a hM;have b1:=Cc b (by omega:M≠0);have b2:=BL b hM;constructor
 ·rintro⟨q,h1,h2,rfl⟩
  have eq:=DX q M;have q1:=Cc q (by omega:M≠0);have q2:=BL q hM;have k1:=Rp hM hab (by omega);have k2:=Rp hM h1 (by omega);have e1:M * (a / M+1)=M * (a / M)+M:=by rw[Int.mul_add,Int.mul_one]
  rcases k1 with k1|k1<;>rcases k2 with k2|k2<;>rw[k1] at eb<;>rw[k2] at eq<;>(try rw[e1] at eb)<;>(try rw[e1] at eq)<;>split<;>omega
 ·intro h
  have k1:=Rp hM hab (by omega);have e1:M * (a / M+1)=M * (a / M)+M:=by rw[Int.mul_add,Int.mul_one]
  rcases k1 with k1|k1
  ·rw[k1] at eb
   rw[Ai (by omega)] at h;exact⟨M * (a / M)+w,by omega,by omega,MJ (by omega)⟩
  ·rw[k1,e1] at eb
   rw[Ah (by omega)] at h;rcases h with h|h
   ·exact⟨M * (a / M+1)+w,by omega,by omega,MJ (by omega)⟩
   ·exact⟨M * (a / M)+w,by omega,by omega,MJ (by omega)⟩
theorem zan{a b M w:Int}(hM:0<M)(hs:M-1<=b-a):(∃q,a<=q/\q<=b/\q % M=w)↔0<=w/\w<=M-1:=by
 constructor
 ·rintro⟨q,_,_,rfl⟩
  have q1:=Cc q (by omega:M≠0);have q2:=BL q hM;omega
 ·intro h
  have e:=DX (w-a) M;have q1:=Cc (w-a) (by omega:M≠0);have q2:=BL (w-a) hM;refine⟨a+(w-a) % M,by omega,by omega,?_⟩;have:a+(w-a) % M=M * (-((w-a) / M))+w:=by rw[Int.mul_neg];omega
  rw[this,MJ (by omega)]
theorem Xk{d t:Nat}{s:Span}{w:Int}(hs:s.lo<=s.hi)(hn:¬(2 ^ t-1:Int)<=s.hi / 2 ^ d-s.lo / 2 ^ d):memL (imgS d t s) w↔∃x,(s.lo<=x/\x<=s.hi)/\x / 2 ^ d % 2 ^ t=w:=by
 have hD:(0:Int)<2 ^ d:=Fo (by decide);have hT:(0:Int)<2 ^ t:=Fo (by decide);have hab:=Da hD hs
 have key:(∃x,(s.lo<=x/\x<=s.hi)/\x / 2 ^ d % 2 ^ t=w)↔∃q,s.lo / 2 ^ d<=q/\q<=s.hi / 2 ^ d/\q % 2 ^ t=w:=by
  constructor
  ·rintro⟨x,⟨h1,h2⟩,h3⟩
   exact⟨x / 2 ^ d,Da hD h1,Da hD h2,h3⟩
  ·rintro⟨q,h1,h2,h3⟩
   obtain⟨x,k1,k2,k3⟩:=(zcr hD hs).2 ⟨h1,h2⟩;exact⟨x,⟨k1,k2⟩,by rw[k3];exact h3⟩
 rw[key,z4m hT hab (by omega),imgS];split
 ·simp[B3,Cw]
 ·simp[B3,Cw]
theorem Xl{d t:Nat}{w:Int}:∀(l out:List Span),(∀s∈l,s.lo<=s.hi)->(∀v,memL out v->0<=v/\v<=2 ^ t-1)->(memL (imgF d t l out) w↔memL out w\/∃x,memL l x/\x / 2 ^ d % 2 ^ t=w)
 |[],out,_,_=>by simp[imgF,Cw]
 |s::l,out,h,ho=>by
  have hD:(0:Int)<2 ^ d:=Fo (by decide);have hT:(0:Int)<2 ^ t:=Fo (by decide);have hs:=h s (by simp);rw[imgF];split
  ·rename_i hb
   have hf:=zan (w:=w) hT hb;constructor
   ·intro hw
    have hw':0<=w/\w<=2 ^ t-1:=by simpa [allS,B3,Cw] using hw
    obtain⟨q,h1,h2,h3⟩:=hf.2 hw';obtain⟨x,k1,k2,k3⟩:=(zcr hD hs).2 ⟨h1,h2⟩;exact .inr ⟨x,B3.2 (.inl ⟨k1,k2⟩),by rw[k3];exact h3⟩
   ·intro hw
    have:0<=w/\w<=2 ^ t-1:=by
     rcases hw with hw|⟨x,_,rfl⟩
     ·exact ho w hw
     ·have q1:=Cc (x / 2 ^ d) (by omega:(2:Int) ^ t≠0)
      have q2:=BL (x / 2 ^ d) hT;omega
    simpa [allS,B3,Cw] using this
  ·rename_i hb
   rw[Xl l _ (λs hs=>h s (by simp[hs])) (λv hv=>?_),FG,Xk hs hb]
   ·constructor
    ·rintro ((h1|⟨x,h1,h2⟩)|⟨x,h1,h2⟩)
     ·exact .inl h1
     ·exact .inr ⟨x,B3.2 (.inl h1),h2⟩
     ·exact .inr ⟨x,B3.2 (.inr h1),h2⟩
    ·rintro (h1|⟨x,h1,h2⟩)
     ·exact .inl (.inl h1)
     ·rcases B3.1 h1 with h1|h1
      ·exact .inl (.inr ⟨x,h1,h2⟩)
      ·exact .inr ⟨x,h1,h2⟩
   ·rcases FG.1 hv with hv|hv
    ·exact ho v hv
    ·obtain⟨x,_,rfl⟩:=(Xk hs hb).1 hv
     have q1:=Cc (x / 2 ^ d) (by omega:(2:Int) ^ t≠0);have q2:=BL (x / 2 ^ d) hT;omega
theorem mem_map{α:Type}{f:α->Span}{l:List α}{v:Int}:memL (l.map f) v↔∃a∈l,(f a).lo<=v/\v<=(f a).hi:=by
 simp only[memL,Aq];exact⟨λ⟨_,⟨a,h,rfl⟩,h2⟩=>⟨a,h,h2⟩,λ⟨a,h,h2⟩=>⟨_,⟨a,h,rfl⟩,h2⟩⟩
theorem Xm{p:Part}(s:List Span)(hb:GN p=true):Plain (imgL p s)/\∀v,memL (imgL p s) v↔∃x,memL s x/\(0<=x/\x<=2097151)/\valP p x=v:=by
 have hbi:=KR.1 hb;have ht:=M6 p.take.toNat (by omega);have hT:(0:Int)<2 ^ p.take.toNat:=Fo (by decide);obtain⟨m1,m2,m3⟩:=Xb s
 have hF:∀w,memL (imgF p.drop.toNat p.take.toNat (Gy (BI s) (BI topS)) []) w↔∃x,(memL s x/\0<=x/\x<=2097151)/\x / 2 ^ p.drop.toNat % 2 ^ p.take.toNat=w:=λw=>by
  rw[Xl _ _ (λt ht=>(m2 t ht).2.1) (λv hv=>absurd hv (Cw v))];simp only[Cw,Bg,m3]
 have hr:∀w,memL (imgF p.drop.toNat p.take.toNat (Gy (BI s) (BI topS)) []) w->0<=w/\w<=2 ^ p.take.toNat-1:=λw hw=>by
  obtain⟨x,_,rfl⟩:=(hF w).1 hw;have q1:=Cc (x / 2 ^ p.drop.toNat) (by omega:(2:Int) ^ p.take.toNat≠0);have q2:=BL (x / 2 ^ p.drop.toNat) hT;omega
 unfold imgL;rw[Ah (by simp[hb])];split
 ·rename_i hu
  refine⟨(BD _).1,λv=>?_⟩;rw[(BD _).2 v,hF];have e:∀x,valP p x=x / 2 ^ p.drop.toNat % 2 ^ p.take.toNat:=λx=>by simp[valP,hu]
  constructor
  ·rintro⟨⟨x,⟨h1,h2⟩,h3⟩,_⟩
   exact⟨x,h1,h2,by rw[e];exact h3⟩
  ·rintro⟨x,h1,h2,h3⟩
   rw[e] at h3;have:=hr v ((hF v).2 ⟨x,⟨h1,h2⟩,h3⟩);exact⟨⟨x,⟨h1,h2⟩,h3⟩,by omega⟩
 ·rename_i hu
  refine⟨(BD _).1,λv=>?_⟩;rw[(BD _).2 v,mem_map];constructor
  ·rintro⟨⟨n,hn,h1,h2⟩,_⟩
   simp only[oneS] at h1 h2;have hn':=IJ.1 hn;rw[(BD _).2,(BD _).2] at hn';obtain⟨x,⟨k1,k2⟩,k3⟩:=(hF n).1 hn'.1.1;exact⟨x,k1,k2,by rw[valP,k3];omega⟩
  ·rintro⟨x,h1,h2,h3⟩
   have hv:=GQ hb h2;have hm:=(hF (x / 2 ^ p.drop.toNat % 2 ^ p.take.toNat)).2 ⟨x,⟨h1,h2⟩,rfl⟩;have:=hr _ hm;refine⟨⟨x / 2 ^ p.drop.toNat % 2 ^ p.take.toNat,IJ.2 ?_,?_⟩,by omega⟩
   ·rw[(BD _).2,(BD _).2]
    exact⟨⟨hm,by omega⟩,by omega⟩
   ·rw[valP] at h3
    simp only[oneS];omega
def Full(l:List Span):Prop:=∀s∈l,s.lo<=s.hi
theorem z4n{a b:List Span}(ha:Full a)(hb:Full b):Plain (Tt a b)/\∀v,memL (Tt a b) v↔(∃x y,memL a x/\memL b y/\x+y=v)/\-1073741824<=v/\v<=1073741824:=by
 refine⟨(BD _).1,λv=>?_⟩;rw[Tt,(BD _).2 v,UR,Xc];refine and_congr_left λ_=>?_;constructor
 ·rintro⟨s,hs,h⟩
  obtain⟨r,hr,h1,h2⟩:=mem_map.1 h;simp only[sumS] at h1 h2;have k1:=ha s hs;have k2:=hb r hr;refine⟨max s.lo (v-r.hi),v-max s.lo (v-r.hi),⟨s,hs,by omega,by omega⟩,⟨r,hr,by omega,by omega⟩,by omega⟩
 ·rintro⟨x,y,⟨s,hs,h1,h2⟩,⟨r,hr,h3,h4⟩,rfl⟩
  exact⟨s,hs,mem_map.2 ⟨r,hr,by simp only[sumS];omega,by simp only[sumS];omega⟩⟩
theorem z4o{out:List Span}{n:Int}(h:Full out):Full (addS out ⟨n,n⟩)/\∀v,memL (addS out ⟨n,n⟩) v↔memL out v\/v=n:=by
 rcases GM out with rfl|⟨m,y,rfl⟩
 ·refine⟨λs hs=>?_,λv=>?_⟩
  ·simp only[IH,As] at hs;subst hs;simp
  ·rw[IH,B3];simp only[Cw,A5,Bg];omega
 ·have hy:=h y (by simp)
  rw[NZ];simp only;split
  ·rename_i he
   refine⟨λs hs=>?_,λv=>?_⟩
   ·rcases Au.1 hs with hs|hs
    ·exact h s (by simp[hs])
    ·simp only[As] at hs;subst hs;simp only;omega
   ·rw[FG,FG,B3,B3]
    simp only[Cw,A5];constructor
    ·rintro (h1|h1)
     ·exact .inl (.inl h1)
     ·by_cases hv:v=n
      ·exact .inr hv
      ·exact .inl (.inr (by omega))
    ·rintro ((h1|h1)|h1)
     ·exact .inl h1
     ·exact .inr (by omega)
     ·exact .inr (by omega)
  ·refine⟨λs hs=>?_,λv=>?_⟩
   ·rcases Au.1 hs with hs|hs
    ·exact h s hs
    ·simp only[As] at hs;subst hs;simp
   ·rw[FG,B3]
    simp only[Cw,A5];have:(n<=v/\v<=n)↔v=n:=by omega
    rw[this]
theorem Xn(l:List Part){v:Int}:∀(m:List Int)(out:List Span),Full out->(memL (m.foldl (togF l) out) v↔memL out v\/∃x∈m,totV l x=v)
 |[],out,_=>by simp
 |x::m,out,h=>by
  obtain⟨h1,h2⟩:=z4o (n:=totV l x) h;rw[List.foldl_cons,togF,Xn l m _ h1,h2];simp only[Ag,exists_eq_or_imp];constructor
  ·rintro ((h|h)|h)
   ·exact .inl h
   ·exact .inr (.inl h.symm)
   ·exact .inr (.inr h)
  ·rintro (h|h|h)
   ·exact .inl (.inl h)
   ·exact .inl (.inr h.symm)
   ·exact .inr h
theorem zao{l:List Part}{s:List Span}(hl:l.length<=4)(hb:∀p∈l,GN p=true)(hs:Syms s):Plain (togL l s)/\∀v,memL (togL l s) v↔∃x,memL s x/\totV l x=v:=by
 unfold togL;split
 ·rename_i h1
  obtain⟨p,rfl⟩:=List.length_eq_one_iff.1 h1;obtain⟨i1,i2⟩:=Xm s (hb p (by simp));refine⟨i1,λv=>?_⟩;have e:nth [p] 0=p:=rfl;rw[e,i2];have e2:∀x,totV [p] x=valP p x:=λx=>by simp[totV]
  constructor
  ·rintro⟨x,h1,_,h3⟩;exact⟨x,h1,by rw[e2];exact h3⟩
  ·rintro⟨x,h1,h3⟩
   have:=hs.mem h1;exact⟨x,h1,by omega,by rw[<-e2];exact h3⟩
 ·refine⟨(BD _).1,λv=>?_⟩
  rw[(BD _).2 v,Xn l _ _ (λs hs=>by cases hs),Tv hs];simp only[Cw,Bg,IJ];constructor
  ·rintro⟨h,_⟩;exact h
  ·rintro⟨x,h1,rfl⟩
   have:=hs.mem h1;have:=Of (x:=x) (by omega) hb;exact⟨⟨x,h1,rfl⟩,by omega⟩
def Win(sets:List (List Span))(w:List Int):Prop:=w.length=sets.length/\∀i,i<sets.length->memL (nth sets i) (nth w i)
def Oo(l:List Part)(pl:List Int)(w:List Int):Int:=(pl.map λa=>totV (atL l a) (nth w a.toNat)).sum
def totW(w:List Int)(l:List Part):Int:=(l.map λp=>valP p (nth w p.at_.toNat)).sum
theorem Vb{w:List Int}{i j:Nat}{x:Int}(h:i<w.length):nth (w.set i x) j=if j=i then x else nth w j:=by
 simp only[nth,Av,List.getElem?_set];split
 ·subst_vars;simp[h]
 ·rename_i hne;rw[Ah (λe=>hne e.symm)]
theorem IL{α:Type}{f g:α->Int}:∀{l:List α},(∀a∈l,f a=g a)->(l.map f).sum=(l.map g).sum
 |[],_=>rfl
 |a::l,h=>by simp[h a (by simp),IL (l:=l) λb hb=>h b (by simp[hb])]
theorem Oq{α:Type}{f g:α->Int}:∀{l:List α},(l.map λa=>f a+g a).sum=(l.map f).sum+(l.map g).sum
 |[]=>rfl
 |a::l=>by
  have:=Oq (f:=f) (g:=g) (l:=l);simp only[BB,List.sum_cons,this];omega
theorem Jv{α:Type}{f:α->Int}:∀{l:List α},(∀a∈l,f a=0)->(l.map f).sum=0
 |[],_=>rfl
 |a::l,h=>by simp[h a (by simp),Jv (l:=l) λb hb=>h b (by simp[hb])]
theorem Ot{c:Int}{g:Int->Int}:∀{l:List Int},l.Nodup->c∈l->(l.map λa=>if c=a then g a else 0).sum=g c
 |[],_,h=>by cases h
 |a::l,hn,h=>by
  obtain⟨h1,h2⟩:=Cd.1 hn;by_cases e:c=a
  ·subst e
   have:(l.map λa=>if c=a then g a else 0).sum=0:=Jv λb hb=>Ah λ(e2:c=b)=>h1 (by rw[e2];exact hb);simp[this]
  ·have hm:c∈l:=by simpa [e] using h
   simp[e,Ot h2 hm]
theorem LJ(w:List Int):∀(l:List Part)(pl:List Int),pl.Nodup->(∀p∈l,p.at_∈pl)->Oo l pl w=totW w l
 |[],pl,_,_=>Jv λa _=>rfl
 |p::l,pl,hn,h=>by
  have ih:=LJ w l pl hn λq hq=>h q (by simp[hq])
  have e:∀a∈pl,totV (atL (p::l) a) (nth w a.toNat)=(if p.at_=a then valP p (nth w a.toNat) else 0)+totV (atL l a) (nth w a.toNat):=λa _=>by
   simp only[atL,BH,Aj];split
   ·simp[totV]
   ·simp[totV]
  rw[Oo,IL e,Oq,Ot (g:=λa=>valP p (nth w a.toNat)) hn (h p (by simp))];rw[Oo] at ih;rw[ih];simp[totW]
theorem Ou:∀(l:List Part)(pl:List Int),pl.Nodup->(l.foldl Df pl).Nodup/\(∀a,a∈l.foldl Df pl↔a∈pl\/∃p∈l,p.at_=a)/\(l.foldl Df pl).length<=pl.length+l.length
 |[],pl,h=>⟨h,λa=>by simp,by simp⟩
 |p::l,pl,h=>by
  have h1:(Df pl p).Nodup/\(∀a,a∈Df pl p↔a∈pl\/p.at_=a)/\(Df pl p).length<=pl.length+1:=by
   unfold Df;split
   ·rename_i hm
    exact⟨h,λa=>⟨.inl,λhh=>hh.elim id λe=>e ▸ hm⟩,by omega⟩
   ·rename_i hm
    refine⟨Dr.2 ⟨h,by simp,λa ha b hb=>?_⟩,λa=>by simp[eq_comm],by simp⟩;simp only[As] at hb;subst hb;exact λe=>hm (e ▸ ha)
  obtain⟨k1,k2,k3⟩:=Ou l (Df pl p) h1.1;refine⟨k1,λa=>?_,by have:=h1.2.2;simp only[List.foldl_cons,List.length_cons];omega⟩;rw[List.foldl_cons,k2,h1.2.1];simp only[Ag,exists_eq_or_imp,or_assoc]
theorem PQ{l:List Span}(h:Plain l):Full l:=h.1
theorem zgx{sets:List (List Span)}{w:List Int}{a:Nat}{x:Int}(hw:Win sets w)(ha:a<sets.length)(hx:memL (nth sets a) x):Win sets (w.set a x):=by
 refine⟨by simp[hw.1],λi hi=>?_⟩;rw[Vb (by rw[hw.1];exact ha)];split
 ·subst_vars;exact hx
 ·exact hw.2 i hi
theorem Tz{l:List Part}{sets:List (List Span)}(hS:Ee l sets)(hl:l.length<=4)(hne:∃w,Win sets w):∀(pl:List Int)(out:List Span),pl.Nodup->(∀a∈pl,0<=a/\a<sets.length)->Full out->pl.length<=4 ->
 (∀v,memL out v->-1114111<=v/\v<=1114111+(4-(pl.length:Int)) * 264241152)->Full (pl.foldl (Cf l sets) out)/\∀v,memL (pl.foldl (Cf l sets) out) v↔∃o w,memL out o/\Win sets w/\o+Oo l pl w=v
 |[],out,_,_,hf,_,_=>⟨hf,λv=>by
  obtain⟨w,hw⟩:=hne;simp only[List.foldl_nil,Oo,BF,List.sum_nil,Int.add_zero]
  exact⟨λh=>⟨v,w,h,hw,rfl⟩,λ⟨o,_,h,_,e⟩=>e ▸ h⟩⟩
 |a::pl,out,hn,hp,hf,hlen,hb=>by
  obtain⟨n1,n2⟩:=Cd.1 hn;have ha:=hp a (by simp);have hm:nth sets a.toNat∈sets:=B2 (by omega);have hsy:=hS.syms _ hm
  have hbits:∀p∈atL l a,GN p=true:=λp hp=>by
   have:=hS.parts p ((AX.1 hp).1);simp only[FH,Ad] at this;exact this.2
  have hla:(atL l a).length<=4:=Bm (B7 _ _) hl;obtain⟨t1,t2⟩:=zao hla hbits hsy;obtain⟨p1,p2⟩:=z4n hf (PQ t1)
  have htot:∀x,memL (nth sets a.toNat) x->0<=totV (atL l a) x/\totV (atL l a) x<=264241152:=λx hx=>by
   have:=hsy.mem hx;have:=Of (x:=x) (by omega) hbits;omega
  simp only[List.length_cons] at hlen hb
  have hv:∀v,memL (Cf l sets out a) v↔∃o x,memL out o/\memL (nth sets a.toNat) x/\o+totV (atL l a) x=v:=λv=>by
   rw[Cf,p2];constructor
   ·rintro⟨⟨o,y,h1,h2,h3⟩,_⟩
    obtain⟨x,k1,k2⟩:=(t2 y).1 h2;exact⟨o,x,h1,k1,by rw[k2];exact h3⟩
   ·rintro⟨o,x,h1,h2,rfl⟩
    have:=hb o h1;have:=htot x h2
    push_cast at *
    exact⟨⟨o,_,h1,(t2 _).2 ⟨x,h2,rfl⟩,rfl⟩,by omega,by omega⟩
  obtain⟨i1,i2⟩:=Tz hS hl hne pl (Cf l sets out a) n2 (λb hb=>hp b (by simp[hb])) (PQ p1) (by omega) (λv h=>by
   obtain⟨o,x,h1,h2,rfl⟩:=(hv v).1 h;have:=hb o h1;have:=htot x h2
   push_cast at *
   omega)
  refine⟨i1,λv=>?_⟩;rw[List.foldl_cons,i2];constructor
  ·rintro⟨u,w,h1,hw,rfl⟩
   obtain⟨o,x,k1,k2,rfl⟩:=(hv u).1 h1;refine⟨o,w.set a.toNat x,k1,zgx hw (by omega) k2,?_⟩
   have e1:Oo l pl (w.set a.toNat x)=Oo l pl w:=IL λb hb=>by
    have:=hp b (by simp[hb]);rw[Vb (by rw[hw.1];omega),Ah];intro e;exact n1 ((show b=a by omega) ▸ hb)
   have e2:Oo l (a::pl) (w.set a.toNat x)=totV (atL l a) x+Oo l pl (w.set a.toNat x):=by
    simp only[Oo,BB,List.sum_cons];rw[Vb (by rw[hw.1];omega),Ai rfl]
   rw[e2,e1];omega
  ·rintro⟨o,w,h1,hw,rfl⟩
   have hx:=hw.2 a.toNat (by omega);refine⟨o+totV (atL l a) (nth w a.toNat),w,(hv _).2 ⟨o,_,h1,hx,rfl⟩,hw,?_⟩;simp only[Oo,BB,List.sum_cons];omega
theorem zap(x:Int):Full [⟨x,x⟩]:=λs hs=>by simp only[As] at hs;subst hs;simp
theorem Vd{x v:Int}:memL [⟨x,x⟩] v↔v=x:=by rw[B3];simp only[Cw,A5];omega
theorem z4p{t:Term}{sets:List (List Span)}(hS:Ee t.parts sets)(hl:t.parts.length<=4)(hs:Dw t.sum=true)(hne:∃w,Win sets w):Full (BR t sets)/\∀v,memL (BR t sets) v↔∃w,Win sets w/\t.sum+totW w t.parts=v:=by
 obtain⟨k1,k2,k3⟩:=Ou t.parts [] (by simp);have hsm:=IF hs;simp only[List.length_nil] at k3
 have hat:∀a,a∈Dh t.parts->0<=a/\a<sets.length:=λa ha=>by
  obtain h|⟨p,hp,rfl⟩:=(k2 a).1 ha
  ·cases h
  ·exact AU (hS.parts p hp)
 obtain⟨h1,h2⟩:=Tz hS hl hne (Dh t.parts) [⟨t.sum,t.sum⟩] k1 hat (zap _) (by rw[Dh];omega) (λv hv=>by
  rw[Vd] at hv;have:(Dh t.parts).length<=4:=by rw[Dh];omega
  omega)
 refine⟨h1,λv=>?_⟩;rw[BR,h2];constructor
 ·rintro⟨o,w,e,hw,rfl⟩
  rw[Vd] at e;exact⟨w,hw,by rw[e,Dh,LJ w _ _ k1 λp hp=>(k2 _).2 (.inr ⟨p,hp,rfl⟩)]⟩
 ·rintro⟨w,hw,rfl⟩
  exact⟨_,w,Vd.2 rfl,hw,by rw[Dh,LJ w _ _ k1 λp hp=>(k2 _).2 (.inr ⟨p,hp,rfl⟩)]⟩
theorem Ve{w:List Int}{n:Int}:∀{l:List Part},(∀p∈l,FH p n=true)->(∀p∈l,0<=nth w p.at_.toNat/\nth w p.at_.toNat<=1114111)->totP w l=totW w l/\0<=totW w l/\totW w l<=l.length * 66060288
 |[],_,_=>by simp[totP,totW]
 |p::l,h,hx=>by
  obtain⟨i1,i2,i3⟩:=Ve (l:=l) (λq hq=>h q (by simp[hq])) (λq hq=>hx q (by simp[hq]));have hr:=h p (by simp);simp only[FH,Ad] at hr;have hxp:=hx p (by simp);have hv:=GQ hr.2 (x:=nth w p.at_.toNat) (by omega);have e1:val1 p (nth w p.at_.toNat)=valP p (nth w p.at_.toNat):=(QU hr.2 (by omega)).2;have e2:totW w (p::l)=valP p (nth w p.at_.toNat)+totW w l:=by simp[totW]
  rw[totP,e1,e2,i1];refine⟨rfl,by omega,?_⟩
  push_cast [List.length_cons]
  omega
theorem Jw{t:Term}{sets:List (List Span)}{w:List Int}(hS:Ee t.parts sets)(hn:ET t=true)(hw:Win sets w):
 EU t w=if 0<=t.sum+totW w t.parts/\t.sum+totW w t.parts<=1114111 then some (t.base+valP t.outer (t.sum+totW w t.parts)) else none:=by
 simp only[ET,Ad,Aj] at hn;obtain⟨⟨⟨hb,hs⟩,ho⟩,_,hl⟩:=hn;have hsm:=IF hs;have hbm:=IF hb;have hsym:∀i,i<sets.length->0<=nth w i/\nth w i<=1114111:=λi hi=>(hS.syms _ (B2 hi)).mem (hw.2 i hi)
 obtain⟨e1,b1,b2⟩:=Ve (w:=w) hS.parts (λp hp=>by
  have:=AU (hS.parts p hp)
  exact hsym _ (by omega))
 have hall:w.all symB=true:=by
  rw[AO];intro x hx;obtain⟨i,hi,rfl⟩:=Bw hx;have:=hsym i (by rw[<-hw.1];exact hi);have e:nth w i=w[i]:=by simp[nth,hi]
  rw[e] at this;simp[symB];omega
 have hright:L9 w t.parts=true:=by
  rw[L9,AO];intro p hp;rw[hw.1];exact hS.parts p hp
 have hsum:=z2o w t.parts t.sum (zgd (by omega));rw[Ai hright,e1,zgd (by omega)] at hsum;unfold EU;rw[Ai hall,hsum];simp only;by_cases h:0<=t.sum+totW w t.parts/\t.sum+totW w t.parts<=1114111
 ·have hvb:valB t.outer (t.sum+totW w t.parts)=true:=(QU ho (by omega)).1
  have hv2:=GQ ho (x:=t.sum+totW w t.parts) (by omega);rw[Ai h,Ai (by simp[hvb];omega),show IntKind.i64.wrap (t.base+valP t.outer (t.sum+totW w t.parts))=t.base+valP t.outer (t.sum+totW w t.parts) from IntWalk.i64_in _ (by omega)]
 ·rw[Ah h,Ah]
  simp only[valB,ho,Ax,Ad,Aj];omega
theorem PR:∀{m:List Span},Plain m->m≠[]->∃a b,Ts m=some a/\UP m=some b/\memL m a/\memL m b/\∀v,memL m v->a<=v/\v<=b
 |[],_,h=>absurd rfl h
 |[s],h,_=>by
  have:=h.head;refine⟨s.lo,s.hi,rfl,rfl,B3.2 (.inl (by omega)),B3.2 (.inl (by omega)),λv hv=>?_⟩;rw[B3] at hv;simpa [Cw] using hv
 |s::r::m,h,_=>by
  have hs:=h.head;obtain⟨a,b,e1,e2,h1,h2,h3⟩:=PR h.tail (by simp);have hb:=h.after h2;refine⟨s.lo,b,rfl,?_,B3.2 (.inl (by omega)),B3.2 (.inr h2),λv hv=>?_⟩
  ·simpa [UP] using e2
  ·rcases B3.1 hv with h4|h4
   ·omega
   ·have:=h.after h4
    have:=h3 v h4;omega
theorem Rq{l:List Span}{v:Int}(h:memL l v):l≠[]:=by rintro rfl;exact Cw v h
theorem Zz{l:List Span}{u:Int}(hu:memL l u)(hb:∀v,memL l v->-1073741824<=v/\v<=1073741824):Dx l=true↔∀v,memL l v->0<=v/\v<=1114111:=by
 obtain⟨p1,p2⟩:=BD l;have hm:∀v,memL (BI l) v↔memL l v:=λv=>by rw[p2];exact⟨λh=>h.1,λh=>⟨h,hb v h⟩⟩
 obtain⟨a,b,e1,e2,h1,h2,h3⟩:=PR p1 (Rq ((hm u).2 hu))
 have hl:0<(l.length:Int):=by
  have:=E0.2 (Rq hu);omega
 simp only[Dx,e1,e2,Option.getD_some,Ad,Aj];constructor
 ·rintro⟨_,k1,k2⟩ v hv
  have:=h3 v ((hm v).2 hv);omega
 ·intro h
  exact⟨hl,(h a ((hm a).1 h1)).1,(h b ((hm b).1 h2)).2⟩
theorem zaq{gs:List (List Span)}:LH gs gs.length=true↔∃w,Win (gs.map symI) w:=by
 rw[LH,AH,AO];constructor
 ·intro h
  refine⟨(gs.map symI).map λs=>(nth s 0).lo,by simp,λi hi=>?_⟩;have hi':i<gs.length:=by simpa using hi
  have h1:=h _ (B2 hi');have e1:nth (gs.map symI) i=symI (nth gs i):=by simp[nth,hi']
  have e2:nth ((gs.map symI).map λs=>(nth s 0).lo) i=(nth (symI (nth gs i)) 0).lo:=by simp[nth,hi']
  rw[e1,e2];simp only[Aj] at h1;have hm:=B2 (l:=symI (nth gs i)) (i:=0) (by omega);have hs:=(Tq (nth gs i)).2 _ hm;exact⟨_,hm,by omega,by omega⟩
 ·rintro⟨w,hw⟩ g hg
  obtain⟨i,hi,rfl⟩:=Bw hg;have h1:=hw.2 i (by simpa using hi);have e1:nth (gs.map symI) i=symI gs[i]:=by simp[nth,hi]
  rw[e1] at h1;have:=E0.2 (Rq h1);simp only[Aj];omega
theorem Z0{t:Term}{gs:List (List Span)}(h4:gs.length<=4)(hn:ET t=true)(hp:prtB t gs.length=true):
 ((Gl t gs).2=true↔∀w,Win (gs.map symI) w->(EU t w).isSome=true)/\((Gl t gs).2=false->(Gl t gs).1=[]) /\
 ((Gl t gs).2=true->Plain (Gl t gs).1/\∀v,memL (Gl t gs).1 v↔∃w,Win (gs.map symI) w/\EU t w=some v):=by
 have hS:=LI hp h4;have hnum:=hn;simp only[ET,Ad,Aj] at hnum;obtain⟨⟨⟨hb,hs⟩,ho⟩,_,hl⟩:=hnum;have hsm:=IF hs;have hbm:=IF hb
 have hI:Gk t gs=if LH gs gs.length=false then ([],true) else (BR t (gs.map symI),Dx (BR t (gs.map symI))):=by
  rw[Gk,Ah (by simp[hn];omega),Ah (by simp[hp])]
 have hsome:=@zaq gs;cases hB:LH gs gs.length
 ·rw[hB] at hI hsome
  have hno:∀w,¬Win (gs.map symI) w:=λw hw=>by have:=hsome.2 ⟨w,hw⟩;cases this
  have e:Gl t gs=([],true):=by rw[Gl,hI];simp
  rw[e];refine⟨⟨λ_ w hw=>absurd hw (hno w),λ_=>rfl⟩,λh=>(by cases h),λ_=>⟨⟨by simp,by simp⟩,λv=>⟨λh=>absurd h (Cw v),λ⟨w,hw,_⟩=>absurd hw (hno w)⟩⟩⟩
 ·rw[hB] at hI hsome
  obtain⟨w0,hw0⟩:=hsome.1 rfl;obtain⟨v1,v2⟩:=z4p hS hl hs ⟨w0,hw0⟩
  have hbd:∀w,Win (gs.map symI) w->0<=totW w t.parts/\totW w t.parts<=264241152:=λw hw=>by
   obtain⟨_,b1,b2⟩:=Ve (w:=w) hS.parts (λp hp=>by
    have:=AU (hS.parts p hp)
    exact (hS.syms _ (B2 (by omega))).mem (hw.2 _ (by omega)))
   omega
  have hin:=Zz ((v2 _).2 ⟨w0,hw0,rfl⟩) (λv hv=>by
   obtain⟨w,hw,rfl⟩:=(v2 v).1 hv;have:=hbd w hw
   omega)
  have hin2:Dx (BR t (gs.map symI))=true↔∀w,Win (gs.map symI) w->(EU t w).isSome=true:=by
   rw[hin];constructor
   ·intro h w hw
    rw[Jw hS hn hw,Ai (h _ ((v2 _).2 ⟨w,hw,rfl⟩))];rfl
   ·intro h v hv
    obtain⟨w,hw,rfl⟩:=(v2 v).1 hv;have:=h w hw;rw[Jw hS hn hw] at this;split at this
    ·assumption
    ·cases this
  have hne:(BR t (gs.map symI)).length≠0:=λh=>Rq ((v2 _).2 ⟨w0,hw0,rfl⟩) (Az h);cases hi:Dx (BR t (gs.map symI))
  ·have e:Gl t gs=([],false):=by rw[Gl,hI];simp[hi]
   rw[e];rw[hi] at hin2;exact⟨hin2,λ_=>rfl,λh=>by cases h⟩
  ·have e:Gl t gs=(M7 (imgL t.outer (BR t (gs.map symI))) t.base,true):=by
    rw[Gl,hI];simp[hi,hne]
   rw[e];rw[hi] at hin2;refine⟨hin2,λh=>(by cases h),λ_=>⟨?_,λv=>?_⟩⟩
   ·unfold M7
    split
    ·exact⟨by simp,by simp⟩
    ·exact (BD _).1
   ·obtain⟨_,i2⟩:=Xm (BR t (gs.map symI)) ho
    rw[z9z (by omega),i2];constructor
    ·rintro⟨⟨⟨x,h1,h2,h3⟩,_⟩,_⟩
     obtain⟨w,hw,rfl⟩:=(v2 x).1 h1;have hv:=hin.1 hi _ h1;exact⟨w,hw,by rw[Jw hS hn hw,Ai hv,h3];congr 1;omega⟩
    ·rintro⟨w,hw,h⟩
     have hm:=(v2 _).2 ⟨w,hw,rfl⟩;have hv:=hin.1 hi _ hm;rw[Jw hS hn hw,Ai hv] at h;have hvs:=GQ ho (x:=t.sum+totW w t.parts) (by omega);simp only[Ap] at h;exact⟨⟨⟨_,hm,by omega,by omega⟩,by omega⟩,by omega⟩
def Hj(s x:Int):Bool:=decide ((s=1/\0<=x/\x<256)\/(s=2/\0<=x/\x<1114112/\(x<55296\/57344<=x)))
def fitW(t:Term)(o:Int)(w:List Int):Bool:=match EU t w with
 |some v=>decide (0<=v/\v<=1114111)&&Hj o v
 |none=>false
theorem win_cons{g:List Span}{gs:List (List Span)}{w:List Int}:Win (g::gs) w↔∃x r,w=x::r/\memL g x/\Win gs r:=by
 constructor
 ·rintro⟨h1,h2⟩
  cases w with
  |nil=>simp at h1
  |cons x r =>
   refine⟨x,r,rfl,?_,by simpa using h1,λi hi=>?_⟩
   ·exact h2 0 (by simp)
   ·exact h2 (i+1) (by simp;omega)
 ·rintro⟨x,r,rfl,h1,h2⟩
  refine⟨by simp[h2.1],λi hi=>?_⟩;cases i with
  |zero=>exact h1
  |succ i=>exact h2.2 i (by simp at hi;omega)
theorem z4q{w:List Int}:Win [] w↔w=[]:=by
 constructor
 ·rintro⟨h,_⟩;exact Az h
 ·rintro rfl;exact⟨rfl,λi hi=>by simp at hi⟩
theorem Rr{o v:Int}:memL (domL o) v↔Hj o v=true:=by
 unfold domL;simp only[Hj,Aj];split
 ·rw[B3];simp only[Cw,A5];omega
 ·split
  ·rw[B3,B3];simp only[Cw,A5];omega
  ·simp only[Cw,false_iff];omega
theorem Xo{o v:Int}(h:Hj o v=true):0<=v/\v<=1114111:=by
 simp only[Hj,Aj] at h;omega
theorem Ov{l d:List Span}(hl:∀v,memL l v->-1073741824<=v/\v<=1073741824)(hp:Full l):Ju l d=[]↔∀v,memL l v->memL d v:=by
 obtain⟨m1,m2⟩:=YP l d;constructor
 ·intro h v hv
  rw[h] at m2;exact Bc λhn=>Cw v ((m2 v).2 ⟨hv,hl v hv,hn⟩)
 ·intro h
  cases hm:Ju l d with
  |nil=>rfl
  |cons s r =>
   rw[hm] at m1 m2;obtain⟨a,_,c⟩:=(m2 s.lo).1 (B3.2 (.inl ⟨BY _,m1.1 s (by simp)⟩));exact absurd (h _ a) c
theorem Ow{t:Term}{i o n:Int}(h:I0 t i o n=true):ET t=true/\prtB t n=true:=by
 simp only[I0,GP,Ad] at h;obtain⟨⟨⟨⟨_,hn⟩,hr⟩,_⟩,_⟩:=h;refine⟨hn,?_⟩;rw[prtB,AO];intro p hp;have:=AO.1 hr p hp;simp only[Ad] at this;exact this.1
theorem Xp{t:Term}{gs:List (List Span)}(h4:gs.length<=4)(hn:ET t=true)(hp:prtB t gs.length=true){w:List Int}{v:Int}(hw:Win (gs.map symI) w)(hv:EU t w=some v):-1073741824<=v/\v<=1073741824:=by
 have hnum:=hn;simp only[ET,Ad,Aj] at hnum;have hbm:=IF hnum.1.1.1;rw[Jw (LI hp h4) hn hw] at hv;split at hv
 ·have:=GQ hnum.1.2 (x:=t.sum+totW w t.parts) (by omega)
  simp only[Ap] at hv;omega
 ·cases hv
theorem KX{t:Term}{i o:Int}{gs:List (List Span)}(h4:gs.length<=4):KV t i o gs=true↔I0 t i o gs.length=true/\∀w,Win (gs.map symI) w->fitW t o w=true:=by
 rw[KV,Ad,Ad,Aj];refine and_congr_right λhr=>?_;obtain⟨hn,hp⟩:=Ow hr;obtain⟨s1,s2,s3⟩:=Z0 h4 hn hp;constructor
 ·rintro⟨hi,hm⟩ w hw
  obtain⟨p1,p2⟩:=s3 hi;rw[Ov (λv hv=>by obtain⟨w,h1,h2⟩:=(p2 v).1 hv;exact Xp h4 hn hp h1 h2) p1.1] at hm;have hv:=z9a (s1.1 hi w hw);have:=Rr.1 (hm _ ((p2 _).2 ⟨w,hw,hv⟩));have hb:=Xo this;rw[fitW,hv];simp[hb,this]
 ·intro h
  have hi:(Gl t gs).2=true:=s1.2 λw hw=>by
   have:=h w hw;rw[fitW] at this;cases hv:EU t w with
   |none=>rw[hv] at this;cases this
   |some v=>rfl
  obtain⟨p1,p2⟩:=s3 hi;refine⟨hi,(Ov (λv hv=>by obtain⟨w,h1,h2⟩:=(p2 v).1 hv;exact Xp h4 hn hp h1 h2) p1.1).2 λv hv=>?_⟩;obtain⟨w,h1,h2⟩:=(p2 v).1 hv;have:=h w h1;rw[fitW,h2] at this;simp only[Ad] at this;exact Rr.2 this.2
theorem Gf{d:Desc}(h:Ew d=0):OT d=true/\(∀r∈d.rules,Hq d r=true)/\∀f∈d.finals,GA d f=true:=by
 have h0:(HU d).1=0:=by
  unfold Ew at h;split at h
  ·assumption
  ·omega
 unfold HU at h0;split at h0
 ·simp at h0
 ·rename_i hh
  refine⟨by simpa using hh,?_⟩;split at h0
  ·simp at h0
  ·rename_i hr
   split at h0
   ·simp at h0
   ·rename_i hf
    exact⟨JO hr,JO hf⟩
theorem FX{d:Desc}{out:List Term}{gs:List (List Span)}(h:G9 d out gs=true):out.length<=64/\∀t∈out,t.parts.length<=4:=by
 simp only[G9,Ad,Aj] at h;refine⟨by omega,λt ht=>?_⟩;have:=AO.1 h.2 t ht;simp only[KV,Ad] at this;have h2:=(Ow this.1).1;simp only[ET,Ad,Aj] at h2;exact h2.2.2
theorem KY{α:Type}{p:α->Bool}:∀{l:List α}{i:Nat},(∀x∈l,p x=true)->HB p l i=none
 |[],_,_=>rfl
 |x::l,i,h=>by rw[HB,Ai (h x (by simp)),KY λy hy=>h y (by simp[hy])]
theorem Ky{d:Desc}(h1:OT d=true)(h2:∀r∈d.rules,Hq d r=true)(h3:∀f∈d.finals,GA d f=true)(h4:¬cycP d.rules d.states.toNat):HU d=(0,0)/\Ew d=0:=by
 have e:HU d=(0,0):=by
  rw[HU,Ah (by simp[h1]),KY h2];simp only;rw[KY h3];simp only;rw[Ah h4]
 exact⟨e,by rw[Ew,e];rfl⟩
theorem zar(s:Int):Full (domL s)/\∀v,memL (domL s) v->0<=v/\v<=1114111:=by
 refine⟨λt ht=>?_,λv hv=>Xo (Rr.1 hv)⟩;unfold domL at ht;split at ht
 ·simp at ht;subst ht;simp
 ·split at ht
  ·simp at ht;rcases ht with rfl|rfl<;>simp
  ·cases ht
def zl8(a b:Int):Desc:=⟨a,b,1,0,[],[]⟩
structure zgy(d:Desc)(k:Nat)(f:Bool)(w a l:Int):Prop where
 le:k<=d.rules.length
 fr:zak d=(f&&(d.rules.drop k).all λr=>!Cy r)
 wi:zl6 d=(d.rules.drop k).foldl widF w
 ah:zl7 d=(d.rules.drop k).foldl aheF a
 lo:On d=d.finals.foldl lonG ((d.rules.drop k).foldl lonF l)
 nn:0<=a
theorem zgy.step{d:Desc}{k:Nat}{f:Bool}{w a l:Int}(h:zgy d k f w a l)(hk:k<d.rules.length){f2:Bool}{w2 a2 l2:Int}(e1:f2=(f&&!Cy (nth d.rules k)))(e2:w2=widF w (nth d.rules k))(e3:a2=aheF a (nth d.rules k))(e4:l2=lonF l (nth d.rules k)):zgy d (k+1) f2 w2 a2 l2 where
 le:=by omega
 fr:=by rw[h.fr,drop_at hk,List.all_cons,e1,Bool.and_assoc]
 wi:=by rw[h.wi,fold_at hk,e2]
 ah:=by rw[h.ah,fold_at hk,e3]
 lo:=by rw[h.lo,fold_at hk,e4]
 nn:=by have:=h.nn;rw[e3,aheF];omega
end Go.Proofs.YtbcjoeadpjfcfaaGreat
namespace Go.Proofs.YtbcjoeadpjfcfaaGreat
open Abs
def epsI(l:List Rule)(s:Int):List Nat:=(List.range l.length).filter λi=>Cy (nth l i)&&decide ((nth l i).from_=s)
theorem FJ{l:List Rule}{s:Int}{i:Nat}:i∈epsI l s↔i<l.length/\Cy (nth l i)=true/\(nth l i).from_=s:=by
 simp[epsI]
def okP(l:List Rule):Int->List Nat->Prop
 |_,[]=>True
 |s,i::p=>i∈epsI l s/\okP l (nth l i).to_ p
def endP(l:List Rule):Int->List Nat->Int
 |s,[]=>s
 |_,i::p=>endP l (nth l i).to_ p
def Ie(l:List Rule):Nat->Int->List (List Nat)
 |0,_=>[[]]
 |f+1,s=>[]::(epsI l s).flatMap λi=>(Ie l f (nth l i).to_).map (i::·)
theorem PS{l:List Rule}:∀(f:Nat)(s:Int),(∀p,okP l s p->p.length<=f)->Ie l (f+1) s=Ie l f s
 |0,s,h=>by
  have:epsI l s=[]:=List.eq_nil_iff_forall_not_mem.2 λi hi=>by
   have:=h [i] ⟨hi,trivial⟩;simp at this
  simp[Ie,this]
 |f+1,s,h=>by
  rw[Ie,Ie];congr 1
  have key:∀L:List Nat,(∀i∈L,i∈epsI l s)->(L.flatMap λi=>(Ie l (f+1) (nth l i).to_).map (i::·))=L.flatMap λi=>(Ie l f (nth l i).to_).map (i::·):=λL=>by
   induction L with
   |nil=>intro _;rfl
   |cons i L ih =>
    intro hL
    rw[BJ,BJ,ih λj hj=>hL j (by simp[hj]),PS f _ λp hp=>by
     have:=h (i::p) ⟨hL i (by simp),hp⟩
     simpa using this]
  exact key _ λi hi=>hi
theorem zl9{l:List Rule}{on:Nat->Bool}{i j:Nat}(hi:i<l.length)(he:Cy (nth l i)=true)(ho:on (nth l i).from_.toNat=true)(ht:(nth l i).to_=j):onF l on j=true:=by
 rw[onF,C6];exact⟨nth l i,B2 hi,by simp[he,ho,ht]⟩
theorem zcs{l:List Rule}{n:Nat}(hl:∀r∈l,(0<=r.from_/\r.from_<n)/\0<=r.to_/\r.to_<n):∀(p:List Nat)(k:Nat)(s:Int),0<=s->onK l k s.toNat=true->okP l s p->onK l (k+p.length) (endP l s p).toNat=true
 |[],k,s,_,ho,_=>ho
 |i::p,k,s,hs,ho,hp=>by
  obtain⟨h1,h2,h3⟩:=FJ.1 hp.1;have hr:=hl _ (B2 h1);have ht:onK l (k+1) (nth l i).to_.toNat=true:=zl9 h1 h2 (by rw[h3];exact ho) (by omega);have:=zcs hl p (k+1) (nth l i).to_ hr.2.1 ht hp.2;rw[List.length_cons,show k+(p.length+1)=k+1+p.length by omega];exact this
theorem Ox{l:List Rule}{n:Nat}(hl:∀r∈l,(0<=r.from_/\r.from_<n)/\0<=r.to_/\r.to_<n)(hc:¬cycP l n){s:Int}(hs:0<=s){p:List Nat}(hp:okP l s p):p.length<=n+1:=by
 have hcr:¬cycR l n=true:=λh=>hc ((z9f hl).1 h)
 have:∃k,k<=n/\YM l (onK l k)=false:=by
  refine Bc λhh=>hcr ?_;rw[cycR,AO];intro k hk;refine Bc λh2=>hh ⟨k,by simp at hk;omega,by simpa using h2⟩
 obtain⟨k,hk,hkf⟩:=this
 have hno:∀j,onK l (k+1) j=false:=λj=>by
  refine Bc λhh=>?_;have h1:onF l (onK l k) j=true:=by simpa [onK] using hh
  rw[onF,C6] at h1;obtain⟨r,hr,h2⟩:=h1;simp only[Ad] at h2
  have:YM l (onK l k)=true:=by
   rw[YM,C6];exact⟨r,hr,by simp[h2.1,h2.2.1]⟩
  rw[hkf] at this;cases this
 refine Bc λhlen=>?_;have h1:=zcs hl p 0 s hs rfl hp;rw[Bn] at h1
 have down:∀m j,onK l (k+1+m) j=true->onK l (k+1) j=true:=λm=>by
  induction m with
  |zero=>exact λj h=>h
  |succ m ih=>exact λj h=>ih j (Rf l _ j h)
 have:=down (p.length-(k+1)) (endP l s p).toNat (by rw[show k+1+(p.length-(k+1))=p.length by omega];exact h1);rw[hno] at this;cases this
def Kz(l:List Rule)(n:Nat)(s:Int):List (List Nat):=Ie l (n+1) s
theorem Rs{l:List Rule}{n:Nat}(hl:∀r∈l,(0<=r.from_/\r.from_<n)/\0<=r.to_/\r.to_<n)(hc:¬cycP l n){s:Int}(hs:0<=s):Kz l n s=[]::(epsI l s).flatMap λi=>(Kz l n (nth l i).to_).map (i::·):=by
 have h1:Ie l (n+2) s=Ie l (n+1) s:=PS (n+1) s λp hp=>Ox hl hc hs hp;show Ie l (n+1) s=_;rw[<-h1,Ie];rfl
theorem Xq{l:List Rule}:∀(f:Nat)(s:Int)(p:List Nat),p∈Ie l f s->okP l s p
 |0,s,p,h=>by simp[Ie] at h;subst h;trivial
 |f+1,s,p,h=>by
  rw[Ie,Ag,Cn] at h;rcases h with rfl|⟨i,hi,h⟩
  ·trivial
  ·obtain⟨q,hq,rfl⟩:=Aq.1 h
   exact⟨hi,Xq f _ q hq⟩
theorem Z1(l:List Rule)(f:Nat)(s:Int):∃r,Ie l f s=[]::r:=by
 cases f with
 |zero=>exact⟨[],rfl⟩
 |succ f=>exact⟨_,rfl⟩
def outP(l:List Rule)(p:List Nat):List Term:=p.flatMap λi=>(nth l i).out
def wayL(l:List Rule)(n:Nat)(s:Int)(out:List Term):List (Int × List Term):=(Kz l n s).map λp=>(endP l s p,out++outP l p)
theorem Vf{l:List Rule}{n:Nat}(hl:∀r∈l,(0<=r.from_/\r.from_<n)/\0<=r.to_/\r.to_<n)(hc:¬cycP l n){s:Int}(hs:0<=s)(out:List Term):
 wayL l n s out=(s,out)::(epsI l s).flatMap λi=>wayL l n (nth l i).to_ (out++(nth l i).out):=by
 rw[wayL,Rs hl hc hs,BB,List.map_flatMap];simp only[endP,outP,List.flatMap_nil,A8];congr 1
 have e:∀i,(List.map (λp=>(endP l s p,out++List.flatMap (λi=>(nth l i).out) p)) ((Kz l n (nth l i).to_).map (i::·)))=wayL l n (nth l i).to_ (out++(nth l i).out):=λi=>by
  rw[wayL,Dj];refine AQ λp _=>?_;simp[endP,outP,Aw]
 simp only[e]
theorem zas(l:List Rule)(n:Nat)(s:Int):0<(Kz l n s).length:=by
 obtain⟨r,hr⟩:=Z1 l (n+1) s;rw[Kz,hr];simp
theorem MK{l:List Rule}{n:Nat}(hl:∀r∈l,(0<=r.from_/\r.from_<n)/\0<=r.to_/\r.to_<n)(hc:¬cycP l n){s:Int}(hs:0<=s){p:List Nat}(hp:p∈Kz l n s):p.length<=n+1/\okP l s p:=by
 have:=Xq (n+1) s p hp;exact⟨Ox hl hc hs this,this⟩
theorem ML{l:List Rule}{n:Nat}(hl:∀r∈l,(0<=r.from_/\r.from_<n)/\0<=r.to_/\r.to_<n):∀{s:Int}{p:List Nat},0<=s/\s<n->okP l s p->0<=endP l s p/\endP l s p<n
 |s,[],h,_=>h
 |s,i::p,_,h=>ML (s:=(nth l i).to_) (p:=p) hl (hl _ (B2 (FJ.1 h.1).1)).2 h.2
theorem KZ(l:List Rule):∀(s:Int)(p q:List Nat),endP l s (p++q)=endP l (endP l s p) q
 |s,[],q=>rfl
 |s,i::p,q=>KZ l _ p q
theorem Oy(l:List Rule):∀(s:Int)(p q:List Nat),okP l s (p++q)↔okP l s p/\okP l (endP l s p) q
 |s,[],q=>by simp[okP,endP]
 |s,i::p,q=>by simp[okP,endP,Oy l _ p q,and_assoc]
def cumW(l:List Rule)(n k:Nat):Nat:=((List.range k).map λs:Nat=>(Kz l n s).length).foldl (·+·) 0
theorem La(l:List Rule)(n:Nat):cumW l n 0=0:=rfl
theorem Jy(l:List Rule)(n k:Nat):cumW l n (k+1)=cumW l n k+(Kz l n k).length:=by
 simp[cumW,Cq,A9,FM]
theorem Oz(l:List Rule)(n:Nat){k m:Nat}(h:k<=m):cumW l n k<=cumW l n m:=by
 induction h with
 |refl=>exact Ae _
 |step _ ih=>rw[Jy];omega
section
variable {α:Type}(w:Nat)(e:α->AV)
def gG(v:Nat)(l:List α):Grp:=⟨w,v,l.isEmpty,l.map e⟩
def fF(n:Nat)(V:Nat->Nat)(D:Nat->List α):List Grp:=(List.range n).map λi=>gG w e (V i) (D i)
def fT(o n:Nat)(V:Nat->Nat)(D:Nat->List α):List AV:=(List.range n).map λi=>AV.ref (i+o) (V i) 0 (D i).length
def fD(n:Nat)(D:Nat->List α):List AV:=(List.range n).map λi=>AV.lst w ((D i).map e)
def setD(D:Nat->List α)(i:Nat)(l:List α)(p:Nat):List α:=if p=i then l else D p
variable {w e}{n o i:Nat}{V:Nat->Nat}{D:Nat->List α}
theorem He:(fF w e n V D).length=n:=by simp[fF]
theorem PT:(fT o n V D).length=n:=by simp[fT]
theorem Lb:(fD w e n D).length=n:=by simp[fD]
theorem M8(h:i<n):(fF w e n V D).getD i default=gG w e (V i) (D i):=Dy h
theorem Z2{z:AV}(h:i<n):(fT o n V D).getD i z=.ref (i+o) (V i) 0 (D i).length:=Dy h
theorem Rt{z:AV}(h:i<n):(fD w e n D).getD i z=.lst w ((D i).map e):=Dy h
theorem Lc(h:i<n):(fD w e n D)[i]? = some (.lst w ((D i).map e)):=by simp[fD,h]
theorem Dz(he:∀x,(e x).pure=true)(l:List α):AT (l.map e)=true:=Ca.2 λx hx=>by
 obtain⟨y,_,rfl⟩:=Aq.1 hx;exact he y
theorem E9(he:∀x,(e x).pure=true):AT (fD w e n D)=true:=Ca.2 λx hx=>by
 obtain⟨i,_,rfl⟩:=Aq.1 hx;exact Dz he _
theorem PU{l:List α}(h:i<n):(fT o n V D).set i (.ref (i+o) (V i+1) 0 l.length)=fT o n (setV V i (V i+1)) (setD D i l):=by
 rw[fT,EV h,fT];refine AQ λj _=>?_;by_cases hj:j=i
 ·subst hj;simp[setV,setD]
 ·simp[setV,setD,hj]
theorem PV{l:List α}(hl:l≠[])(h:i<n):(fF w e n V D).set i ⟨w,V i+1,false,l.map e⟩=fF w e n (setV V i (V i+1)) (setD D i l):=by
 rw[fF,EV h,fF];refine AQ λj _=>?_;by_cases hj:j=i
 ·subst hj
  cases l with
  |nil=>exact absurd rfl hl
  |cons a l=>simp[setV,setD,gG]
 ·simp[setV,setD,hj,gG]
theorem Vg(l:List α):(!l.isEmpty||(l.map e).isEmpty)=true:=by cases l<;>rfl
theorem T5{F R:List Grp}(hF:F.length=n)(h:i<n):(F++R).getD i default=F.getD i default:=by
 rw[Av,AE (by omega),<-Av]
theorem zgz{F R:List Grp}(hF:F.length=n)(k:Nat):(F++R).getD (n+k) default=R.getD k default:=by
 rw[Av,AG (by omega),<-Av];congr 1;omega
theorem GC{F R:List Grp}(hF:F.length=n):(F++R).getD n default=R.getD 0 default:=by
 have:=zgz (R:=R) hF 0;simpa using this
theorem LK{G:Grp}:∀{F R:List Grp}{i:Nat},i<F.length->setQ (F++R) i G=some (F.set i G++R)
 |[],_,_,h=>by simp at h
 |a::F,R,0,h=>rfl
 |a::F,R,i+1,h=>by rw[List.cons_append,setQ,LK (by simpa using h)];rfl
theorem Xr{G:Grp}:∀{F:List Grp}{i:Nat},i<F.length->setQ F i G=some (F.set i G)
 |[],_,h=>by simp at h
 |a::F,0,h=>rfl
 |a::F,i+1,h=>by rw[setQ,Xr (by simpa using h)];rfl
theorem Xs{G:Grp}:∀(F R:List Grp){n:Nat}(k:Nat),F.length=n->setQ (F++R) (n+k) G=(setQ R k G).map (F++·)
 |[],R,n,k,h=>by
  obtain rfl:n=0:=by simpa using h.symm
  rw[Bn,List.nil_append];cases setQ R k G<;>rfl
 |a::F,R,n,k,h=>by
  obtain⟨m,rfl⟩:∃m,n=m+1:=⟨n-1,by simp at h;omega⟩;rw[show m+1+k=m+k+1 by omega,List.cons_append,setQ,Xs F R k (by simpa using h)];cases setQ R k G<;>rfl
theorem I2{G:Grp}(F R:List Grp){n:Nat}(h:F.length=n):setQ (F++R) n G=(setQ R 0 G).map (F++·):=by
 have:=Xs (G:=G) F R 0 h;simpa using this
theorem Ld{ks:List Nat}{F R:List Grp}{G:Grp}{p i:Nat}(hi:i<F.length)(h:p+i∈ks):Dd p ks (F++R) (F.set i G++R):=by
 rw[<-Fq _ _ hi];exact IK h
theorem zla:fF w e n (λ_=>1) (λ_=>[])=(List.replicate n w).map IX:=by
 rw[DJ];refine C7 (by simp[fF]) λi h1 h2=>?_;simp only[fF,Fg,EB,List.getElem_replicate];rfl
theorem zh0{l:List Grp}{o n:Nat}(hw:0<w)(h:∀i,i<n->l.getD (i+o) default=IX w/\i+o<l.length):leSL l (List.replicate n .nilS) (fT o n (λ_=>1) λ_=>([]:List α)):=by
 have key:∀idx:List Nat,(∀i∈idx,i<n)->leSL l (List.replicate idx.length .nilS) (idx.map λi=>AV.ref (i+o) 1 0 0):=λidx=>by
  induction idx with
  |nil=>exact λ_=>rfl
  |cons i idx ih =>
   intro hi;obtain⟨h1,h2⟩:=h i (hi i (by simp));refine⟨?_,ih λj hj=>hi j (by simp[hj])⟩;show 0=0/\0=0/\(l.getD (i+o) default).ver=1/\0<(l.getD (i+o) default).w/\(l.getD (i+o) default).xs=[]/\(l.getD (i+o) default).exact=true/\i+o<l.length;rw[h1];exact⟨rfl,rfl,rfl,hw,rfl,rfl,h2⟩
 have:=key (List.range n) λi hi=>by simpa using hi
 rwa [CU] at this
theorem PW{m o:Nat}(h:n+o<=m):ltL m (fT o n V D):=by
 have key:∀(l:List Nat),(∀i∈l,i<n)->ltL m (l.map λi=>AV.ref (i+o) (V i) 0 (D i).length):=λl=>by
  induction l with
  |nil=>exact λ_=>trivial
  |cons i l ih =>
   intro h';exact⟨by have:=h' i (by simp);show i+o<_;omega,ih λj hj=>h' j (by simp[hj])⟩
 exact key _ λi hi=>by simpa using hi
theorem PX{m:Nat}(he:∀x,(e x).pure=true):∀G∈fF w e n V D,ltL m G.xs:=λG hG=>by
 obtain⟨i,_,rfl⟩:=Aq.1 hG;exact CS _ _ (Dz he _)
theorem PY(l0:List Grp){G':Grp}:∀{l:List Grp}{t:Nat},t<l.length->z1a l0 (l.getD t default) G'->Il l0 l (l.set t G')
 |[],_,h,_=>by simp at h
 |a::l,0,_,h=>⟨h,Kx l0 l⟩
 |a::l,t+1,hl,h=>⟨⟨rfl,rfl,id,Ck _ _⟩,PY l0 (by simpa using hl) (by simpa using h)⟩
theorem LL{m b t v:Nat}{env:Env}{l:List Grp}{ex:Bool}(hw:0<w)(ht:t<l.length)(hg:l.getD t default=⟨1,v,ex,List.replicate n .nilS⟩):
 Ent m b env (Abs.hl l) env (Abs.hl (l.set t ⟨1,v,ex,fT l.length n (λ_=>1) λ_=>([]:List α)⟩++fF w e n (λ_=>1) λ_=>[])):=by
 refine (WT (List.replicate n w) (λx hx=>by have:=(List.mem_replicate.1 hx).2;omega)).trans (z3f ?_ λi _=>HN _ _);rw[zla,<-Fq _ _ ht];refine PY _ (by simp;omega) ?_;rw[Av,AE ht,<-Av,hg];refine⟨rfl,rfl,id,zh0 hw λi hi=>⟨?_,by simp;omega⟩⟩;rw[Av,AG (by omega),DJ];simp[hi]
def fKs(t o n:Nat):List Nat:=t::(List.range n).map (·+o)
theorem Ru{t i:Nat}(h:i<n):i+o∈fKs t o n:=Ag.2 (.inr (Aq.2 ⟨i,Bo.2 h,rfl⟩))
theorem GT{t g:Nat}(h:g≠t)(h2:g<o\/o+n<=g):g∉fKs t o n:=λhh=>by
 rcases Ag.1 hh with hh|hh
 ·exact h hh
 ·obtain⟨i,hi,rfl⟩:=Aq.1 hh
  have:=Bo.1 hi;omega
theorem O0{H:A7}{t v:Nat}(hw:0<w)(he:∀x,(e x).pure=true)(h1:H.at_ t=⟨1,v,true,fT o n V D⟩)(h2:∀i,i<n->H.at_ (i+o)=gG w e (V i) (D i)):
 Ea 2 (H.only (fKs t o n)) (.ref t v 0 n)/\frzV 2 (H.only (fKs t o n)) (.ref t v 0 n)=.lst 1 (fD w e n D):=by
 have hat1:(H.only (fKs t o n)).at_ t=⟨1,v,true,fT o n V D⟩:=by
  show (if t∈fKs t o n then H.at_ t else (H.at_ t).dead)=_;rw[Ai (by simp[fKs]),h1]
 have hat:∀i,i<n->(H.only (fKs t o n)).at_ (i+o)=gG w e (V i) (D i):=λi hi=>by
  show (if i+o∈fKs t o n then H.at_ (i+o) else (H.at_ (i+o)).dead)=_;rw[Ai (Ru hi),h2 i hi]
 have htl:(((fT o n V D).drop 0).take n)=fT o n V D:=by
  rw[CM];exact Ar (by simp[fT])
 have hz:∀x,frzV 0 (H.only (fKs t o n)) x=x:=λx=>rfl;constructor
 ·refine⟨by rw[hat1],by rw[hat1];exact Nat.one_pos,by rw[hat1];simp[fT],λy hy=>?_⟩
  rw[hat1,htl] at hy;obtain⟨i,hi,rfl⟩:=Aq.1 hy;have hi':i<n:=by simpa using hi
  refine⟨by rw[hat i hi'];rfl,by rw[hat i hi'];exact hw,by rw[hat i hi'];simp[gG],λz hz=>?_⟩;rw[hat i hi'] at hz;obtain⟨u,_,rfl⟩:=Aq.1 (BX (BP hz));exact he u
 ·show AV.lst _ _=_
  rw[hat1,htl,fT,Dj];congr 1;refine AQ λi hi=>?_;have hi':i<n:=by simpa using hi
  show AV.lst _ _=_;rw[hat i hi']
  have e1:(((gG w e (V i) (D i)).xs.drop 0).take (D i).length).map (frzV 0 (H.only (fKs t o n)))=(D i).map e:=by
   rw[CM,Ar (by simp[gG])];refine (AQ λx hx=>?_).trans (List.map_id _);exact hz x
  rw[e1];rfl
theorem O1{F:List Grp}{t o:Nat}:∀{i:Nat},(∀j,j<F.length->i+j∈fKs t o n)->Fv i (fKs t o n) F=F.map Grp.dead:=by
 induction F with
 |nil=>intro i _;rfl
 |cons G F ih =>
  intro i h
  rw[Fv,Ai (by have:=h 0 (by simp);simpa using this),BB,ih λj hj=>by
   have:=h (j+1) (by simpa using hj)
   rwa [show i+1+j=i+(j+1) by omega]]
theorem T6(ks:List Nat):∀(i:Nat)(l r:List Grp),Fv i ks (l++r)=Fv i ks l++Fv (i+l.length) ks r
 |i,[],r=>by simp[Fv]
 |i,G::l,r=>by
  rw[List.cons_append,Fv,Fv,T6 ks (i+1) l r,List.cons_append,List.length_cons,show i+1+l.length=i+(l.length+1) by omega]
end
def Xt(m:Nat)(env:Env):List (Nat × AV)->Prop
 |[]=>True
 |(t,y)::r=>env t=y/\ltV m y/\Xt m env r
theorem PZ{m:Nat}{env:Env}:∀{L:List (Nat × AV)},Xt m env L->∀p∈L,env p.1=p.2
 |[],_,p,hp=>by cases hp
 |(t,y)::r,h,p,hp=>by
  rcases Ag.1 hp with rfl|hp
  ·exact h.1
  ·exact PZ h.2.2 p hp
theorem T7{m:Nat}{env:Env}:∀{L:List (Nat × AV)},Xt m env L->∀i,ltV m (E4 L i)
 |[],_,i=>trivial
 |(t,y)::r,h,i=>by
  show ltV m (if i=t then y else E4 r i);split
  ·exact h.2.1
  ·exact T7 h.2.2 i
theorem Eu{n b:Nat}{env:Env}{l l0 gar:List Grp}(L:List (Nat × AV))(hl':l=l0++gar)(hb:b<=l0.length)(hcl:∀G∈l0,ltL l0.length G.xs)(hL:Xt l0.length env L):Ent n b env (Abs.hl l) (E4 L) (Abs.hl l0):=by
 subst hl';exact (JK L (PZ hL)).trans (NP hb hcl λi _=>T7 hL i)
theorem I3{P:Program}{f:Nat}{xs:List AV}{l:List Grp}{K:AV->A7->Prop}(h:BZ P f xs (Abs.hl l) (λy H'=>∃y' H'',Ent 1 l.length (λ_=>y) H' (λ_=>y') H''/\K y' H'')):BZ P f xs (Abs.hl l) K :=
 ⟨h.1,λS cargs hS hx=>(h.2 S cargs hS hx).mono λe w' hh=>by
  obtain⟨v,S1,y,H',he,hw,ev,hS1,hv,y',H'',h1,h2⟩:=hh;have hn:S.n=l.length:=hS.n;obtain⟨S2,q1,q2,q3,q4⟩:=h1 S1 (λ_=>v) (by rw[<-hn];exact ev.n) hS1 (λi _=>hv);have hb:=(ev.down (b:=l.length) (by omega)).trans q2
  exact⟨v,S2,y',_,he,q1.trans hw,⟨hb.base,hb.os,hb.tape,hb.output,hb.size,hb.kept,hb.im,hb.keep,hb.fresh,by rw[hn];exact hb.n,λg hg=>hb.cur g (by omega),λg hg=>hb.same g (by omega)⟩,q3,q4 0 Nat.one_pos,h2⟩⟩
theorem Rv{b:Nat}{y:AV}{l l0 gar:List Grp}(hl':l=l0++gar)(hb:b<=l0.length)(hcl:∀G∈l0,ltL l0.length G.xs)(hy:ltV l0.length y):Ent 1 b (λ_=>y) (Abs.hl l) (λ_=>y) (Abs.hl l0):=by
 subst hl';exact NP hb hcl λi _=>hy
theorem T8{P:Program}{f:Nat}{xs:List AV}{l l0 extra:List Grp}{K0 K:AV->A7->Prop}(hl':l=l0++extra)(h:BZ P f xs (Abs.hl l0) K0)(hlt:ltL l0.length xs)(hltG:∀G∈l0,ltL l0.length G.xs)
 (hK:∀y H',K0 y H'->∃l',H'=Abs.hl l'/\l'.length=l0.length/\ltV l0.length y/\(∀G∈l',ltL l0.length G.xs)/\@nx y (Abs.hl (l'++extra)) ⟨K⟩):@QB P f xs (Abs.hl l) ⟨K⟩:=by
 subst hl';exact z3m h hlt hltG hK
inductive Reach(E:List (Int × Int))(F:List Int):Int->Prop where
 |base {s:Int}:s∈F->Reach E F s
 |step {s t:Int}:Reach E F s->(s,t)∈E->Reach E F t
noncomputable def Xu (E:List (Int × Int)) (F:List Int) (i:Nat):Bool:=@decide (Reach E F i) (Classical.propDecidable _)
structure InR(n:Nat)(F:List Int)(E:List (Int × Int)):Prop where
 f:∀s∈F,0<=s/\s<n
 e:∀e∈E,(0<=e.1/\e.1<n)/\0<=e.2/\e.2<n
theorem Reach.rng{n:Nat}{F:List Int}{E:List (Int × Int)}(h:InR n F E){s:Int}(hs:Reach E F s):0<=s/\s<n:=by
 cases hs with
 |base h1=>exact h.f _ h1
 |step _ h1=>exact (h.e _ h1).2
structure SpInv(n:Nat)(F:List Int)(E:List (Int × Int))(on:Nat->Bool)(todo:List Int):Prop where
 r1:∀s∈todo,Reach E F s
 r2:∀i:Nat,on i=true->Reach E F i
 base:∀s∈F,on s.toNat=true\/s∈todo
 step:∀i:Nat,on i=true->∀t,((i:Int),t)∈E->on t.toNat=true\/t∈todo
def setB(on:Nat->Bool)(s:Nat)(j:Nat):Bool:=if j=s then true else on j
theorem z4r{P:Program}{f m np:Nat}{xs:List AV}{y:AV}{res:List ARes}{B:AC}(hf:Bv P f xs.length=some ⟨m,np,res,B⟩)(h:T P m 0 B (entry xs) (Abs.hl []) (Ret P res λz H=>Ea 4 H z/\ansW (frzV 4 H z) y)):PC P f xs y:=by
 refine zi6 hf 4 ?_;rw[Wi];exact T.mono h λx env H hh=>We (λz H hh=>⟨hh.1,zc2 hh.2⟩) hh
def spB(n:Nat)(on:Nat->Bool):List AV:=(List.range n).map λi=>AV.bool (on i)
theorem zh1{n s:Nat}{on:Nat->Bool}(h:s<n):(spB n on).set s (.bool true)=spB n (setB on s):=by
 rw[spB,EV h,spB];refine AQ λp _=>?_;by_cases e:p=s
 ·subst e;simp[setB]
 ·simp[e,setB]
noncomputable def zct (n:Nat) (F:List Int) (E:List (Int × Int)):List Bool:=(List.range n).map (Xu E F)
abbrev Jz:AV:=.agg [.int .i64 0,.int .i64 0,.int .i64 0,.int .i64 0,.int .i64 0,.nilS]
theorem Z3(n:Nat)(h0:0<n)(hn:n<=1000000000):BZ Tryz.prog 132 [.nilS,.int .i64 n] (Abs.hl []) λy H'=>y=.ref 0 1 0 0/\H'=Abs.hl [⟨6,1,false,List.replicate n Jz⟩]:=by
 refine HR (b:=0) Fx rfl ?_;unfold DV;have e0:((n:Int)-0).toNat=n:=by omega
 (with_reducible repeat'(first|(simp(disch:=omega)only[push_cast,↓zz,seval,e0])|refine Aa ?_ ?_|(first|refine Ac ?_ ?_|refine Ab ?_ ?_)<;>intro hc<;>(try simp only[push_cast] at hc)|omega|intro _))
 all_goals trace_state
theorem Vh:PC Tryz.prog 132 [.nilS,.int .i64 0] .nilS:=by
 refine BV Fx ?_;unfold DV;(with_reducible repeat'(first|(simp(disch:=omega)only[push_cast,↓zz,seval])|refine Aa ?_ ?_|(first|refine Ac ?_ ?_|refine Ab ?_ ?_)<;>intro hc<;>(try simp only[push_cast] at hc)|omega|intro _))
 all_goals trace_state
theorem I4(l:List Term):AT (l.map Dv)=true:=B5 l
def Hf(ws:List (List Term))(k:Nat):List AV:=(ws.take k).flatten.map Dv++List.replicate (ws.flatten.length-(ws.take k).flatten.length) Jz
theorem Qa{α:Type}(ws:List (List α)){k:Nat}(h:k<ws.length):(ws.take (k+1)).flatten=(ws.take k).flatten++ws[k]:=by
 rw[List.take_succ_eq_append_getElem h,List.flatten_append];simp only[List.flatten_cons,List.flatten_nil,A8]
theorem Rw{α:Type}(ws:List (List α))(k:Nat):(ws.take k).flatten.length<=ws.flatten.length:=by
 have:ws.flatten=(ws.take k).flatten++(ws.drop k).flatten:=by rw[<-List.flatten_append,Ch]
 rw[this];simp
theorem T9(ws:List (List Term))(hk:ws.length<=1000000000)(h0:0<ws.flatten.length)(hl:ws.flatten.length<=1000000000):PC Tryz.prog 96 [.lst 1 (ws.map C9)] (C9 ws.flatten):=by
 have pW:AT (ws.map C9)=true:=Ca.2 λx hx=>by
  obtain⟨l,_,rfl⟩:=Aq.1 hx;exact I4 l
 have aW:∀k,k<ws.length->(ws.map C9).getD k .any=C9 (nth ws k):=λk hk=>by simp[nth,List.getD,hk]
 have hG:=Z3 ws.flatten.length h0 hl;refine BV ER ?_;unfold D7;(with_reducible repeat'(first|(simp(disch:=omega)only[push_cast,↓zz,seval,pW])|refine Aa ?_ ?_|(first|refine Ac ?_ ?_|refine Ab ?_ ?_)<;>intro hc<;>(try simp only[push_cast] at hc)|omega|intro _))
 refine B4 (BK (λ(k:Nat)=>k<=ws.length) (λk=>ws.length-k)
  (λk=>[(0,.lst 1 (ws.map C9)),(3,.int .i64 (ws.take k).flatten.length),(9,.lst 1 (ws.map C9)),(10,.int .i64 ws.length),(11,.int .i64 k)]) (λ_=>[]) (λ_ _=>[]) 0 (by simp) ?_ ?_)
 ·(with_reducible repeat'(first|(simp(disch:=omega)only[push_cast,↓zz,seval,pW,List.flatten_nil,List.length_nil])|refine Aa ?_ ?_|(first|refine Ac ?_ ?_|refine Ab ?_ ?_)<;>intro hc<;>(try simp only[push_cast] at hc)|omega|intro _))
 intro k hkw;rcases An k ws.length with hkl|hkl
 ·have hn:nth ws k=ws[k]:=by simp[nth,hkl]
  have hf:=Qa ws hkl;rw[<-hn] at hf;have h1:=Rw ws (k+1);have h2:(ws.take (k+1)).flatten.length=(ws.take k).flatten.length+(nth ws k).length:=by rw[hf];simp
  have aK:=aW k hkl;generalize (ws.take k).flatten.length=m at *;refine W_T ?_;(with_reducible repeat'(first|(simp(disch:=omega)only[push_cast,↓zz,seval,pW,aK])|refine Aa ?_ ?_|(first|refine Ac ?_ ?_|refine Ab ?_ ?_)<;>intro hc<;>(try simp only[push_cast] at hc)|omega|intro _))
  all_goals
   refine⟨k+1,?_⟩;(with_reducible repeat'(first|(simp(disch:=omega)only[push_cast,↓zz,seval,pW,h2])|refine Aa ?_ ?_|(first|refine Ac ?_ ?_|refine Ab ?_ ?_)<;>intro hc<;>(try simp only[push_cast] at hc)|omega|intro _))
 ·obtain rfl:k=ws.length:=by omega
  rw[Ar (Ae _)];have hzz:(ws.flatten.length:Int)≠0:=by omega
  refine W_T ?_;(with_reducible repeat'(first|(simp(disch:=omega)only[push_cast,↓zz,seval,pW])|refine Aa ?_ ?_|(first|refine Ac ?_ ?_|refine Ab ?_ ?_)<;>intro hc<;>(try simp only[push_cast] at hc)|omega|intro _))
  (refine NF [] (hG) (by decide) (by simp) (by (simp(disch:=omega)only[push_cast,↓zz,seval])) (by (simp(disch:=omega)only[push_cast,↓zz,seval])) (by (simp(disch:=omega)only[push_cast,↓zz,seval])) (by (simp(disch:=omega)only[push_cast,↓zz,seval,Ag,Am,A5,C8,EM,Ez])) ?_)
  rintro y H' ⟨rfl,rfl⟩;refine⟨_,rfl,by simp,?_⟩;(with_reducible repeat'(first|(simp(disch:=omega)only[push_cast,↓zz,seval,pW])|refine Aa ?_ ?_|(first|refine Ac ?_ ?_|refine Ab ?_ ?_)<;>intro hc<;>(try simp only[push_cast] at hc)|omega|intro _))
  refine B4 (BK (λ(k:Nat)=>k<=ws.length) (λk=>ws.length-k)
   (λk=>[(6,.ref 0 1 0 (ws.take k).flatten.length),(25,.lst 1 (ws.map C9)),(26,.int .i64 ws.length),(27,.int .i64 k)]) (λk=>[⟨6,1,false,Hf ws k⟩]) (λenv _=>[C0 6 (env 6)]) 0 (by simp) ?_ ?_)
  ·have r0:Hf ws 0=List.replicate ws.flatten.length Jz:=by simp[Hf]
   have pZ:∀n,AT (List.replicate n Jz)=true:=λn=>Ca.2 λx hx=>by rw[C3 hx];rfl
   (with_reducible repeat'(first|(simp(disch:=omega)only[push_cast,↓zz,seval,pW,pZ,r0,List.flatten_nil,List.length_nil])|refine Aa ?_ ?_|(first|refine Ac ?_ ?_|refine Ab ?_ ?_)<;>intro hc<;>(try simp only[push_cast] at hc)|omega|intro _))
  intro k hkw
  have pL:∀k,AT (Hf ws k)=true:=λk=>by
   rw[Hf,Jf,I4,Ax];exact Ca.2 λx hx=>by rw[C3 hx];rfl
  have h1:=Rw ws k;have lR:(Hf ws k).length=ws.flatten.length:=by simp only[Hf,Ak,AM,List.length_replicate];omega
  rcases An k ws.length with hkl|hkl
  ·have hn:nth ws k=ws[k]:=by simp[nth,hkl]
   have hf:=Qa ws hkl;rw[<-hn] at hf;have h1':=Rw ws (k+1);have h2:(ws.take (k+1)).flatten.length=(ws.take k).flatten.length+(nth ws k).length:=by rw[hf];simp
   have aK:=aW k hkl;have pw:=I4 (nth ws k)
   have hR:(Hf ws k).take (ws.take k).flatten.length++(nth ws k).map Dv++(Hf ws k).drop ((ws.take k).flatten.length+(nth ws k).length)=Hf ws (k+1):=by
    have e1:(Hf ws k).take (ws.take k).flatten.length=(ws.take k).flatten.map Dv:=by
     rw[Hf];exact DL (by rw[AM])
    have e2:(Hf ws k).drop ((ws.take k).flatten.length+(nth ws k).length)=List.replicate (ws.flatten.length-(ws.take (k+1)).flatten.length) Jz:=by
     rw[<-FE,Hf,List.drop_left' (by rw[AM]),List.drop_replicate,h2];congr 1;omega
    rw[e1,e2,Hf,hf,A9,Aw]
   rw[Aw] at hR
   have hQ:(Hf ws k).length<=(ws.take k).flatten.length->Hf ws k++(nth ws k).map Dv=Hf ws (k+1):=λh=>by
    have h0:nth ws k=[]:=Az (by omega);rw[Hf,Hf,hf,h0,A8,BF,A8]
   have pT:AT ((Hf ws k).take (ws.take k).flatten.length)=true:=Ca.2 λx hx=>Ca.1 (pL k) x (BP hx);have pD:AT ((Hf ws k).drop ((ws.take k).flatten.length+(nth ws k).length))=true:=Ca.2 λx hx=>Ca.1 (pL k) x (BX hx);have hpk:=pL k;have hpk1:=pL (k+1);generalize (ws.take k).flatten.length=m at *;generalize hRk:Hf ws k=R at *;generalize hRk1:Hf ws (k+1)=R1 at *;refine W_T ?_;(with_reducible repeat'(first|(simp(disch:=omega)only[push_cast,↓zz,seval,pW,aK,pw,hpk])|refine Aa ?_ ?_|(first|refine Ac ?_ ?_|refine Ab ?_ ?_)<;>intro hc<;>(try simp only[push_cast] at hc)|omega|intro _))
   all_goals
    refine⟨k+1,?_⟩;(with_reducible repeat'(first|(simp(disch:=omega)only[push_cast,↓zz,seval,pW,h2,hRk1,hpk1,pw,hpk,pT,pD,hR,hQ])|refine Aa ?_ ?_|(first|refine Ac ?_ ?_|refine Ab ?_ ?_)<;>intro hc<;>(try simp only[push_cast] at hc)|omega|intro _))
  ·obtain rfl:k=ws.length:=by omega
   have rE:Hf ws ws.length=ws.flatten.map Dv:=by simp[Hf]
   rw[rE,AH] at *;refine W_T ?_;(with_reducible repeat'(first|(simp(disch:=omega)only[push_cast,↓zz,seval,pW,I4])|refine Aa ?_ ?_|(first|refine Ac ?_ ?_|refine Ab ?_ ?_)<;>intro hc<;>(try simp only[push_cast] at hc)|omega|intro _))
   all_goals trace_state
theorem Rx(ws:List (List Term))(hk:ws.length<=1000000000)(h0:ws.flatten.length=0):PC Tryz.prog 96 [.lst 1 (ws.map C9)] (C9 ws.flatten):=by
 have pW:AT (ws.map C9)=true:=Ca.2 λx hx=>by
  obtain⟨l,_,rfl⟩:=Aq.1 hx;exact I4 l
 have hE:ws.flatten=[]:=Az h0
 have aW:∀k,k<ws.length->(ws.map C9).getD k .any=.lst 6 []:=λk hk=>by
  have:ws[k]=[]:=by
   have:=List.flatten_eq_nil_iff.1 hE _ (Cg hk);exact this
  simp[List.getD,hk,this,C9]
 have hG:=Vh;rw[hE];refine BV ER ?_;unfold D7;(with_reducible repeat'(first|(simp(disch:=omega)only[push_cast,↓zz,seval,pW])|refine Aa ?_ ?_|(first|refine Ac ?_ ?_|refine Ab ?_ ?_)<;>intro hc<;>(try simp only[push_cast] at hc)|omega|intro _))
 refine B4 (BK (λ(k:Nat)=>k<=ws.length) (λk=>ws.length-k)
  (λk=>[(0,.lst 1 (ws.map C9)),(3,.int .i64 0),(9,.lst 1 (ws.map C9)),(10,.int .i64 ws.length),(11,.int .i64 k)]) (λ_=>[]) (λ_ _=>[]) 0 (by simp) ?_ ?_)
 ·(with_reducible repeat'(first|(simp(disch:=omega)only[push_cast,↓zz,seval,pW])|refine Aa ?_ ?_|(first|refine Ac ?_ ?_|refine Ab ?_ ?_)<;>intro hc<;>(try simp only[push_cast] at hc)|omega|intro _))
 intro k hkw;rcases An k ws.length with hkl|hkl
 ·have aK:=aW k hkl
  refine W_T ?_;(with_reducible repeat'(first|(simp(disch:=omega)only[push_cast,↓zz,seval,pW,aK])|refine Aa ?_ ?_|(first|refine Ac ?_ ?_|refine Ab ?_ ?_)<;>intro hc<;>(try simp only[push_cast] at hc)|omega|intro _))
  all_goals
   refine⟨k+1,?_⟩;(with_reducible repeat'(first|(simp(disch:=omega)only[push_cast,↓zz,seval,pW])|refine Aa ?_ ?_|(first|refine Ac ?_ ?_|refine Ab ?_ ?_)<;>intro hc<;>(try simp only[push_cast] at hc)|omega|intro _))
 ·obtain rfl:k=ws.length:=by omega
  refine W_T ?_;(with_reducible repeat'(first|(simp(disch:=omega)only[push_cast,↓zz,seval,pW])|refine Aa ?_ ?_|(first|refine Ac ?_ ?_|refine Ab ?_ ?_)<;>intro hc<;>(try simp only[push_cast] at hc)|refine eK hG ?_|refine eQ hG ?_|refine eG hG ?_|((first|refine cK hG ?_|refine cQ hG ?_|refine cG hG ?_);(simp(disch:=omega)only[push_cast,↓zz,seval,pW]);(fail_if_success change False))|omega|intro _))
  refine B4 (BK (λ(k:Nat)=>k<=ws.length) (λk=>ws.length-k)
   (λk=>[(6,.ref 0 1 0 0),(25,.lst 1 (ws.map C9)),(26,.int .i64 ws.length),(27,.int .i64 k)]) (λk=>[⟨6,1,false,[]⟩]) (λenv _=>[C0 6 (env 6)]) 0 (by simp) ?_ ?_)
  ·(with_reducible repeat'(first|(simp(disch:=omega)only[push_cast,↓zz,seval,pW])|refine Aa ?_ ?_|(first|refine Ac ?_ ?_|refine Ab ?_ ?_)<;>intro hc<;>(try simp only[push_cast] at hc)|omega|intro _))
  intro k hkw;rcases An k ws.length with hkl|hkl
  ·have aK:=aW k hkl
   refine W_T ?_;(with_reducible repeat'(first|(simp(disch:=omega)only[push_cast,↓zz,seval,pW,aK])|refine Aa ?_ ?_|(first|refine Ac ?_ ?_|refine Ab ?_ ?_)<;>intro hc<;>(try simp only[push_cast] at hc)|omega|intro _))
   all_goals
    refine⟨k+1,?_⟩;(with_reducible repeat'(first|(simp(disch:=omega)only[push_cast,↓zz,seval,pW])|refine Aa ?_ ?_|(first|refine Ac ?_ ?_|refine Ab ?_ ?_)<;>intro hc<;>(try simp only[push_cast] at hc)|omega|intro _))
  ·obtain rfl:k=ws.length:=by omega
   refine W_T ?_;(with_reducible repeat'(first|(simp(disch:=omega)only[push_cast,↓zz,seval,pW])|refine Aa ?_ ?_|(first|refine Ac ?_ ?_|refine Ab ?_ ?_)<;>intro hc<;>(try simp only[push_cast] at hc)|omega|intro _))
   all_goals trace_state
theorem Qb(a b:List Term)(hl:a.length+b.length<=1000000000):PC Tryz.prog 96 [.lst 1 [C9 a,C9 b]] (C9 (a++b)):=by
 have e:[a,b].flatten=a++b:=by simp
 have el:[a,b].flatten.length=a.length+b.length:=by rw[e,Ak]
 rw[<-e];rcases Nat.eq_zero_or_pos [a,b].flatten.length with h|h
 ·exact Rx [a,b] (by simp) h
 ·exact T9 [a,b] (by simp) h (by omega)
set_option maxRecDepth 100000
abbrev e1(i:Nat):AV:=.int .i64 i
def wayV(w:Int × List Term):AV:=.agg [.int .i64 w.1,C9 w.2]
theorem HC(w:Int × List Term):(wayV w).pure=true:=by simp[wayV,AV.pure,AT,B5]
def epsV(l:List Rule)(n:Nat):AV:=.lst 1 (fD 1 e1 n λi=>epsI l i)
def fnL(d:Desc)(n left:Nat)(V:Nat->Nat)(D:Nat->List (Int × List Term)):List Grp :=
 ⟨9,1,true,[.agg [.int .i64 d.in_,.int .i64 d.out,.int .i64 d.states,.int .i64 d.start,DF d.rules,Fb d.finals,epsV d.rules n,.ref 1 1 0 n,.int .i64 left]]⟩::⟨1,1,true,fT 2 n V D⟩::fF 2 wayV n V D
theorem Mu(d:Desc)(n left:Nat)(V:Nat->Nat)(D:Nat->List (Int × List Term)):fnL d n left V D=⟨9,1,true,[.agg [.int .i64 d.in_,.int .i64 d.out,.int .i64 d.states,.int .i64 d.start,DF d.rules,Fb d.finals,epsV d.rules n,.ref 1 1 0 n,.int .i64 left]]⟩::⟨1,1,true,fT 2 n V D⟩::fF 2 wayV n V D:=rfl
theorem FY(d:Desc)(n left:Nat)(V:Nat->Nat)(D:Nat->List (Int × List Term)):(fnL d n left V D).length=n+2:=by simp[fnL,He]
theorem Le(l:List Rule)(n:Nat):AT (fD 1 e1 n λi=>epsI l i)=true:=E9 λ_=>rfl
theorem Gg(d:Desc)(n left:Nat)(V:Nat->Nat)(D:Nat->List (Int × List Term)):∀G∈fnL d n left V D,ltL (fnL d n left V D).length G.xs:=λG hG=>by
 rw[FY];simp only[fnL,Ag] at hG;rcases hG with rfl|rfl|hG
 ·have h1:ltV (n+2) (DF d.rules):=Ce _ _ (B8 _)
  have h2:ltV (n+2) (Fb d.finals):=Ce _ _ (B6 _);have h3:ltV (n+2) (epsV d.rules n):=Ce _ _ (Le _ _);exact⟨⟨trivial,trivial,trivial,trivial,h1,h2,h3,(show 1<n+2 by omega),trivial,trivial⟩,trivial⟩
 ·exact PW (by omega)
 ·exact PX HC G hG
theorem zh2(l:List Rule)(n:Nat)(s:Int)(out:List Term):0<(wayL l n s out).length:=by
 rw[wayL,AM];exact zas l n s
def wayK(l:List Rule)(n:Nat)(s:Int)(out:List Term)(k:Nat):List (Int × List Term):=((epsI l s).take k).flatMap λi=>wayL l n (nth l i).to_ (out++(nth l i).out)
theorem z4s{l:List Rule}{n:Nat}{s:Int}{out:List Term}{k:Nat}(h:k<(epsI l s).length):wayK l n s out (k+1)=wayK l n s out k++wayL l n (nth l (nth (epsI l s) k)).to_ (out++(nth l (nth (epsI l s) k)).out):=by
 rw[wayK,take_at h,BU];simp[wayK]
theorem zh3{l:List Rule}{n:Nat}{s:Int}{out:List Term}{k:Nat}(h:k<=(epsI l s).length):∃r,wayK l n s out (epsI l s).length=wayK l n s out k++r:=by
 have:epsI l s=(epsI l s).take k++(epsI l s).drop k:=(Ch k _).symm;refine⟨((epsI l s).drop k).flatMap λi=>wayL l n (nth l i).to_ (out++(nth l i).out),?_⟩;rw[wayK,AH,wayK,<-BU,Ch]
theorem zat{l:List Rule}{n:Nat}(hl:∀r∈l,(0<=r.from_/\r.from_<n)/\0<=r.to_/\r.to_<n)(hc:¬cycP l n){s:Int}(hs:0<=s)(out:List Term):wayL l n s out=(s,out)::wayK l n s out (epsI l s).length:=by
 rw[Vf hl hc hs,wayK,AH]
theorem z4t{α:Type}(D:Nat->List α)(i:Nat)(l:List α)(h:l=D i):setD D i l=D:=by
 funext p;simp only[setD];split
 ·rename_i e;rw[h,e]
 ·rfl
theorem TA{α:Type}(D:Nat->List α)(i:Nat)(l m:List α):setD (setD D i l) i m=setD D i m:=by
 funext p;simp only[setD];split<;>rfl
theorem Vi{α:Type}(D:Nat->List α)(i:Nat)(l:List α):setD D i l i=l:=by simp[setD]
theorem zau{α:Type}{a:α}{L M r W:List α}{left l':Nat}(hW:W=a::(L++M++r))(hl:left=1+L.length+l')(hM:l'<M.length):W.take left=a::(L++M.take l')/\left<W.length:=by
 subst hW;refine⟨?_,by simp;omega⟩;rw[hl,show 1+L.length+l'=L.length+l'+1 by omega,List.take_succ_cons,Aw,List.take_append,Ar (by omega),Nat.add_sub_cancel_left,C2 (by omega)]
theorem zav(d:Desc){n:Nat}(hn:n<=1024)(hrl:d.rules.length<=4096)(hl:∀r∈d.rules,(0<=r.from_/\r.from_<n)/\0<=r.to_/\r.to_<n)(hc:¬cycP d.rules n)(ho:∀r∈d.rules,r.out.length<=64):
 ∀(left:Nat)(root s:Nat)(out:List Term)(V:Nat->Nat)(D:Nat->List (Int × List Term)),left<=4096->root<n->s<n->out.length+64 * left<=64 * 4096->(D root).length+left<=4096 ->
 BZ Tryz.prog 90 [.ptr 0 1 0 0,.int .i64 root,.int .i64 s,C9 out] (Abs.hl (fnL d n left V D)) λy H'=>∃V',y=.bool (decide ((wayL d.rules n s out).length<=left)) /\
  H'=Abs.hl (fnL d n (left-(wayL d.rules n s out).length) V' (setD D root (D root++(wayL d.rules n s out).take left))):=by
 intro left
 induction left using Nat.strongRecOn with
 |ind left ih =>
 intro root s out V D hlb hroot hs hout hDl;refine I3 (LQ Jj (W_T ?_));unfold Hb;have hwp:=zh2 d.rules n s out;have pR:=B8 d.rules;have pFi:=B6 d.finals;have pO:=B5 out;have pE:=Le d.rules n;have hFl:(fF 2 wayV n V D).length=n:=He;rcases Nat.eq_zero_or_pos left with rfl|hpos
 ·rw[Mu d n 0 V D]
  generalize hF:fF 2 wayV n V D=F at *;(with_reducible repeat'(first|(simp(disch:=omega)only[push_cast,↓zz,seval,pR,pFi,pO,pE,hFl])|refine Aa ?_ ?_|(first|refine Ac ?_ ?_|refine Ab ?_ ?_)<;>intro hc<;>(try simp only[push_cast] at hc)|omega|intro _))
  all_goals
   refine⟨_,_,Ent.refl,V,by rw[By (by omega)],?_⟩;rw[z4t _ _ _ (by simp),Nat.zero_sub,Mu,hF];rfl
 ·have hTl:(fT 2 n V D).length=n:=PT
  have hLl:(fD 1 e1 n λi=>epsI d.rules i).length=n:=Lb;have aL:(fD 1 e1 n λi=>epsI d.rules i).getD s .any=.lst 1 ((epsI d.rules s).map e1):=Rt hs;have aL2:(fD 1 e1 n λi=>epsI d.rules i)[s]? = some (.lst 1 ((epsI d.rules s).map e1)):=Lc hs;have pI:AT ((epsI d.rules s).map e1)=true:=Dz (λ_=>rfl) _;have gI:(fF 2 wayV n V D).getD root default=gG 2 wayV (V root) (D root):=M8 hroot;have tI:(fT 2 n V D).getD root .any=.ref (root+2) (V root) 0 (D root).length:=Z2 hroot;have sI:∀G,setQ (fF 2 wayV n V D) root G=some ((fF 2 wayV n V D).set root G):=λG=>Xr (by omega);have hEx:(!(D root).isEmpty||((D root).map wayV).isEmpty)=true:=Vg _
  have eT:(fT 2 n V D).set root (.ref (root+2) (V root+1) 0 ((D root).length+1))=fT 2 n (setV V root (V root+1)) (setD D root (D root++[((s:Int),out)])):=by
   have:=PU (o:=2) (V:=V) (D:=D) (l:=D root++[((s:Int),out)]) hroot
   rwa [Ak] at this
  have eF:(fF 2 wayV n V D).set root ⟨2,V root+1,false,(D root).map wayV++[.agg [.int .i64 s,C9 out]]⟩=fF 2 wayV n (setV V root (V root+1)) (setD D root (D root++[((s:Int),out)])):=by
   have:=PV (V:=V) (D:=D) (w:=2) (e:=wayV) (l:=D root++[((s:Int),out)]) (by simp) hroot;rw[A9] at this;exact this
  have hSB:∀G,Dd 2 [root+2] (fF 2 wayV n V D) ((fF 2 wayV n V D).set root G):=λG=>IK (by simp;omega);rw[Mu d n left V D];have hEp:epsV d.rules n=.lst 1 (fD 1 e1 n λi=>epsI d.rules i):=rfl;have hwa:=zat hl hc (show (0:Int)<=s by omega) out;generalize hLe:fD 1 e1 n (λi=>epsI d.rules i)=L at *;generalize fF 2 wayV n V D=F at *;generalize fT 2 n V D=TT at *;simp only[gG] at gI;(with_reducible repeat'(first|(simp(disch:=omega)only[push_cast,↓zz,seval,hEp,pR,pFi,pO,pE,hFl])|refine Aa ?_ ?_|(first|refine Ac ?_ ?_|refine Ab ?_ ?_)<;>intro hc<;>(try simp only[push_cast] at hc)|omega|intro _));refine De [root+2] ?_;(with_reducible repeat'(first|(simp(disch:=omega)only[push_cast,↓zz,seval,xx,Ag,Am,A5,Bg,B9,Ay,B0,Bz,hEp,pR,pFi,pO,pE,hFl,hTl,hLl,aL,aL2,gI,tI,sI,hEx,pI])|refine Aa ?_ ?_|(first|refine Ac ?_ ?_|refine Ab ?_ ?_)<;>intro hc<;>(try simp only[push_cast] at hc)|omega|intro _))
  ·exact hSB _
  have hE1:(epsI d.rules s).length<=4096:=by
   have:=B7 (λi=>Cy (nth d.rules i)&&decide ((nth d.rules i).from_=(s:Int))) (List.range d.rules.length);rw[CU] at this;exact Bm this hrl
  refine B4 (Hi (λ(q:Nat × (Nat->Nat))=>q.1<=(epsI d.rules s).length/\(wayK d.rules n s out q.1).length+1<=left) (λq=>(epsI d.rules s).length-q.1)
   (λq=>E4 [(0,.ptr 0 1 0 0),(1,.int .i64 root),(3,C9 out),(48,.lst 1 ((epsI d.rules s).map e1)),(49,.int .i64 (epsI d.rules s).length),(50,.int .i64 q.1)])
   (λq=>Abs.hl (fnL d n (left-1-(wayK d.rules n s out q.1).length) q.2 (setD D root (D root++((s:Int),out)::wayK d.rules n s out q.1)))) (0,setV V root (V root+1)) ⟨by simp,by simp[wayK];omega⟩ ?_ ?_)
  ·have e0:wayK d.rules n s out 0=[]:=by simp[wayK]
   have el:((left-1-0:Nat):Int)=(left:Int)-1:=by omega
   refine Eu (gar:=[]) _ ?_ (by rw[FY];simp[hl_n,hFl]) (Gg _ _ _ _ _) ?_
   ·simp only[Mu,e0,List.length_nil,el,hEp,A8,eT,eF]
   ·have hO:ltV (n+2) (C9 out):=Ce _ _ pO
    rw[FY];exact⟨rfl,(show 0<n+2 by omega),rfl,trivial,rfl,hO,rfl,trivial,rfl,trivial,rfl,trivial,trivial⟩
  clear eT eF sI hSB gI tI hEx;rintro⟨k,V1⟩ ⟨hk,hkl⟩;simp only at hk hkl ⊢;have hO:ltV (n+2) (C9 out):=Ce _ _ pO;obtain⟨left',hleft'⟩:∃left',left'=left-1-(wayK d.rules n s out k).length:=⟨_,rfl⟩;rw[<-hleft'];obtain⟨D1,hD1⟩:∃D1,D1=setD D root (D root++((s:Int),out)::wayK d.rules n s out k):=⟨_,rfl⟩;rw[<-hD1];obtain⟨B,hB⟩:∃B,B=(fnL d n left' V1 D1):=⟨_,rfl⟩;have hBc:=Gg d n left' V1 D1;have hBl:=FY d n left' V1 D1;rcases An k (epsI d.rules s).length with hkl2|hkl2
  ·obtain⟨i,hi⟩:∃i,i=nth (epsI d.rules s) k:=⟨_,rfl⟩
   have him:i∈epsI d.rules s:=by rw[hi];exact B2 hkl2
   obtain⟨i1,i2,i3⟩:=FJ.1 him;have hws:=z4s (l:=d.rules) (n:=n) (out:=out) hkl2;rw[<-hi] at hws;have aI:((epsI d.rules s).map e1).getD k .any=.int .i64 i:=by rw[hi];simp[nth,List.getD,hkl2]
   have hto:=(hl _ (B2 i1)).2;have hol:=ho _ (B2 i1);obtain⟨r,hr⟩:=zh3 (l:=d.rules) (n:=n) (s:=s) (out:=out) (k:=k+1) (by omega);rw[hr,hws] at hwa;clear hr;generalize hre:nth d.rules i=rr at *;have hgr:=AL rr.guards;have hot:=B5 rr.out;obtain⟨j,hj⟩:∃j:Nat,rr.to_=j:=⟨rr.to_.toNat,by omega⟩;have hjn:j<n:=by omega
   rw[hj] at hwa hws;have hC:=Qb out rr.out (by omega);have hlt':left'<left:=by omega
   have hIH:=ih left' hlt' root j (out++rr.out) V1 D1 (by omega) hroot hjn (by rw[Ak];omega) (by rw[hD1,Vi,Ak,List.length_cons];omega);have hpO2:=B5 (out++rr.out);have hO2:ltV (n+2) (C9 (out++rr.out)):=Ce _ _ hpO2;generalize hM:wayL d.rules n j (out++rr.out)=M at *;have hF1:(fF 2 wayV n V1 D1).length=n:=He;have gR:∀G,(fF 2 wayV n V1 D1++[G]).getD n default=G:=λG=>by rw[GC hF1];rfl
   have sR:∀G G',setQ (fF 2 wayV n V1 D1++[G]) n G'=some (fF 2 wayV n V1 D1++[G']):=λG G'=>by rw[I2 _ _ hF1];rfl
   rw[Mu d n left' V1 D1];refine W_T ?_;(with_reducible repeat'(first|(simp(disch:=omega)only[push_cast,↓zz,seval,hEp,pR,pFi,pO,pI,hLl,aI,hre,hgr,hot,hj,i1,hF1,gR,sR])|refine Aa ?_ ?_|(first|refine Ac ?_ ?_|refine Ab ?_ ?_)<;>intro hc<;>(try simp only[push_cast] at hc)|refine eK hC ?_|refine eQ hC ?_|refine eG hC ?_|((first|refine cK hC ?_|refine cQ hC ?_|refine cG hC ?_);(simp(disch:=omega)only[push_cast,↓zz,seval,hEp,pR,pFi,pO,pI,hLl,aI,hre,hgr,hot,hj,i1,hF1,gR,sR]);(fail_if_success change False))|omega|intro _));refine T8 (l0:=fnL d n left' V1 D1) (extra:=[_]) (by simp only[Mu,hEp];rfl) hIH ?_ (Gg _ _ _ _ _) ?_
   ·rw[FY]
    exact⟨(show 0<n+2 by omega),trivial,trivial,hO2,trivial⟩
   rintro y H' ⟨V2,rfl,rfl⟩;refine⟨_,rfl,by rw[FY,FY],trivial,λG hG=>?_,?_⟩
   ·have:=Gg _ _ _ _ _ G hG
    rw[FY] at this ⊢;exact this
   by_cases hfit:M.length<=left'
   ·rw[Ba hfit]
    have hD2:setD D1 root (D1 root++List.take left' M)=setD D root (D root++((s:Int),out)::wayK d.rules n s out (k+1)):=by
     rw[hD1,TA,Vi,Ar hfit,hws,Aw,List.cons_append]
    have hL2:left'-M.length=left-1-(wayK d.rules n s out (k+1)).length:=by rw[hws,Ak];omega
    have hL3:(wayK d.rules n s out (k+1)).length+1<=left:=by rw[hws,Ak];omega
    rw[hD2,hL2];(with_reducible repeat'(first|(simp(disch:=omega)only[push_cast,↓zz,seval])|refine Aa ?_ ?_|(first|refine Ac ?_ ?_|refine Ab ?_ ?_)<;>intro hc<;>(try simp only[push_cast] at hc)|omega|intro _));refine⟨(k+1,V2),Eu (gar:=[_]) _ rfl (by rw[FY];omega) (Gg _ _ _ _ _) ?_,⟨by omega,hL3⟩,by simp only;omega⟩;rw[FY];exact⟨rfl,(show 0<n+2 by omega),rfl,trivial,rfl,hO,rfl,trivial,rfl,trivial,rfl,trivial,trivial⟩
   ·rw[By hfit]
    have hW:wayL d.rules n s out=((s:Int),out)::(wayK d.rules n s out k++M++r):=hwa;obtain⟨c1,c2⟩:=zau hW (show left=1+(wayK d.rules n s out k).length+left' by omega) (show left'<M.length by omega)
    have hD2:setD D1 root (D1 root++List.take left' M)=setD D root (D root++List.take left (wayL d.rules n s out)):=by
     rw[hD1,TA,Vi,c1,Aw,List.cons_append]
    have hL2:left'-M.length=left-(wayL d.rules n s out).length:=by omega
    rw[hD2,hL2];(with_reducible repeat'(first|(simp(disch:=omega)only[push_cast,↓zz,seval])|refine Aa ?_ ?_|(first|refine Ac ?_ ?_|refine Ab ?_ ?_)<;>intro hc<;>(try simp only[push_cast] at hc)|omega|intro _));exact⟨_,_,Rv (gar:=[_]) rfl (by rw[FY];omega) (Gg _ _ _ _ _) trivial,V2,by rw[By (by omega)],rfl⟩
  ·obtain rfl:k=(epsI d.rules s).length:=by omega
   have hWl:(wayL d.rules n s out).length=(wayK d.rules n s out (epsI d.rules s).length).length+1:=by rw[hwa,List.length_cons]
   have hD2:D1=setD D root (D root++List.take left (wayL d.rules n s out)):=by
    rw[hD1,Ar (by omega),hwa]
   have hL2:left'=left-(wayL d.rules n s out).length:=by omega
   rw[hD2,hL2];refine W_T ?_;(with_reducible repeat'(first|(simp(disch:=omega)only[push_cast,↓zz,seval,pR,pFi,pO,pI,hLl])|refine Aa ?_ ?_|(first|refine Ac ?_ ?_|refine Ab ?_ ?_)<;>intro hc<;>(try simp only[push_cast] at hc)|omega|intro _));exact⟨_,_,Ent.refl,V1,by rw[Ba (by omega)],rfl⟩
end Go.Proofs.YtbcjoeadpjfcfaaGreat
namespace Go.Proofs.YtbcjoeadpjfcfaaGreat.Abs
def Frz1(d:Nat)(H:A7)(ks:List Nat)(x y:AV):Prop:=y=x\/(Ea d (H.only ks) x/\y=frzV d (H.only ks) x)
def FrzL(d:Nat)(H:A7)(ks:List Nat):List AV->List AV->Prop
 |[],ys=>ys=[]
 |x::xs,ys=>∃y r,ys=y::r/\Frz1 d H ks x y/\FrzL d H ks xs r
def Frz2(d:Nat)(H:A7)(ks:List Nat)(x y:AV):Prop:=Frz1 d H ks x y\/∃cs ds,x=.agg cs/\y=.agg ds/\FrzL d H ks cs ds
def FrzM(d:Nat)(H:A7)(ks:List Nat):List AV->List AV->Prop
 |[],ys=>ys=[]
 |x::xs,ys=>∃y r,ys=y::r/\Frz2 d H ks x y/\FrzM d H ks xs r
theorem FrzM.len{d:Nat}{H:A7}{ks:List Nat}:∀{xs ys:List AV},FrzM d H ks xs ys->ys.length=xs.length
 |[],_,h=>by rw[show _=[] from h]
 |x::xs,_,⟨y,r,rfl,_,h⟩=>by simp[FrzM.len h]
theorem Frz1.rel{d:Nat}{H:A7}{ks:List Nat}{S:MS}(hS:SRel S H){x y:AV}{v:Value}(h:Frz1 d H ks x y)(hv:VRel S x v):VRel (S.kill H ks) y v:=by
 rcases h with rfl|⟨h1,rfl⟩
 ·exact VRel.mono (HM ks hS) _ hv
 ·exact MG ks hS d h1 hv
theorem FrzL.rel{d:Nat}{H:A7}{ks:List Nat}{S:MS}(hS:SRel S H):∀{xs ys:List AV}{vs:List Value},FrzL d H ks xs ys->AI S xs vs->AI (S.kill H ks) ys vs
 |[],_,_,h,hv=>by rw[show _=[] from h];exact hv
 |x::xs,_,_,⟨y,r,rfl,h1,h2⟩,⟨u,q,rfl,k1,k2⟩=>⟨u,q,rfl,h1.rel hS k1,FrzL.rel hS h2 k2⟩
theorem Frz2.rel{d:Nat}{H:A7}{ks:List Nat}{S:MS}(hS:SRel S H){x y:AV}{v:Value}(h:Frz2 d H ks x y)(hv:VRel S x v):VRel (S.kill H ks) y v:=by
 rcases h with h|⟨cs,ds,rfl,rfl,h⟩
 ·exact h.rel hS hv
 ·obtain⟨vs,rfl,hvs⟩:=hv
  exact⟨vs,rfl,h.rel hS hvs⟩
theorem FrzM.rel{d:Nat}{H:A7}{ks:List Nat}{S:MS}(hS:SRel S H):∀{xs ys:List AV}{vs:List Value},FrzM d H ks xs ys->AI S xs vs->AI (S.kill H ks) ys vs
 |[],_,_,h,hv=>by rw[show _=[] from h];exact hv
 |x::xs,_,_,⟨y,r,rfl,h1,h2⟩,⟨u,q,rfl,k1,k2⟩=>⟨u,q,rfl,h1.rel hS k1,FrzM.rel hS h2 k2⟩
theorem FrzM.refl{d:Nat}{H:A7}{ks:List Nat}:∀(xs:List AV),FrzM d H ks xs xs
 |[]=>rfl
 |x::xs=>⟨x,xs,rfl,.inl (.inl rfl),FrzM.refl xs⟩
theorem FrzM.set{d:Nat}{H:A7}{ks:List Nat}{y:AV}:∀{xs:List AV}{i:Nat},i<xs.length->Frz2 d H ks (xs.getD i .any) y->FrzM d H ks xs (xs.set i y)
 |[],_,h,_=>by simp at h
 |x::xs,0,_,h=>⟨y,xs,rfl,h,FrzM.refl xs⟩
 |x::xs,i+1,hi,h=>⟨x,_,rfl,.inl (.inl rfl),FrzM.set (by simpa using hi) (by simpa using h)⟩
theorem J0{n b:Nat}{env:Env}{l l':List Grp}{g w v d:Nat}{ex:Bool}{xs ys:List AV}(ks:List Nat)(hw:0<w)(hlt:g<l.length)(hg:l.getD g default=⟨w,v,ex,xs⟩)(hk:g∉ks)
 (hxy:FrzM d (hl l) ks xs ys) (hl':(Fv 0 ks l).set g ⟨w,v,ex,ys⟩=l'):Ent n b env (hl l) env (hl l'):=λS val hb hS hv=>by
 subst hl';have hS1:=MF ks hS;have he:=HM ks hS;refine⟨S.kill (hl l) ks,rfl,he.down hb,?_,λi hi=>VRel.mono he _ (hv i hi)⟩;have hlk:g<(Fv 0 ks l).length:=by rw[GZ];exact hlt
 have hat0:∀j,j<l.length->((hl l).kill ks).at_ j=(Fv 0 ks l).getD j default:=λj hj=>by
  rw[JG 0 ks l j hj,Bn];rfl
 have hn:(hl ((Fv 0 ks l).set g ⟨w,v,ex,ys⟩)).n=((hl l).kill ks).n:=by simp[hl,A7.kill,GZ]
 have hlen:((hl l).kill ks).n=l.length:=rfl
 have hat:∀j,j<l.length->(hl ((Fv 0 ks l).set g ⟨w,v,ex,ys⟩)).at_ j=if j=g then ⟨w,v,ex,ys⟩ else ((hl l).kill ks).at_ j:=λj hj=>by
  rw[DT];by_cases e:j=g
  ·subst e;rw[Ai rfl];exact Kn _ hlk
  ·rw[Ah e,hat0 j hj];exact GY _ (Al e)
 have hgk:((hl l).kill ks).at_ g=⟨w,v,ex,xs⟩:=by
  show (if g∈ks then _ else _)=_;rw[Ah hk,DT,hg]
 have h1:GRel (S.kill (hl l) ks) ⟨w,v,ex,xs⟩ g:=by have:=hS1.grp g (by rw[hlen];exact hlt);rwa [hgk] at this
 have h0:GRel S ⟨w,v,ex,xs⟩ g:=by have:=hS.grp g hlt;rwa [DT,hg] at this
 have hly:=hxy.len
 have hG:GRel (S.kill (hl l) ks) ⟨w,v,ex,ys⟩ g:=by
  refine⟨h1.ver,h1.wid,λ_ hc=>?_,λhh=>by show ys.length<=_;rw[hly];exact h1.len hh,λhh he=>by show ys.length=_;rw[hly];exact h1.full hh he,λhh=>by simp only at hh;omega⟩;obtain⟨⟨cells,TT,vs,a1,a2,a3,a4⟩,_⟩:=h0.live hw hc;exact⟨⟨cells,TT,vs,a1,a2,hxy.rel hS a3,a4⟩,(h1.live hw hc).2⟩
 have hhas:∀j,j<l.length->((hl ((Fv 0 ks l).set g ⟨w,v,ex,ys⟩)).at_ j).has ((S.kill (hl l) ks).cap j)->(((hl l).kill ks).at_ j).has ((S.kill (hl l) ks).cap j):=λj hj h=>by
  rw[hat j hj] at h;by_cases e:j=g
  ·subst e;rw[Ai rfl] at h;rw[hgk];exact h
  ·rw[Ah e] at h;exact h
 refine⟨hS1.n.trans hn.symm,λj hj=>?_,λj j' a c hne p q=>hS1.apart j j' (by rwa [hn] at a) (by rwa [hn] at c) hne (hhas j (by rwa [hn] at a) p) (hhas j' (by rwa [hn] at c) q),hS1.im⟩;rw[hn] at hj;rw[hat j hj];by_cases e:j=g
 ·subst e;rw[Ai rfl];exact hG
 ·rw[Ah e];exact hS1.grp j hj
end Go.Proofs.YtbcjoeadpjfcfaaGreat.Abs
namespace Go.Proofs.YtbcjoeadpjfcfaaGreat
open Abs
def fwdE(d:Desc):List (Int × Int):=d.rules.map λr=>(r.from_,r.to_)
def bwdE(d:Desc):List (Int × Int):=d.rules.map λr=>(r.to_,r.from_)
def endE(d:Desc):List Int:=d.finals.map (·.from_)
structure Wf(d:Desc):Prop where
 n:∃n:Nat,d.states=n/\1<=n/\n<=1024
 start:0<=d.start/\d.start<d.states
 rl:d.rules.length<=4096
 fl:d.finals.length<=4096
 r:∀r∈d.rules,(0<=r.from_/\r.from_<d.states)/\0<=r.to_/\r.to_<d.states
 f:∀f∈d.finals,0<=f.from_/\f.from_<d.states
theorem O2{d:Desc}(h:Ew d=0):Wf d:=by
 obtain⟨h1,h2,h3⟩:=Gf h;have h4:=z4i h1;refine⟨⟨d.states.toNat,by omega,by omega,by omega⟩,h4.2.2.2,h4.2.1,h4.2.2.1,λr hr=>z4j (h2 r hr),λf hf=>?_⟩;have:=h3 f hf;simp only[GA,I1,Ad,Aj] at this;exact this.1
noncomputable def comeL (d:Desc):List Bool:=zct d.states.toNat [d.start] (fwdE d)
noncomputable def goL (d:Desc):List Bool:=zct d.states.toNat (endE d) (bwdE d)
set_option maxRecDepth 100000
def epsK(l:List Rule)(k:Nat)(s:Nat):List Nat:=(List.range k).filter λi=>Cy (nth l i)&&decide ((nth l i).from_=s)
theorem zaw(l:List Rule)(k s:Nat):(epsK l k s).length<=k:=by
 have:=B7 (λi=>Cy (nth l i)&&decide ((nth l i).from_=s)) (List.range k);simpa [epsK] using this
theorem zax{l:List Rule}{k i:Nat}(he:Cy (nth l k)=true)(hi:(nth l k).from_=i):epsK l (k+1)=setD (epsK l k) i (epsK l k i++[k]):=by
 funext s;simp only[epsK,Cq,BM,BH,List.filter_nil,he,Ax,hi,Aj,setD];by_cases e:s=i
 ·subst e;simp
 ·rw[Ah (by omega),Ah e];simp
theorem zh4{l:List Rule}{k:Nat}(he:Cy (nth l k)=false):epsK l (k+1)=epsK l k:=by
 funext s;simp[epsK,Cq,BM,he]
def wayD(l:List Rule)(n k:Nat)(s:Nat):List (Int × List Term):=if s<k then wayL l n s [] else []
theorem z4u(l:List Rule)(n:Nat):wayD l n 0=λ_=>[]:=by funext s;simp[wayD]
theorem z4v(l:List Rule)(n k:Nat):setD (wayD l n k) k (wayD l n k k++wayL l n k [])=wayD l n (k+1):=by
 funext s;simp only[setD,wayD];by_cases e:s=k
 ·subst e;simp
 ·rw[Ah e]
  by_cases h:s<k
  ·rw[Ai h,Ai (by omega)]
  ·rw[Ah h,Ah (by omega)]
theorem zlb(l:List Rule)(n:Nat):fD 2 wayV n (wayD l n n)=fD 2 wayV n λs=>wayL l n s []:=by
 simp only[fD];refine AQ λs hs=>?_;have:s<n:=by simpa using hs
 simp[wayD,this]
def fbV(d:Desc)(E Wy:AV)(left:Int):AV:=.agg [.int .i64 d.in_,.int .i64 d.out,.int .i64 d.states,.int .i64 d.start,DF d.rules,Fb d.finals,E,Wy,.int .i64 left]
def epL(d:Desc)(n k:Nat)(V:Nat->Nat):List Grp :=
 ⟨9,1,true,[fbV d (.ref 2 1 0 n) (.ref 1 1 0 n) 4096]⟩::⟨1,1,true,List.replicate n .nilS⟩::⟨1,1,true,fT 4 n V (epsK d.rules k)⟩::⟨6,1,true,[Dm d]⟩::fF 1 e1 n V (epsK d.rules k)
theorem TB(d:Desc)(n k:Nat)(V:Nat->Nat):epL d n k V=⟨9,1,true,[fbV d (.ref 2 1 0 n) (.ref 1 1 0 n) 4096]⟩::⟨1,1,true,List.replicate n .nilS⟩::⟨1,1,true,fT 4 n V (epsK d.rules k)⟩::⟨6,1,true,[Dm d]⟩::fF 1 e1 n V (epsK d.rules k):=rfl
theorem Ry(d:Desc)(n k:Nat)(V:Nat->Nat):(epL d n k V).length=n+4:=by simp[epL,He]
theorem FZ(n:Nat):AT (List.replicate n AV.nilS)=true:=Ca.2 λx hx=>by rw[C3 hx];rfl
theorem Qc(d:Desc)(n k:Nat)(V:Nat->Nat):∀G∈epL d n k V,ltL (epL d n k V).length G.xs:=λG hG=>by
 rw[Ry];simp only[epL,Ag] at hG;rcases hG with rfl|rfl|rfl|rfl|hG
 ·have h1:ltV (n+4) (DF d.rules):=Ce _ _ (B8 _)
  have h2:ltV (n+4) (Fb d.finals):=Ce _ _ (B6 _);exact⟨⟨trivial,trivial,trivial,trivial,h1,h2,(show 2<n+4 by omega),(show 1<n+4 by omega),trivial,trivial⟩,trivial⟩
 ·exact CS _ _ (FZ n)
 ·exact PW (by omega)
 ·exact CS _ _ (by simp[AT,GR])
 ·exact PX (λ_=>rfl) G hG
theorem Z4{m b:Nat}{env:Env}(d:Desc)(n:Nat)(V:Nat->Nat):Ent m b env (Abs.hl (epL d n d.rules.length V)) env (Abs.hl ([⟨9,1,true,[fbV d (epsV d.rules n) (.ref 1 1 0 n) 4096]⟩,⟨1,1,true,List.replicate n .nilS⟩,⟨0,2,false,[]⟩,⟨6,1,true,[Dm d]⟩]++(fF 1 e1 n V (epsK d.rules d.rules.length)).map Grp.dead)):=by
 have h1:(Abs.hl (epL d n d.rules.length V)).at_ 2=⟨1,1,true,fT 4 n V (epsK d.rules d.rules.length)⟩:=rfl
 have h2:∀i,i<n->(Abs.hl (epL d n d.rules.length V)).at_ (i+4)=gG 1 e1 (V i) (epsK d.rules d.rules.length i):=λi hi=>by
  rw[TB,DT];simp only[C1];exact M8 hi
 obtain⟨f1,f2⟩:=O0 (w:=1) (e:=e1) (by decide) (λ_=>rfl) h1 h2;refine J0 (g:=0) (w:=9) (v:=1) (d:=2) (ex:=true) (xs:=[fbV d (.ref 2 1 0 n) (.ref 1 1 0 n) 4096]) (ys:=[fbV d (epsV d.rules n) (.ref 1 1 0 n) 4096]) (fKs 2 4 n) (by decide) (by rw[Ry];omega) rfl (GT (by decide) (by omega)) ?_ ?_
 ·refine⟨_,[],rfl,.inr ⟨_,_,rfl,rfl,?_⟩,rfl⟩
  refine⟨_,_,rfl,.inl rfl,_,_,rfl,.inl rfl,_,_,rfl,.inl rfl,_,_,rfl,.inl rfl,_,_,rfl,.inl rfl,_,_,rfl,.inl rfl,_,_,rfl,.inr ⟨f1,f2.symm⟩,_,_,rfl,.inl rfl,_,_,rfl,.inl rfl,rfl⟩
 ·have m0:(0:Nat)∉fKs 2 4 n:=GT (by decide) (by omega)
  have m1:(1:Nat)∉fKs 2 4 n:=GT (by decide) (by omega);have m3:(3:Nat)∉fKs 2 4 n:=GT (by decide) (by omega);have m2:(2:Nat)∈fKs 2 4 n:=by simp[fKs]
  have hF:Fv 4 (fKs 2 4 n) (fF 1 e1 n V (epsK d.rules d.rules.length))=(fF 1 e1 n V (epsK d.rules d.rules.length)).map Grp.dead:=O1 λj hj=>by
   rw[He] at hj;rw[Cm];exact Ru hj
  rw[TB,FA,FA,FA,FA,Ah m0,Ah m1,Ai m2,Ah m3,hF];rfl
theorem Vj{m b:Nat}{env:Env}(d:Desc)(n left:Nat)(V:Nat->Nat)(D:Nat->List (Int × List Term)):Ent m b env (Abs.hl (fnL d n left V D)) env (Abs.hl ([⟨9,1,true,[fbV d (epsV d.rules n) (.lst 1 (fD 2 wayV n D)) left]⟩,⟨0,2,false,[]⟩]++(fF 2 wayV n V D).map Grp.dead)):=by
 have h1:(Abs.hl (fnL d n left V D)).at_ 1=⟨1,1,true,fT 2 n V D⟩:=rfl
 have h2:∀i,i<n->(Abs.hl (fnL d n left V D)).at_ (i+2)=gG 2 wayV (V i) (D i):=λi hi=>by
  rw[Mu,DT];simp only[C1];exact M8 hi
 obtain⟨f1,f2⟩:=O0 (w:=2) (e:=wayV) (by decide) HC h1 h2;refine J0 (g:=0) (w:=9) (v:=1) (d:=2) (ex:=true) (xs:=[fbV d (epsV d.rules n) (.ref 1 1 0 n) left]) (ys:=[fbV d (epsV d.rules n) (.lst 1 (fD 2 wayV n D)) left]) (fKs 1 2 n) (by decide) (by rw[FY];omega) rfl (GT (by decide) (by omega)) ?_ ?_
 ·refine⟨_,[],rfl,.inr ⟨_,_,rfl,rfl,?_⟩,rfl⟩
  refine⟨_,_,rfl,.inl rfl,_,_,rfl,.inl rfl,_,_,rfl,.inl rfl,_,_,rfl,.inl rfl,_,_,rfl,.inl rfl,_,_,rfl,.inl rfl,_,_,rfl,.inl rfl,_,_,rfl,.inr ⟨f1,f2.symm⟩,_,_,rfl,.inl rfl,rfl⟩
 ·have m0:(0:Nat)∉fKs 1 2 n:=GT (by decide) (by omega)
  have m1:(1:Nat)∈fKs 1 2 n:=by simp[fKs]
  have hF:Fv 2 (fKs 1 2 n) (fF 2 wayV n V D)=(fF 2 wayV n V D).map Grp.dead:=O1 λj hj=>by
   rw[He] at hj;rw[Cm];exact Ru hj
  rw[Mu,FA,FA,Ah m0,Ai m1,hF];rfl
theorem Vk{P:Program}{f:Nat}{xs ys:List AV}{l:List Grp}{K:AV->A7->Prop}(h:BZ P f ys (Abs.hl l) K)(hle:leSL l xs ys):BZ P f xs (Abs.hl l) K:=⟨h.1,λS cargs hS hx=>h.2 S cargs hS (Je (.inl hS) _ hle hx)⟩
noncomputable def z4w (d:Desc) (n:Nat):AV:=if cumW d.rules n n<=4096 then .tup [.lst 1 (fD 2 wayV n λs=>wayL d.rules n s []),.int .i64 0] else .tup [.nilS,.int .i64 4]
theorem Xv(d:Desc)(hf:GB d)(h:Ew d=0){n:Nat}(hn:d.states=n)(hcyc:¬cycP d.rules n):PC Tryz.prog 44 [Dm d] (z4w d n):=by
 have hw:=O2 h;obtain⟨_,hrules,_⟩:=Gf h;have hC:=JP d hf;rw[h] at hC;have hnn:1<=n/\n<=1024:=by obtain⟨m,h1,h2,h3⟩:=hw.n;omega
 have hrl:=hw.rl;have hl:∀r∈d.rules,(0<=r.from_/\r.from_<n)/\0<=r.to_/\r.to_<n:=λr hr=>by have:=hw.r r hr;rw[hn] at this;exact this
 have pR:=B8 d.rules;have pFi:=B6 d.finals;refine z4r JY (W_T ?_);unfold HZ;(with_reducible repeat'(first|(simp(disch:=omega)only[push_cast,↓zz,seval,pR,pFi,hn])|refine Aa ?_ ?_|(first|refine Ac ?_ ?_|refine Ab ?_ ?_)<;>intro hc<;>(try simp only[push_cast] at hc)|refine eK hC ?_|refine eQ hC ?_|refine eG hC ?_|((first|refine cK hC ?_|refine cQ hC ?_|refine cG hC ?_);(simp(disch:=omega)only[push_cast,↓zz,seval,pR,pFi,hn]);(fail_if_success change False))|omega|intro _));refine z3a [1,2,3] [1,1,9] [none,none,none,some 1,none,none,some 2,none,some 3] (by simp) (by decide) ?_;(with_reducible repeat'(first|(simp(disch:=omega)only[push_cast,↓zz,seval,yy,Ag,Am,A5,Bg,B9,Ay,B0,Bz,pR,pFi,hn])|refine Aa ?_ ?_|(first|refine Ac ?_ ?_|refine Ab ?_ ?_)<;>intro hc<;>(try simp only[push_cast] at hc)|omega|intro _))
 refine B4 (Np (srcs:=[.grp 3,.grp 2,.grp 1,.grp 0]) (live:=[(1,.ptr 3 1 0 0),(4,.ptr 0 1 0 0),(21,DF d.rules),(22,.int .i64 d.rules.length),(23,.int .i64 0)])
  (heap:=[⟨9,1,true,[fbV d (.ref 2 1 0 n) (.ref 1 1 0 n) 4096]⟩,⟨1,1,true,List.replicate n .nilS⟩,⟨1,1,true,List.replicate n .nilS⟩,⟨6,1,true,[Dm d]⟩]) ?_ (Jr (LL (α:=Nat) (w:=1) (e:=e1) (n:=n) (t:=2) (by decide) (by simp) rfl) ?_))
 ·have pN:=FZ n
  unfold fbV;(with_reducible repeat'(first|(simp(disch:=omega)only[push_cast,↓zz,seval,pR,pFi,hn,pN])|refine Aa ?_ ?_|(first|refine Ac ?_ ?_|refine Ab ?_ ?_)<;>intro hc<;>(try simp only[push_cast] at hc)|omega|intro _))
 refine Hi (λ(q:Nat × (Nat->Nat))=>q.1<=d.rules.length) (λq=>d.rules.length-q.1)
  (λq=>E4 [(1,.ptr 3 1 0 0),(4,.ptr 0 1 0 0),(21,DF d.rules),(22,.int .i64 d.rules.length),(23,.int .i64 q.1)]) (λq=>Abs.hl (epL d n q.1 q.2)) (0,λ_=>1) (by simp) Ent.refl ?_
 rintro⟨k,V⟩ hk;simp only at hk ⊢;rcases An k d.rules.length with hkl|hkl
 ·have hr:=hl _ (B2 hkl)
  have hyes:=λi=>zax (l:=d.rules) (k:=k) (i:=i);have hno:=zh4 (l:=d.rules) (k:=k);generalize hre:nth d.rules k=r at *;have hgr:=AL r.guards;have hot:=B5 r.out;obtain⟨i,hi⟩:∃i:Nat,r.from_=i:=⟨r.from_.toNat,by omega⟩;have hin:i<n:=by omega
  have hFl:(fF 1 e1 n V (epsK d.rules k)).length=n:=He;have hTl:(fT 4 n V (epsK d.rules k)).length=n:=PT;have gI:∀G,(fF 1 e1 n V (epsK d.rules k)++[G]).getD i default=gG 1 e1 (V i) (epsK d.rules k i):=λG=>by rw[T5 hFl hin];exact M8 hin
  have gR:∀G,(fF 1 e1 n V (epsK d.rules k)++[G]).getD n default=G:=λG=>by rw[GC hFl];rfl
  have sR:∀G G',setQ (fF 1 e1 n V (epsK d.rules k)++[G]) n G'=some (fF 1 e1 n V (epsK d.rules k)++[G']):=λG G'=>by rw[I2 _ _ hFl];rfl
  have tI:(fT 4 n V (epsK d.rules k)).getD i .any=.ref (i+4) (V i) 0 (epsK d.rules k i).length:=Z2 hin;have sI:∀G G',setQ (fF 1 e1 n V (epsK d.rules k)++[G]) i G'=some ((fF 1 e1 n V (epsK d.rules k)).set i G'++[G]):=λG G'=>LK (by omega);have gR2:∀G G',((fF 1 e1 n V (epsK d.rules k)).set i G'++[G]).getD n default=G:=λG G'=>by rw[GC (by rw[CV];exact hFl)];rfl
  have hSB:∀R G,Dd 4 [i+4] (fF 1 e1 n V (epsK d.rules k)++[R]) ((fF 1 e1 n V (epsK d.rules k)).set i G++[R]):=λR G=>Ld (by omega) (by simp;omega);have hEx:=Vg (e:=e1) (epsK d.rules k i);have hel:=zaw d.rules k i
  have eT:(fT 4 n V (epsK d.rules k)).set i (.ref (i+4) (V i+1) 0 ((epsK d.rules k i).length+1))=fT 4 n (setV V i (V i+1)) (setD (epsK d.rules k) i (epsK d.rules k i++[k])):=by
   have:=PU (o:=4) (V:=V) (D:=epsK d.rules k) (l:=epsK d.rules k i++[k]) hin
   rwa [Ak] at this
  have eF:(fF 1 e1 n V (epsK d.rules k)).set i ⟨1,V i+1,false,(epsK d.rules k i).map e1++[.int .i64 k]⟩=fF 1 e1 n (setV V i (V i+1)) (setD (epsK d.rules k) i (epsK d.rules k i++[k])):=by
   have:=PV (V:=V) (D:=epsK d.rules k) (w:=1) (e:=e1) (l:=epsK d.rules k i++[k]) (by simp) hin;rw[A9] at this;exact this
  rw[TB];unfold fbV;have hni:¬n=i:=by omega
  simp only[gG] at gI;refine W_T ?_;(with_reducible repeat'(first|(simp(disch:=omega)only[push_cast,↓zz,seval,xx,Ag,Am,A5,Bg,B9,Ay,B0,Bz,pR,pFi,hn,hre,hi,hgr,hot,hFl,hTl,gI,gR,sR,tI,sI,gR2,hEx,hni])|refine Aa ?_ ?_|(first|refine Ac ?_ ?_|refine Ab ?_ ?_)<;>intro hc<;>(try simp only[push_cast] at hc)|refine De [i+4] ?_|omega|intro _))
  ·exact hSB _ _
  ·have he:Cy r=true:=by simp only[Cy];simpa using ‹(r.guards.length:Int)=0›
   refine⟨(k+1,setV V i (V i+1)),Eu (gar:=[⟨5,1,true,[.agg [.int .i64 i,.int .i64 r.to_,Bs r.guards,.int .i64 r.eat,C9 r.out]]⟩]) _ ?_ (AD _) (Qc _ _ _ _) ?_,by simp only;omega,by simp only;omega⟩
   ·rw[TB,hyes i he hi,<-eT,<-eF]
    unfold fbV;rw[hn];rfl
   ·have hRv:ltV (n+4) (DF d.rules):=Ce _ _ pR
    rw[Ry];exact⟨rfl,(show 3<n+4 by omega),rfl,(show 0<n+4 by omega),rfl,hRv,rfl,trivial,rfl,trivial,trivial⟩
  ·have he:Cy r=false:=by simp only[Cy];simpa using ‹¬(r.guards.length:Int)=0›
   refine⟨(k+1,V),Eu (gar:=[⟨5,1,true,[.agg [.int .i64 i,.int .i64 r.to_,Bs r.guards,.int .i64 r.eat,C9 r.out]]⟩]) _ ?_ (AD _) (Qc _ _ _ _) ?_,by simp only;omega,by simp only;omega⟩
   ·rw[TB,hno he]
    unfold fbV;rw[hn];rfl
   ·have hRv:ltV (n+4) (DF d.rules):=Ce _ _ pR
    rw[Ry];exact⟨rfl,(show 3<n+4 by omega),rfl,(show 0<n+4 by omega),rfl,hRv,rfl,trivial,rfl,trivial,trivial⟩
 ·obtain rfl:k=d.rules.length:=by omega
  refine Jr ((Z4 d n V).trans (Eu (l0:=[⟨9,1,true,[fbV d (epsV d.rules n) (.ref 1 1 0 n) 4096]⟩,⟨1,1,true,List.replicate n .nilS⟩,⟨0,2,false,[]⟩,⟨6,1,true,[Dm d]⟩]) [(1,.ptr 3 1 0 0),(4,.ptr 0 1 0 0),(21,DF d.rules),(22,.int .i64 d.rules.length),(23,.int .i64 d.rules.length)] rfl (AD _) ?_ ?_)) ?_
  ·intro G hG
   simp only[Ag,Am,A5] at hG;have h1:ltV 4 (DF d.rules):=Ce _ _ (B8 _);have h2:ltV 4 (Fb d.finals):=Ce _ _ (B6 _);have h3:ltV 4 (epsV d.rules n):=Ce _ _ (Le _ _);rcases hG with rfl|rfl|rfl|rfl
   ·exact⟨⟨trivial,trivial,trivial,trivial,h1,h2,h3,(show 1<4 by omega),trivial,trivial⟩,trivial⟩
   ·exact CS _ _ (FZ n)
   ·trivial
   ·exact CS _ _ (by simp[AT,GR])
  ·have hRv:ltV 4 (DF d.rules):=Ce _ _ pR
   exact⟨rfl,(show 3<4 by omega),rfl,(show 0<4 by omega),rfl,hRv,rfl,trivial,rfl,trivial,trivial⟩
  refine W_T ?_;(with_reducible repeat'(first|(simp(disch:=omega)only[push_cast,↓zz,seval,pR,pFi,hn])|refine Aa ?_ ?_|(first|refine Ac ?_ ?_|refine Ab ?_ ?_)<;>intro hc<;>(try simp only[push_cast] at hc)|omega|intro _));refine B4 (Jr ((Eu (l0:=[⟨9,1,true,[fbV d (epsV d.rules n) (.ref 1 1 0 n) 4096]⟩,⟨1,1,true,List.replicate n .nilS⟩]) (gar:=[⟨0,2,false,[]⟩,⟨6,1,true,[Dm d]⟩]) [(4,.ptr 0 1 0 0),(52,.int .i64 n),(53,.int .i64 0)] ?_ (AD _) ?_ ?_).trans (LL (α:=Int × List Term) (w:=2) (e:=wayV) (n:=n) (t:=1) (by decide) (by simp) rfl)) ?_)
  ·unfold fbV
   rw[hn];rfl
  ·intro G hG
   simp only[Ag,Am,A5] at hG;have h1:ltV 2 (DF d.rules):=Ce _ _ (B8 _);have h2:ltV 2 (Fb d.finals):=Ce _ _ (B6 _);have h3:ltV 2 (epsV d.rules n):=Ce _ _ (Le _ _);rcases hG with rfl|rfl
   ·exact⟨⟨trivial,trivial,trivial,trivial,h1,h2,h3,(show 1<2 by omega),trivial,trivial⟩,trivial⟩
   ·exact CS _ _ (FZ n)
  ·exact⟨rfl,(show 0<2 by omega),rfl,trivial,rfl,trivial,trivial⟩
  have ho:∀r∈d.rules,r.out.length<=64:=λr hr=>by
   have:=hrules r hr;simp only[Hq,Ad] at this;exact (FX this.2.2.2.2).1
  refine Hi (λ(q:Nat × (Nat->Nat))=>q.1<=n/\cumW d.rules n q.1<=4096) (λq=>n-q.1)
   (λq=>E4 [(4,.ptr 0 1 0 0),(52,.int .i64 n),(53,.int .i64 q.1)]) (λq=>Abs.hl (fnL d n (4096-cumW d.rules n q.1) q.2 (wayD d.rules n q.1))) (0,λ_=>1) ⟨by simp,by rw[La];omega⟩ ?_ ?_
  ·rw[z4u,La]
   exact Ent.refl
  rintro⟨k,V2⟩ ⟨hk1,hk2⟩;simp only at hk1 hk2 ⊢;rcases An k n with hkn|hkn
  ·have hF:=zav d (n:=n) (by omega) hrl hl hcyc ho (4096-cumW d.rules n k) k k [] V2 (wayD d.rules n k) (by omega) hkn hkn (by simp;omega) (by rw[show wayD d.rules n k k=[] by simp[wayD]];simp)
   have hWl:(wayL d.rules n k []).length=(Kz d.rules n k).length:=by rw[wayL,AM]
   have hcs:=Jy d.rules n k;have hcm:=Oz d.rules n (show k+1<=n by omega);rw[hWl] at hF;obtain⟨D1,hD1⟩:∃D1,D1=setD (wayD d.rules n k) k (wayD d.rules n k k++List.take (4096-cumW d.rules n k) (wayL d.rules n k [])):=⟨_,rfl⟩;rw[<-hD1] at hF;have hFa:=Vk (xs:=[.ptr 0 1 0 0,.int .i64 k,.int .i64 k,.nilS]) hF ⟨HN _ _,HN _ _,HN _ _,⟨by decide,rfl⟩,rfl⟩;refine W_T ?_;(with_reducible repeat'(first|(simp(disch:=omega)only[push_cast,↓zz,seval])|refine Aa ?_ ?_|(first|refine Ac ?_ ?_|refine Ab ?_ ?_)<;>intro hc<;>(try simp only[push_cast] at hc)|omega|intro _));refine T8 (extra:=[]) (A8 _).symm hFa ?_ (Gg _ _ _ _ _) ?_
   ·rw[FY]
    exact⟨(show 0<n+2 by omega),trivial,trivial,trivial,trivial⟩
   rintro y H' ⟨V3,rfl,rfl⟩;refine⟨_,rfl,by rw[FY,FY],trivial,λG hG=>?_,?_⟩
   ·have:=Gg _ _ _ _ _ G hG
    rw[FY] at this ⊢;exact this
   by_cases hfit:(Kz d.rules n k).length<=4096-cumW d.rules n k
   ·rw[Ba hfit]
    have hD2:D1=wayD d.rules n (k+1):=by rw[hD1,Ar (by omega),z4v]
    have hL2:4096-cumW d.rules n k-(Kz d.rules n k).length=4096-cumW d.rules n (k+1):=by omega
    rw[hD2,hL2];(with_reducible repeat'(first|(simp(disch:=omega)only[push_cast,↓zz,seval])|refine Aa ?_ ?_|(first|refine Ac ?_ ?_|refine Ab ?_ ?_)<;>intro hc<;>(try simp only[push_cast] at hc)|omega|intro _));refine⟨(k+1,V3),Eu (gar:=[]) _ (A8 _).symm (AD _) (Gg _ _ _ _ _) ?_,⟨by omega,by simp only;omega⟩,by simp only;omega⟩;rw[FY];exact⟨rfl,(show 0<n+2 by omega),rfl,trivial,rfl,trivial,trivial⟩
   ·rw[By hfit]
    have:¬cumW d.rules n n<=4096:=by omega
    rw[z4w,Ah this];(with_reducible repeat'(first|(simp(disch:=omega)only[push_cast,↓zz,seval])|refine Aa ?_ ?_|(first|refine Ac ?_ ?_|refine Ab ?_ ?_)<;>intro hc<;>(try simp only[push_cast] at hc)|omega|intro _))
  ·obtain rfl:k=n:=by omega
   rw[z4w,Ai hk2];refine Jr (Vj d k (4096-cumW d.rules k k) V2 _) ?_;rw[zlb];unfold fbV;have pW:AT (fD 2 wayV k λs=>wayL d.rules k s [])=true:=E9 HC;refine W_T ?_;(with_reducible repeat'(first|(simp(disch:=omega)only[push_cast,↓zz,seval,pW])|refine Aa ?_ ?_|(first|refine Ac ?_ ?_|refine Ab ?_ ?_)<;>intro hc<;>(try simp only[push_cast] at hc)|omega|intro _))
   all_goals trace_state
set_option maxRecDepth 100000
theorem Vl(d:Desc)(hf:GB d)(h:¬Ew d=0):PC Tryz.prog 44 [Dm d] (.tup [.nilS,.int .i64 2]):=by
 have hC:=JP d hf;have pR:=B8 d.rules;have pFi:=B6 d.finals;generalize Ew d=c at *;refine BV JY ?_;unfold HZ;(with_reducible repeat'(first|(simp(disch:=omega)only[push_cast,↓zz,seval,pR,pFi,h])|refine Aa ?_ ?_|(first|refine Ac ?_ ?_|refine Ab ?_ ?_)<;>intro hc<;>(try simp only[push_cast] at hc)|refine eK hC ?_|refine eQ hC ?_|refine eG hC ?_|((first|refine cK hC ?_|refine cQ hC ?_|refine cG hC ?_);(simp(disch:=omega)only[push_cast,↓zz,seval,pR,pFi,h]);(fail_if_success change False))|omega|intro _))
 all_goals trace_state
theorem Xw(d:Desc)(hf:GB d)(h:Ew d=0){n:Nat}(hn:d.states=n)(hcyc:¬cycP d.rules n):PC Tryz.prog 17 [Dm d] (if cumW d.rules n n<=4096 then .tup [.int .i64 (cumW d.rules n n),.int .i64 0] else .tup [.int .i64 0,.int .i64 4]):=by
 have hF:=Xv d hf h hn hcyc;have hnn:1<=n/\n<=1024:=by obtain⟨m,h1,h2,h3⟩:=(O2 h).n;omega
 have pR:=B8 d.rules;have pFi:=B6 d.finals;have pW:AT (fD 2 wayV n λs=>wayL d.rules n s [])=true:=E9 HC;have lW:(fD 2 wayV n λs=>wayL d.rules n s []).length=n:=Lb;refine BV ON ?_;unfold JX;rw[z4w] at hF;by_cases hfit:cumW d.rules n n<=4096
 ·rw[Ai hfit] at hF ⊢
  (with_reducible repeat'(first|(simp(disch:=omega)only[push_cast,↓zz,seval,pR,pFi,pW,lW])|refine Aa ?_ ?_|(first|refine Ac ?_ ?_|refine Ab ?_ ?_)<;>intro hc<;>(try simp only[push_cast] at hc)|refine eK hF ?_|refine eQ hF ?_|refine eG hF ?_|((first|refine cK hF ?_|refine cQ hF ?_|refine cG hF ?_);(simp(disch:=omega)only[push_cast,↓zz,seval,pR,pFi,pW,lW]);(fail_if_success change False))|omega|intro _))
  refine B4 (BK (λ(k:Nat)=>k<=n) (λk=>n-k)
   (λk=>[(5,.int .i64 0),(6,.int .i64 (cumW d.rules n k)),(14,.lst 1 (fD 2 wayV n λs=>wayL d.rules n s [])),(15,.int .i64 n),(16,.int .i64 k)]) (λ_=>[]) (λ_ _=>[]) 0 (by simp) ?_ ?_)
  ·(with_reducible repeat'(first|(simp(disch:=omega)only[push_cast,↓zz,seval,pW,lW,La])|refine Aa ?_ ?_|(first|refine Ac ?_ ?_|refine Ab ?_ ?_)<;>intro hc<;>(try simp only[push_cast] at hc)|omega|intro _))
  intro k hk;rcases An k n with hkn|hkn
  ·have aK:(fD 2 wayV n λs=>wayL d.rules n s []).getD k .any=.lst 2 ((wayL d.rules n k []).map wayV):=Rt hkn
   have aK2:(fD 2 wayV n λs=>wayL d.rules n s [])[k]? = some (.lst 2 ((wayL d.rules n k []).map wayV)):=Lc hkn;have hWl:(wayL d.rules n k []).length=(Kz d.rules n k).length:=by rw[wayL,AM]
   have hcs:=Jy d.rules n k;have hcm:=Oz d.rules n (show k+1<=n by omega);have pWk:AT ((wayL d.rules n k []).map wayV)=true:=Dz HC _;generalize fD 2 wayV n (λs=>wayL d.rules n s [])=L at *;generalize wayL d.rules n k []=Wk at *;refine W_T ?_;(with_reducible repeat'(first|(simp(disch:=omega)only[push_cast,↓zz,seval,pW,lW,aK,aK2,hWl,pWk])|refine Aa ?_ ?_|(first|refine Ac ?_ ?_|refine Ab ?_ ?_)<;>intro hc<;>(try simp only[push_cast] at hc)|omega|intro _))
   all_goals
    refine⟨k+1,?_⟩;(with_reducible repeat'(first|(simp(disch:=omega)only[push_cast,↓zz,seval,hcs,pW])|refine Aa ?_ ?_|(first|refine Ac ?_ ?_|refine Ab ?_ ?_)<;>intro hc<;>(try simp only[push_cast] at hc)|omega|intro _))
  ·obtain rfl:k=n:=by omega
   refine W_T ?_;(with_reducible repeat'(first|(simp(disch:=omega)only[push_cast,↓zz,seval,pW,lW])|refine Aa ?_ ?_|(first|refine Ac ?_ ?_|refine Ab ?_ ?_)<;>intro hc<;>(try simp only[push_cast] at hc)|omega|intro _))
 ·rw[Ah hfit] at hF ⊢
  (with_reducible repeat'(first|(simp(disch:=omega)only[push_cast,↓zz,seval,pR,pFi])|refine Aa ?_ ?_|(first|refine Ac ?_ ?_|refine Ab ?_ ?_)<;>intro hc<;>(try simp only[push_cast] at hc)|refine eK hF ?_|refine eQ hF ?_|refine eG hF ?_|((first|refine cK hF ?_|refine cQ hF ?_|refine cG hF ?_);(simp(disch:=omega)only[push_cast,↓zz,seval,pR,pFi]);(fail_if_success change False))|omega|intro _));refine BW 1 ?_;(with_reducible repeat'(first|(simp(disch:=omega)only[push_cast,↓zz,seval])|refine Aa ?_ ?_|(first|refine Ac ?_ ?_|refine Ab ?_ ?_)<;>intro hc<;>(try simp only[push_cast] at hc)|omega|intro _))
  all_goals trace_state
theorem Qd(gs:List (List Span))(hl:gs.length<=1000000)(hg:∀g∈gs,g.length<=1000000):PC Tryz.prog 51 [Bs gs] (Bs gs):=by
 have hP:=AL gs;refine BV M2 ?_;unfold IU;(with_reducible repeat'(first|(simp(disch:=omega)only[push_cast,↓zz,seval])|refine Aa ?_ ?_|(first|refine Ac ?_ ?_|refine Ab ?_ ?_)<;>intro hc<;>(try simp only[push_cast] at hc)|omega|intro _))
 refine B4 (BK (λ(k:Nat)=>k<=gs.length) (λk=>gs.length-k)
  (λk=>[(3,.ref 0 1 0 k),(6,Bs gs),(7,.int .i64 gs.length),(8,.int .i64 k)]) (λk=>[⟨1,1,false,(gs.take k).map AY⟩]) (λenv _=>[C0 1 (env 3)]) 0 (by simp) ?_ ?_)
 ·(with_reducible repeat'(first|(simp(disch:=omega)only[push_cast,↓zz,seval,hP])|refine Aa ?_ ?_|(first|refine Ac ?_ ?_|refine Ab ?_ ?_)<;>intro hc<;>(try simp only[push_cast] at hc)|omega|intro _))
 intro k hk;have hpk:=AL (gs.take k);rcases An k gs.length with hkl|hkl
 ·have hC:=Va (nth gs k) (by have:=hg _ (B2 hkl);omega)
  have e1:(gs.take (k+1)).map AY=(gs.take k).map AY++[AY (nth gs k)]:=by rw[take_at hkl];simp
  have hlm:((gs.take k).map AY).length=k:=by simp;omega
  generalize hgl:(gs.take k).map AY=L at *;refine W_T ?_;(with_reducible repeat'(first|(simp(disch:=omega)only[push_cast,↓zz,seval,hP,hpk,hlm])|refine Aa ?_ ?_|(first|refine Ac ?_ ?_|refine Ab ?_ ?_)<;>intro hc<;>(try simp only[push_cast] at hc)|refine eK hC ?_|refine eQ hC ?_|refine eG hC ?_|((first|refine cK hC ?_|refine cQ hC ?_|refine cG hC ?_);(simp(disch:=omega)only[push_cast,↓zz,seval,hP,hpk,hlm]);(fail_if_success change False))|omega|intro _))
  all_goals
   refine⟨k+1,?_⟩;(with_reducible repeat'(first|(simp(disch:=omega)only[push_cast,↓zz,seval,e1])|refine Aa ?_ ?_|(first|refine Ac ?_ ?_|refine Ab ?_ ?_)<;>intro hc<;>(try simp only[push_cast] at hc)|omega|intro _))
 ·obtain rfl:k=gs.length:=by omega
  have et:List.take gs.length gs=gs:=Ar (by simp);rw[et] at hpk ⊢;refine W_T ?_;(with_reducible repeat'(first|(simp(disch:=omega)only[push_cast,↓zz,seval,hP,hpk,et])|refine Aa ?_ ?_|(first|refine Ac ?_ ?_|refine Ab ?_ ?_)<;>intro hc<;>(try simp only[push_cast] at hc)|omega|intro _))
  all_goals trace_state
theorem Qe(w:Int × List Term)(out:List Term)(hl:w.2.length+out.length<=1000000)(hg:∀t∈w.2++out,t.parts.length<=1000000):PC Tryz.prog 52 [wayV w,C9 out] (C9 (w.2++out)):=by
 have hC2:=Qb w.2 out (by omega);have pw:=B5 w.2;have po:=B5 out;obtain⟨l,hle⟩:∃l,l=w.2++out:=⟨_,rfl⟩;have hT:=B5 l;rw[<-hle] at hg hC2 ⊢;have hll:l.length<=1000000:=by rw[hle,Ak];exact hl
 clear hle;refine BV M3 ?_;unfold IV wayV;(with_reducible repeat'(first|(simp(disch:=omega)only[push_cast,↓zz,seval,pw,po,hT])|refine Aa ?_ ?_|(first|refine Ac ?_ ?_|refine Ab ?_ ?_)<;>intro hc<;>(try simp only[push_cast] at hc)|refine eK hC2 ?_|refine eQ hC2 ?_|refine eG hC2 ?_|((first|refine cK hC2 ?_|refine cQ hC2 ?_|refine cG hC2 ?_);(simp(disch:=omega)only[push_cast,↓zz,seval,pw,po,hT]);(fail_if_success change False))|omega|intro _))
 refine B4 (BK (λ(k:Nat)=>k<=l.length) (λk=>l.length-k)
  (λk=>[(5,.ref 0 1 0 k),(12,C9 l),(13,.int .i64 l.length),(14,.int .i64 k)]) (λk=>[⟨6,1,false,(l.take k).map Dv⟩]) (λenv _=>[C0 6 (env 5)]) 0 (by simp) ?_ ?_)
 ·(with_reducible repeat'(first|(simp(disch:=omega)only[push_cast,↓zz,seval,hT])|refine Aa ?_ ?_|(first|refine Ac ?_ ?_|refine Ab ?_ ?_)<;>intro hc<;>(try simp only[push_cast] at hc)|omega|intro _))
 intro k hk;have hpk:=B5 (l.take k);rcases An k l.length with hkl|hkl
 ·have hgt:=hg _ (B2 hkl)
  have e1:(l.take (k+1)).map Dv=(l.take k).map Dv++[Dv (nth l k)]:=by rw[take_at hkl];simp
  have hlm:((l.take k).map Dv).length=k:=by simp;omega
  generalize hte:nth l k=t at *;have hC:=UH t.parts (by omega);have hpp:=Io t.parts;generalize hgl:(l.take k).map Dv=L at *;refine W_T ?_;(with_reducible repeat'(first|(simp(disch:=omega)only[push_cast,↓zz,seval,hT,hpk,hlm,hte,hpp])|refine Aa ?_ ?_|(first|refine Ac ?_ ?_|refine Ab ?_ ?_)<;>intro hc<;>(try simp only[push_cast] at hc)|refine eK hC ?_|refine eQ hC ?_|refine eG hC ?_|((first|refine cK hC ?_|refine cQ hC ?_|refine cG hC ?_);(simp(disch:=omega)only[push_cast,↓zz,seval,hT,hpk,hlm,hte,hpp]);(fail_if_success change False))|omega|intro _))
  all_goals
   refine⟨k+1,?_⟩;(with_reducible repeat'(first|(simp(disch:=omega)only[push_cast,↓zz,seval,e1])|refine Aa ?_ ?_|(first|refine Ac ?_ ?_|refine Ab ?_ ?_)<;>intro hc<;>(try simp only[push_cast] at hc)|omega|intro _))
 ·obtain rfl:k=l.length:=by omega
  have et:List.take l.length l=l:=Ar (by simp);rw[et] at hpk ⊢;refine W_T ?_;(with_reducible repeat'(first|(simp(disch:=omega)only[push_cast,↓zz,seval,hT,hpk,et])|refine Aa ?_ ?_|(first|refine Ac ?_ ?_|refine Ab ?_ ?_)<;>intro hc<;>(try simp only[push_cast] at hc)|omega|intro _))
  all_goals trace_state
set_option maxRecDepth 100000
theorem z4x{α:Type}{w:Nat}{e:α->AV}{m b:Nat}{env:Env}{l:List Grp}{t v o n:Nat}{V:Nat->Nat}{D:Nat->List α}(i:Nat)(hw:0<w)(he:∀x,(e x).pure=true)(hi:env i=.ref t v 0 n)(h1:(Abs.hl l).at_ t=⟨1,v,true,fT o n V D⟩)(h2:∀i,i<n->(Abs.hl l).at_ (i+o)=gG w e (V i) (D i)):
 Ent m b env (Abs.hl l) (env.put (some i) (.lst 1 (fD w e n D))) (Abs.hl (Fv 0 (fKs t o n) l)):=by
 obtain⟨f1,f2⟩:=O0 hw he h1 h2;rw[<-hi] at f1 f2;have:=UK (n:=m) (b:=b) i 2 (fKs t o n) f1;rw[f2] at this;refine this.trans (Om (by simp[A7.kill,hl_n,GZ]) λg hg=>?_);rw[DT,JG 0 (fKs t o n) l g hg,Bn];rfl
theorem IM(r:Rule):(D6 r).pure=true:=by simp[D6,AV.pure,AT,AL,B5]
theorem IN(r:Es):(CB r).pure=true:=by simp[CB,AV.pure,AT,AL,B5]
def ruF(l:List Rule)(s:Nat):List Rule:=l.filter λr=>!Cy r&&decide (r.from_=(s:Int))
theorem zh5{l:List Rule}{k i:Nat}(hk:k<l.length)(he:(λr:Rule=>!Cy r) (nth l k)=true)(hi:(nth l k).from_=i):ruF (l.take (k+1))=setD (ruF (l.take k)) i (ruF (l.take k) i++[nth l k]):=by
 funext s;simp only at he;rw[take_at hk];simp only[ruF,BM,BH,List.filter_nil,he,Ax,hi,Aj,setD];by_cases e:s=i
 ·subst e;simp
 ·rw[Ah (by omega),Ah e];simp
theorem zlc{l:List Rule}{k:Nat}(hk:k<l.length)(he:(λr:Rule=>!Cy r) (nth l k)=false):ruF (l.take (k+1))=ruF (l.take k):=by
 funext s;simp only at he;rw[take_at hk];simp[ruF,BM,he]
theorem z4y(l:List Rule)(k s:Nat):(ruF (l.take k) s).length<=k:=by
 have h1:=B7 (λr:Rule=>!Cy r&&decide (r.from_=(s:Int))) (l.take k);rw[Db] at h1;simp only[ruF];omega
theorem zld(r:Rule):PC Tryz.prog 48 [D6 r] (.tup [.int .i64 r.from_,.bool ((λr:Rule=>!Cy r) r)]):=by
 have hgr:=AL r.guards;have hot:=B5 r.out;refine BV M0 ?_;unfold IS;have eE:(decide ((0:Int)<r.guards.length))=!Cy r:=by rw[Cy,<-decide_not];exact DC.2 (by omega)
 (with_reducible repeat'(first|(simp(disch:=omega)only[push_cast,↓zz,seval,hgr,hot,eE])|refine Aa ?_ ?_|(first|refine Ac ?_ ?_|refine Ab ?_ ?_)<;>intro hc<;>(try simp only[push_cast] at hc)|omega|intro _))
 all_goals trace_state
def ruFL(l:List Rule)(n k:Nat)(V:Nat->Nat):List Grp:=⟨1,1,true,fT 1 n V (ruF (l.take k))⟩::fF 5 D6 n V (ruF (l.take k))
theorem Rz(l:List Rule)(n k:Nat)(V:Nat->Nat):(ruFL l n k V).length=n+1:=by simp[ruFL,He]
theorem O3(l:List Rule)(n k:Nat)(V:Nat->Nat):∀G∈ruFL l n k V,ltL (ruFL l n k V).length G.xs:=λG hG=>by
 rw[Rz];simp only[ruFL,Ag] at hG;rcases hG with rfl|hG
 ·exact PW (by omega)
 ·exact PX IM G hG
theorem zh6(l:List Rule){n:Nat}(hn:n<=1024)(hll:l.length<=4096)(hl:∀r∈l,0<=r.from_/\r.from_<n):PC Tryz.prog 47 [.int .i64 n,.lst 5 (l.map D6),.fn 48 []] (.lst 1 (fD 5 D6 n (ruF l))):=by
 have hP:AT (l.map D6)=true:=Dz IM l;have pN:=FZ n;refine z4r HI (W_T ?_);unfold Gi;(with_reducible repeat'(first|(simp(disch:=omega)only[push_cast,↓zz,seval,hP])|refine Aa ?_ ?_|(first|refine Ac ?_ ?_|refine Ab ?_ ?_)<;>intro hc<;>(try simp only[push_cast] at hc)|omega|intro _));refine B4 (Jr ((JK [(2,.fn 48 []),(7,.ref 0 1 0 n),(14,.lst 5 (l.map D6)),(15,.int .i64 l.length),(16,.int .i64 0)] λp hp=>?_).trans (LL (α:=Rule) (w:=5) (e:=D6) (n:=n) (t:=0) (by decide) (by simp) rfl)) ?_)
 ·simp only[Ag,Am,A5] at hp
  rcases hp with rfl|rfl|rfl|rfl|rfl<;>rfl
 refine Hi (λ(q:Nat × (Nat->Nat))=>q.1<=l.length) (λq=>l.length-q.1)
  (λq=>E4 [(2,.fn 48 []),(7,.ref 0 1 0 n),(14,.lst 5 (l.map D6)),(15,.int .i64 l.length),(16,.int .i64 q.1)]) (λq=>Abs.hl (ruFL l n q.1 q.2)) (0,λ_=>1) (by simp) Ent.refl ?_
 rintro⟨k,V⟩ hk;simp only at hk ⊢;rcases An k l.length with hkl|hkl
 ·have hr:=hl _ (B2 hkl)
  have aK:(l.map D6).getD k .any=D6 (nth l k):=by simp[nth,List.getD,hkl]
  have hyes:=λi=>zh5 (k:=k) (i:=i) hkl;have hno:=zlc (k:=k) hkl;have hof:=zld (nth l k);have hpr:=IM (nth l k);generalize hre:nth l k=r at *;have hgr:=AL r.guards;have hot:=B5 r.out;obtain⟨i,hi⟩:∃i:Nat,r.from_=i:=⟨r.from_.toNat,by omega⟩;have hin:i<n:=by omega
  have hFl:(fF 5 D6 n V (ruF (l.take k))).length=n:=He;have hTl:(fT 1 n V (ruF (l.take k))).length=n:=PT;have gI:∀G,(fF 5 D6 n V (ruF (l.take k))++[G]).getD i default=gG 5 D6 (V i) (ruF (l.take k) i):=λG=>by rw[T5 hFl hin];exact M8 hin
  have gR:∀G,(fF 5 D6 n V (ruF (l.take k))++[G]).getD n default=G:=λG=>by rw[GC hFl];rfl
  have sR:∀G G',setQ (fF 5 D6 n V (ruF (l.take k))++[G]) n G'=some (fF 5 D6 n V (ruF (l.take k))++[G']):=λG G'=>by rw[I2 _ _ hFl];rfl
  have tI:(fT 1 n V (ruF (l.take k))).getD i .any=.ref (i+1) (V i) 0 (ruF (l.take k) i).length:=Z2 hin;have sI:∀G G',setQ (fF 5 D6 n V (ruF (l.take k))++[G]) i G'=some ((fF 5 D6 n V (ruF (l.take k))).set i G'++[G]):=λG G'=>LK (by omega);have gR2:∀G G',((fF 5 D6 n V (ruF (l.take k))).set i G'++[G]).getD n default=G:=λG G'=>by rw[GC (by rw[CV];exact hFl)];rfl
  have hSB:∀R G,Dd 1 [i+1] (fF 5 D6 n V (ruF (l.take k))++[R]) ((fF 5 D6 n V (ruF (l.take k))).set i G++[R]):=λR G=>Ld (by omega) (by simp;omega);have hEx:=Vg (e:=D6) (ruF (l.take k) i);have hel:=z4y l k i
  have eT:(fT 1 n V (ruF (l.take k))).set i (.ref (i+1) (V i+1) 0 ((ruF (l.take k) i).length+1))=fT 1 n (setV V i (V i+1)) (setD (ruF (l.take k)) i (ruF (l.take k) i++[r])):=by
   have:=PU (o:=1) (V:=V) (D:=ruF (l.take k)) (l:=ruF (l.take k) i++[r]) hin
   rwa [Ak] at this
  have eF:(fF 5 D6 n V (ruF (l.take k))).set i ⟨5,V i+1,false,(ruF (l.take k) i).map D6++[D6 r]⟩=fF 5 D6 n (setV V i (V i+1)) (setD (ruF (l.take k)) i (ruF (l.take k) i++[r])):=by
   have:=PV (V:=V) (D:=ruF (l.take k)) (w:=5) (e:=D6) (l:=ruF (l.take k) i++[r]) (by simp) hin;rw[A9] at this;exact this
  have hRv:ltV (n+1) (.lst 5 (l.map D6)):=Ce _ _ hP;rw[ruFL];have hni:¬n=i:=by omega
  simp only[gG] at gI;obtain⟨bb,hbb⟩:∃bb,bb=(λr:Rule=>!Cy r) r:=⟨_,rfl⟩;rw[<-hbb] at hof hyes hno;refine W_T ?_;cases bb with
  |true =>
   (with_reducible repeat'(first|(simp(disch:=omega)only[push_cast,↓zz,seval,xx,Ag,Am,A5,Bg,B9,Ay,B0,Bz,hP,aK,hre,hi,hgr,hot,hFl,hTl,gI,gR,sR,tI,sI,gR2,hEx,hni])|refine Aa ?_ ?_|(first|refine Ac ?_ ?_|refine Ab ?_ ?_)<;>intro hc<;>(try simp only[push_cast] at hc)|refine eK hof ?_|refine eQ hof ?_|refine eG hof ?_|refine De [i+1] ?_|((first|refine cK hof ?_|refine cQ hof ?_|refine cG hof ?_);(simp(disch:=omega)only[push_cast,↓zz,seval,xx,Ag,Am,A5,Bg,B9,Ay,B0,Bz,hP,aK,hre,hi,hgr,hot,hFl,hTl,gI,gR,sR,tI,sI,gR2,hEx,hni]);(fail_if_success change False))|omega|intro _))
   ·exact hSB _ _
   ·refine⟨(k+1,setV V i (V i+1)),Eu (gar:=[⟨5,1,true,[.agg [.int .i64 i,.int .i64 r.to_,Bs r.guards,.int .i64 r.eat,C9 r.out]]⟩]) _ ?_ (AD _) (O3 _ _ _ _) ?_,by simp only;omega,by simp only;omega⟩
    ·rw[ruFL,hyes i rfl hi,<-eT,<-eF]
     simp only[D6,hi];rfl
    ·rw[Rz]
     exact⟨rfl,trivial,rfl,(show 0<n+1 by omega),rfl,hRv,rfl,trivial,rfl,trivial,trivial⟩
  |false =>
   (with_reducible repeat'(first|(simp(disch:=omega)only[push_cast,↓zz,seval,xx,Ag,Am,A5,Bg,B9,Ay,B0,Bz,hP,aK,hre,hi,hgr,hot,hFl,hTl,gI,gR,sR,tI,sI,gR2,hEx,hni])|refine Aa ?_ ?_|(first|refine Ac ?_ ?_|refine Ab ?_ ?_)<;>intro hc<;>(try simp only[push_cast] at hc)|refine eK hof ?_|refine eQ hof ?_|refine eG hof ?_|refine De [i+1] ?_|((first|refine cK hof ?_|refine cQ hof ?_|refine cG hof ?_);(simp(disch:=omega)only[push_cast,↓zz,seval,xx,Ag,Am,A5,Bg,B9,Ay,B0,Bz,hP,aK,hre,hi,hgr,hot,hFl,hTl,gI,gR,sR,tI,sI,gR2,hEx,hni]);(fail_if_success change False))|omega|intro _));refine⟨(k+1,V),Eu (gar:=[⟨5,1,true,[.agg [.int .i64 i,.int .i64 r.to_,Bs r.guards,.int .i64 r.eat,C9 r.out]]⟩]) _ ?_ (AD _) (O3 _ _ _ _) ?_,by simp only;omega,by simp only;omega⟩
   ·rw[ruFL,hno rfl]
    rfl
   ·rw[Rz]
    exact⟨rfl,trivial,rfl,(show 0<n+1 by omega),rfl,hRv,rfl,trivial,rfl,trivial,trivial⟩
 ·obtain rfl:k=l.length:=by omega
  have h1:(Abs.hl (ruFL l n l.length V)).at_ 0=⟨1,1,true,fT 1 n V (ruF (l.take l.length))⟩:=rfl
  have h2:∀i,i<n->(Abs.hl (ruFL l n l.length V)).at_ (i+1)=gG 5 D6 (V i) (ruF (l.take l.length) i):=λi hi=>by
   rw[ruFL,DT];simp only[C1];exact M8 hi
  refine Jr (z4x 7 (by decide) IM rfl h1 h2) ?_;rw[AH];have pW:AT (fD 5 D6 n (ruF l))=true:=E9 IM;refine W_T ?_;(with_reducible repeat'(first|(simp(disch:=omega)only[push_cast,↓zz,seval,hP,pW])|refine Aa ?_ ?_|(first|refine Ac ?_ ?_|refine Ab ?_ ?_)<;>intro hc<;>(try simp only[push_cast] at hc)|omega|intro _))
def fiF(l:List Es)(s:Nat):List Es:=l.filter λr=>true&&decide (r.from_=(s:Int))
theorem zh7{l:List Es}{k i:Nat}(hk:k<l.length)(he:(λr:Es=>true) (nth l k)=true)(hi:(nth l k).from_=i):fiF (l.take (k+1))=setD (fiF (l.take k)) i (fiF (l.take k) i++[nth l k]):=by
 funext s;simp only at he;rw[take_at hk];simp only[fiF,BM,BH,List.filter_nil,he,Ax,hi,Aj,setD];by_cases e:s=i
 ·subst e;simp
 ·rw[Ah (by omega),Ah e];simp
theorem zle{l:List Es}{k:Nat}(hk:k<l.length)(he:(λ_:Es=>true) (nth l k)=false):fiF (l.take (k+1))=fiF (l.take k):=by
 cases he
theorem z4z(l:List Es)(k s:Nat):(fiF (l.take k) s).length<=k:=by
 have h1:=B7 (λr:Es=>true&&decide (r.from_=(s:Int))) (l.take k);rw[Db] at h1;simp only[fiF];omega
theorem zlf(r:Es):PC Tryz.prog 50 [CB r] (.tup [.int .i64 r.from_,.bool ((λr:Es=>true) r)]):=by
 have hgr:=AL r.guards;have hot:=B5 r.out;refine BV M1 ?_;unfold IT;(with_reducible repeat'(first|(simp(disch:=omega)only[push_cast,↓zz,seval,hgr,hot])|refine Aa ?_ ?_|(first|refine Ac ?_ ?_|refine Ab ?_ ?_)<;>intro hc<;>(try simp only[push_cast] at hc)|omega|intro _))
 all_goals trace_state
def fiFL(l:List Es)(n k:Nat)(V:Nat->Nat):List Grp:=⟨1,1,true,fT 1 n V (fiF (l.take k))⟩::fF 3 CB n V (fiF (l.take k))
theorem R0(l:List Es)(n k:Nat)(V:Nat->Nat):(fiFL l n k V).length=n+1:=by simp[fiFL,He]
theorem O4(l:List Es)(n k:Nat)(V:Nat->Nat):∀G∈fiFL l n k V,ltL (fiFL l n k V).length G.xs:=λG hG=>by
 rw[R0];simp only[fiFL,Ag] at hG;rcases hG with rfl|hG
 ·exact PW (by omega)
 ·exact PX IN G hG
theorem zh8(l:List Es){n:Nat}(hn:n<=1024)(hll:l.length<=4096)(hl:∀r∈l,0<=r.from_/\r.from_<n):PC Tryz.prog 49 [.int .i64 n,.lst 3 (l.map CB),.fn 50 []] (.lst 1 (fD 3 CB n (fiF l))):=by
 have hP:AT (l.map CB)=true:=Dz IN l;have pN:=FZ n;refine z4r H6 (W_T ?_);unfold FT;(with_reducible repeat'(first|(simp(disch:=omega)only[push_cast,↓zz,seval,hP])|refine Aa ?_ ?_|(first|refine Ac ?_ ?_|refine Ab ?_ ?_)<;>intro hc<;>(try simp only[push_cast] at hc)|omega|intro _));refine B4 (Jr ((JK [(2,.fn 50 []),(7,.ref 0 1 0 n),(14,.lst 3 (l.map CB)),(15,.int .i64 l.length),(16,.int .i64 0)] λp hp=>?_).trans (LL (α:=Es) (w:=3) (e:=CB) (n:=n) (t:=0) (by decide) (by simp) rfl)) ?_)
 ·simp only[Ag,Am,A5] at hp
  rcases hp with rfl|rfl|rfl|rfl|rfl<;>rfl
 refine Hi (λ(q:Nat × (Nat->Nat))=>q.1<=l.length) (λq=>l.length-q.1)
  (λq=>E4 [(2,.fn 50 []),(7,.ref 0 1 0 n),(14,.lst 3 (l.map CB)),(15,.int .i64 l.length),(16,.int .i64 q.1)]) (λq=>Abs.hl (fiFL l n q.1 q.2)) (0,λ_=>1) (by simp) Ent.refl ?_
 rintro⟨k,V⟩ hk;simp only at hk ⊢;rcases An k l.length with hkl|hkl
 ·have hr:=hl _ (B2 hkl)
  have aK:(l.map CB).getD k .any=CB (nth l k):=by simp[nth,List.getD,hkl]
  have hyes:=λi=>zh7 (k:=k) (i:=i) hkl;have hno:=zle (k:=k) hkl;have hof:=zlf (nth l k);have hpr:=IN (nth l k);generalize hre:nth l k=r at *;have hgr:=AL r.guards;have hot:=B5 r.out;obtain⟨i,hi⟩:∃i:Nat,r.from_=i:=⟨r.from_.toNat,by omega⟩;have hin:i<n:=by omega
  have hFl:(fF 3 CB n V (fiF (l.take k))).length=n:=He;have hTl:(fT 1 n V (fiF (l.take k))).length=n:=PT;have gI:∀G,(fF 3 CB n V (fiF (l.take k))++[G]).getD i default=gG 3 CB (V i) (fiF (l.take k) i):=λG=>by rw[T5 hFl hin];exact M8 hin
  have gR:∀G,(fF 3 CB n V (fiF (l.take k))++[G]).getD n default=G:=λG=>by rw[GC hFl];rfl
  have sR:∀G G',setQ (fF 3 CB n V (fiF (l.take k))++[G]) n G'=some (fF 3 CB n V (fiF (l.take k))++[G']):=λG G'=>by rw[I2 _ _ hFl];rfl
  have tI:(fT 1 n V (fiF (l.take k))).getD i .any=.ref (i+1) (V i) 0 (fiF (l.take k) i).length:=Z2 hin;have sI:∀G G',setQ (fF 3 CB n V (fiF (l.take k))++[G]) i G'=some ((fF 3 CB n V (fiF (l.take k))).set i G'++[G]):=λG G'=>LK (by omega);have gR2:∀G G',((fF 3 CB n V (fiF (l.take k))).set i G'++[G]).getD n default=G:=λG G'=>by rw[GC (by rw[CV];exact hFl)];rfl
  have hSB:∀R G,Dd 1 [i+1] (fF 3 CB n V (fiF (l.take k))++[R]) ((fF 3 CB n V (fiF (l.take k))).set i G++[R]):=λR G=>Ld (by omega) (by simp;omega);have hEx:=Vg (e:=CB) (fiF (l.take k) i);have hel:=z4z l k i
  have eT:(fT 1 n V (fiF (l.take k))).set i (.ref (i+1) (V i+1) 0 ((fiF (l.take k) i).length+1))=fT 1 n (setV V i (V i+1)) (setD (fiF (l.take k)) i (fiF (l.take k) i++[r])):=by
   have:=PU (o:=1) (V:=V) (D:=fiF (l.take k)) (l:=fiF (l.take k) i++[r]) hin
   rwa [Ak] at this
  have eF:(fF 3 CB n V (fiF (l.take k))).set i ⟨3,V i+1,false,(fiF (l.take k) i).map CB++[CB r]⟩=fF 3 CB n (setV V i (V i+1)) (setD (fiF (l.take k)) i (fiF (l.take k) i++[r])):=by
   have:=PV (V:=V) (D:=fiF (l.take k)) (w:=3) (e:=CB) (l:=fiF (l.take k) i++[r]) (by simp) hin;rw[A9] at this;exact this
  have hRv:ltV (n+1) (.lst 3 (l.map CB)):=Ce _ _ hP;rw[fiFL];have hni:¬n=i:=by omega
  simp only[gG] at gI;obtain⟨bb,hbb⟩:∃bb,bb=(λr:Es=>true) r:=⟨_,rfl⟩;rw[<-hbb] at hof hyes hno;refine W_T ?_;cases bb with
  |true =>
   (with_reducible repeat'(first|(simp(disch:=omega)only[push_cast,↓zz,seval,xx,Ag,Am,A5,Bg,B9,Ay,B0,Bz,hP,aK,hre,hi,hgr,hot,hFl,hTl,gI,gR,sR,tI,sI,gR2,hEx,hni])|refine Aa ?_ ?_|(first|refine Ac ?_ ?_|refine Ab ?_ ?_)<;>intro hc<;>(try simp only[push_cast] at hc)|refine eK hof ?_|refine eQ hof ?_|refine eG hof ?_|refine De [i+1] ?_|((first|refine cK hof ?_|refine cQ hof ?_|refine cG hof ?_);(simp(disch:=omega)only[push_cast,↓zz,seval,xx,Ag,Am,A5,Bg,B9,Ay,B0,Bz,hP,aK,hre,hi,hgr,hot,hFl,hTl,gI,gR,sR,tI,sI,gR2,hEx,hni]);(fail_if_success change False))|omega|intro _))
   ·exact hSB _ _
   ·refine⟨(k+1,setV V i (V i+1)),Eu (gar:=[⟨3,1,true,[.agg [.int .i64 i,Bs r.guards,C9 r.out]]⟩]) _ ?_ (AD _) (O4 _ _ _ _) ?_,by simp only;omega,by simp only;omega⟩
    ·rw[fiFL,hyes i rfl hi,<-eT,<-eF]
     simp only[CB,hi];rfl
    ·rw[R0]
     exact⟨rfl,trivial,rfl,(show 0<n+1 by omega),rfl,hRv,rfl,trivial,rfl,trivial,trivial⟩
  |false =>
   (with_reducible repeat'(first|(simp(disch:=omega)only[push_cast,↓zz,seval,xx,Ag,Am,A5,Bg,B9,Ay,B0,Bz,hP,aK,hre,hi,hgr,hot,hFl,hTl,gI,gR,sR,tI,sI,gR2,hEx,hni])|refine Aa ?_ ?_|(first|refine Ac ?_ ?_|refine Ab ?_ ?_)<;>intro hc<;>(try simp only[push_cast] at hc)|refine eK hof ?_|refine eQ hof ?_|refine eG hof ?_|refine De [i+1] ?_|((first|refine cK hof ?_|refine cQ hof ?_|refine cG hof ?_);(simp(disch:=omega)only[push_cast,↓zz,seval,xx,Ag,Am,A5,Bg,B9,Ay,B0,Bz,hP,aK,hre,hi,hgr,hot,hFl,hTl,gI,gR,sR,tI,sI,gR2,hEx,hni]);(fail_if_success change False))|omega|intro _));refine⟨(k+1,V),Eu (gar:=[⟨3,1,true,[.agg [.int .i64 i,Bs r.guards,C9 r.out]]⟩]) _ ?_ (AD _) (O4 _ _ _ _) ?_,by simp only;omega,by simp only;omega⟩
   ·rw[fiFL,hno rfl]
    rfl
   ·rw[R0]
    exact⟨rfl,trivial,rfl,(show 0<n+1 by omega),rfl,hRv,rfl,trivial,rfl,trivial,trivial⟩
 ·obtain rfl:k=l.length:=by omega
  have h1:(Abs.hl (fiFL l n l.length V)).at_ 0=⟨1,1,true,fT 1 n V (fiF (l.take l.length))⟩:=rfl
  have h2:∀i,i<n->(Abs.hl (fiFL l n l.length V)).at_ (i+1)=gG 3 CB (V i) (fiF (l.take l.length) i):=λi hi=>by
   rw[fiFL,DT];simp only[C1];exact M8 hi
  refine Jr (z4x 7 (by decide) IN rfl h1 h2) ?_;rw[AH];have pW:AT (fD 3 CB n (fiF l))=true:=E9 IN;refine W_T ?_;(with_reducible repeat'(first|(simp(disch:=omega)only[push_cast,↓zz,seval,hP,pW])|refine Aa ?_ ?_|(first|refine Ac ?_ ?_|refine Ab ?_ ?_)<;>intro hc<;>(try simp only[push_cast] at hc)|omega|intro _))
  all_goals trace_state
def zlg(l:List Bool)(k:Nat):List Int:=((List.range k).filter λi=>nth l i).map λi:Nat=>(i:Int)
noncomputable def zlh (d:Desc):List Int:=zlg (comeL d) d.states.toNat
noncomputable def goesI (d:Desc):List Int:=zlg (goL d) d.states.toNat
end Go.Proofs.YtbcjoeadpjfcfaaGreat
namespace Go.Proofs.YtbcjoeadpjfcfaaGreat
open Abs
noncomputable def zay (d:Desc) (i:Nat):Bool:=Xu (fwdE d) [d.start] i&&Xu (bwdE d) (endE d) i
def cntB(u:Nat->Bool)(k:Nat):Nat:=((List.range k).filter u).length
def numB(u:Nat->Bool)(i:Nat):Int:=if u i=true then (cntB u i:Int) else -1
def keepR(u:Nat->Bool)(l:List Rule):List Rule:=(l.filter λr=>u r.from_.toNat&&u r.to_.toNat).map λr=>⟨numB u r.from_.toNat,numB u r.to_.toNat,r.guards,r.eat,r.out⟩
def keepF(u:Nat->Bool)(l:List Es):List Es:=(l.filter λf=>u f.from_.toNat).map λf=>⟨numB u f.from_.toNat,f.guards,f.out⟩
noncomputable def trimV (d:Desc):Desc :=
 if Xu (bwdE d) (endE d) d.start.toNat=false then zl8 d.in_ d.out
 else ⟨d.in_,d.out,cntB (zay d) d.states.toNat,numB (zay d) d.start.toNat,keepR (zay d) d.rules,keepF (zay d) d.finals⟩
theorem Lf(u:Nat->Bool)(k:Nat):cntB u (k+1)=if u k=true then cntB u k+1 else cntB u k:=by
 simp only[cntB,Cq,BM,Ak,BH,List.filter_nil];split<;>simp_all
abbrev Qf:AV:=.agg [.int .i64 0,.int .i64 0,.int .i64 0,.int .i64 0,.nilS,.nilS]
end Go.Proofs.YtbcjoeadpjfcfaaGreat
