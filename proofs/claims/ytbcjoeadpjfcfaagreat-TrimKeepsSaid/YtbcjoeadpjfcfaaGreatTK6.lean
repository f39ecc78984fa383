/-
  Parts of the proof that the law holds whatever the input; without conditions.
-/
import Derived.Test.YtbcjoeadpjfcfaaGreatTK5
import Derived.Test.YtbcjoeadpjfcfaaGreatTK3
import Derived.Test.YtbcjoeadpjfcfaaGreatTK4
set_option linter.unusedSimpArgs false
set_option linter.unusedVariables false
namespace Go.Proofs.YtbcjoeadpjfcfaaGreat
open Abs
def Nt:Int->List Span->Bool
 |_,[]=>true
 |last,s::l=>decide (s.lo<=s.hi/\-1073741824<=s.lo/\s.hi<=1073741824/\last+1<s.lo)&&Nt s.hi l
def VG(g:List Span):Bool:=Nt (-1073741826) g
theorem XN(g:List Span)(hl:g.length<=9223372036854775807):PC Tryz.prog 145 [AP g] (.bool (VG g)):=by
 refine BH RF ?_;unfold L1;(with_reducible repeat'(first|(simp(disch:=omega)only[push_cast,↓zz,seval])|refine Aa ?_ ?_|(first|refine Ac ?_ ?_|refine Ab ?_ ?_)<;>intro hc<;>(try simp only[push_cast] at hc)|omega|intro _))
 refine Bu (B5 (λ(s:Nat × Int)=>s.1<=g.length/\VG g=Nt s.2 (g.drop s.1)/\-1073741826<=s.2/\s.2<=1073741824) (λs=>g.length-s.1)
  (λs=>[(3,.int .i64 s.2),(6,AP g),(7,.int .i64 g.length),(8,.int .i64 s.1)]) (λs=>[]) (λ_ _=>[]) (0,-1073741826) ⟨by simp,rfl,by simp,by simp⟩ ?_ ?_)
 ·(with_reducible repeat'(first|(simp(disch:=omega)only[push_cast,↓zz,seval])|refine Aa ?_ ?_|(first|refine Ac ?_ ?_|refine Ab ?_ ?_)<;>intro hc<;>(try simp only[push_cast] at hc)|omega|intro _))
 rintro⟨k,last⟩ ⟨h1,h2,h3,h4⟩;simp only at h1 h2 h3 h4;rcases Am k g.length with hk|hk
 ·rw[drop_at hk,Nt] at h2
  generalize hxe:nth g k=x at *;have hw:IntKind.i64.wrap (last+1)=last+1:=IntWalk.i64_in _ (by omega);refine W_T ?_;(with_reducible repeat'(first|(simp(disch:=omega)only[push_cast,↓zz,seval,hw,hxe])|refine Aa ?_ ?_|(first|refine Ac ?_ ?_|refine Ab ?_ ?_)<;>intro hc<;>(try simp only[push_cast] at hc)|omega|intro _))
  all_goals first
   |(rw[h2,Cb (by omega),A5];done)
   |exact⟨(k+1,x.hi),⟨rfl,by push_cast⟩,⟨by simp only;omega,by rw[h2,BC (by omega),A6],by simp only;omega,by simp only;omega⟩,by simp only;omega⟩
 ·rw[Az hk,Nt] at h2
  refine W_T ?_;(with_reducible repeat'(first|(simp(disch:=omega)only[push_cast,↓zz,seval,h2])|refine Aa ?_ ?_|(first|refine Ac ?_ ?_|refine Ab ?_ ?_)<;>intro hc<;>(try simp only[push_cast] at hc)|omega|intro _))
  all_goals trace_state
def OI(i:Int)(g:List Span):Bool:=!decide ((g.length:Int)=0)&&(decide ((g.length:Int)<=64)&&(VG g&&decide (IK g (domL i)=[])))
def GH(i:Int)(gs:List (List Span)):Bool:=decide ((gs.length:Int)<=4)&&gs.all (OI i)
theorem Nu(i:Int)(gs:List (List Span)):PC Tryz.prog 120 [.int .i64 i,Bg gs] (.bool (GH i gs)):=by
 have hP:=AO gs;have hD:=FB i;have hdl:=z0s i;refine BH PL ?_;unfold Kn;by_cases h4:4<gs.length
 ·rw[GH,Cb (by omega),A5]
  (with_reducible repeat'(first|(simp(disch:=omega)only[push_cast,↓zz,seval])|refine Aa ?_ ?_|(first|refine Ac ?_ ?_|refine Ab ?_ ?_)<;>intro hc<;>(try simp only[push_cast] at hc)|omega|intro _))
 rw[GH,BC (by omega),A6];(with_reducible repeat'(first|(simp(disch:=omega)only[push_cast,↓zz,seval])|refine Aa ?_ ?_|(first|refine Ac ?_ ?_|refine Ab ?_ ?_)<;>intro hc<;>(try simp only[push_cast] at hc)|refine eK hD ?_|refine eQ hD ?_|refine eG hD ?_|((first|refine cK hD ?_|refine cQ hD ?_|refine cG hD ?_);(simp(disch:=omega)only[push_cast,↓zz,seval]);(fail_if_success change False))|omega|intro _))
 refine Bu (B5 (λ(k:Nat)=>k<=gs.length/\gs.all (OI i)=(gs.drop k).all (OI i)) (λk=>gs.length-k)
  (λk=>[(5,AP (domL i)),(13,Bg gs),(14,.int .i64 gs.length),(15,.int .i64 k)]) (λs=>[]) (λ_ _=>[]) 0 ⟨by simp,rfl⟩ ?_ ?_)
 ·(with_reducible repeat'(first|(simp(disch:=omega)only[push_cast,↓zz,seval,hP])|refine Aa ?_ ?_|(first|refine Ac ?_ ?_|refine Ab ?_ ?_)<;>intro hc<;>(try simp only[push_cast] at hc)|omega|intro _))
 rintro k ⟨h1,h2⟩;rcases Am k gs.length with hk|hk
 ·rw[drop_at hk,List.all_cons,OI] at h2
  generalize hge:nth gs k=g at *;refine W_T ?_;by_cases hl:(g.length:Int)=0
  ·rw[BC hl,FD,A5,A5] at h2
   (with_reducible repeat'(first|(simp(disch:=omega)only[push_cast,↓zz,seval,hP,hge,h2])|refine Aa ?_ ?_|(first|refine Ac ?_ ?_|refine Ab ?_ ?_)<;>intro hc<;>(try simp only[push_cast] at hc)|omega|intro _))
  by_cases hl2:(g.length:Int)<=64
  ·rw[Cb hl,BC hl2,Fz,A6,A6] at h2
   have hW:=Ni g (domL i) (by omega) (by omega);have hC:=XN g (by omega);(with_reducible repeat'(first|(simp(disch:=omega)only[push_cast,↓zz,seval,hP,hge])|refine Aa ?_ ?_|(first|refine Ac ?_ ?_|refine Ab ?_ ?_)<;>intro hc<;>(try simp only[push_cast] at hc)|refine eK hC ?_|refine eQ hC ?_|refine eG hC ?_|refine eK hW ?_|refine eQ hW ?_|refine eG hW ?_|((first|refine cK hC ?_|refine cQ hC ?_|refine cG hC ?_|refine cK hW ?_|refine cQ hW ?_|refine cG hW ?_);(simp(disch:=omega)only[push_cast,↓zz,seval,hP,hge]);(fail_if_success change False))|omega|intro _))
   all_goals first
    |(rw[h2];simp[*];done)
    |exact⟨k+1,by push_cast,⟨by omega,by rw[h2];simp[*]⟩,by omega⟩
  ·rw[Cb hl2,A5,Dj,A5] at h2
   (with_reducible repeat'(first|(simp(disch:=omega)only[push_cast,↓zz,seval,hP,hge,h2])|refine Aa ?_ ?_|(first|refine Ac ?_ ?_|refine Ab ?_ ?_)<;>intro hc<;>(try simp only[push_cast] at hc)|omega|intro _))
 ·rw[Az hk,List.all_nil] at h2
  refine W_T ?_;(with_reducible repeat'(first|(simp(disch:=omega)only[push_cast,↓zz,seval,hP,h2])|refine Aa ?_ ?_|(first|refine Ac ?_ ?_|refine Ab ?_ ?_)<;>intro hc<;>(try simp only[push_cast] at hc)|omega|intro _))
  all_goals trace_state
def J4(d:Desc)(s:Int):Bool:=decide (0<=s)&&decide (s<d.states)
theorem Jl(d:Desc)(s:Int):PC Tryz.prog 119 [Dh d,.int .i64 s] (.bool (J4 d s)):=by
 refine BH R8 ?_;unfold Lv J4;(with_reducible repeat'(first|(simp(disch:=omega)only[push_cast,↓zz,seval])|refine Aa ?_ ?_|(first|refine Ac ?_ ?_|refine Ab ?_ ?_)<;>intro hc<;>(try simp only[push_cast] at hc)|omega|intro _))
 all_goals simp only[*,Bb,AM,A6,A5]
def NO(d:Desc):Bool:=decide (0<((domL d.in_).length:Int))&&(decide (0<((domL d.out).length:Int))&&(decide (1<=d.states)&&(decide (d.states<=1024)&&(J4 d d.start&&(decide ((d.rules.length:Int)<=4096)&&decide ((d.finals.length:Int)<=4096))))))
theorem z0u(d:Desc):PC Tryz.prog 117 [Dh d] (.bool (NO d)):=by
 have h1:=FB d.in_;have h2:=FB d.out;have h3:=Jl d d.start;refine BH Tr ?_;unfold MJ NO;(with_reducible repeat'(first|(simp(disch:=omega)only[push_cast,↓zz,seval])|refine Aa ?_ ?_|(first|refine Ac ?_ ?_|refine Ab ?_ ?_)<;>intro hc<;>(try simp only[push_cast] at hc)|refine eK h1 ?_|refine eQ h1 ?_|refine eG h1 ?_|refine eK h2 ?_|refine eQ h2 ?_|refine eG h2 ?_|refine eK h3 ?_|refine eQ h3 ?_|refine eG h3 ?_|((first|refine cK h1 ?_|refine cQ h1 ?_|refine cG h1 ?_|refine cK h2 ?_|refine cQ h2 ?_|refine cG h2 ?_|refine cK h3 ?_|refine cQ h3 ?_|refine cG h3 ?_);(simp(disch:=omega)only[push_cast,↓zz,seval]);(fail_if_success change False))|omega|intro _))
 all_goals simp only[*,Bb,AM,A6,A5]
 all_goals trace_state
def IL(d:Desc)(out:List Term)(gs:List (List Span)):Bool:=decide ((out.length:Int)<=64)&&out.all λt=>XM t d.in_ d.out gs
theorem Nv(d:Desc)(out:List Term)(gs:List (List Span))(ho:∀t∈out,t.parts.length<1000000000000)(hg:∀g∈gs,g.length<=1000000)(hl:gs.length<=9223372036854775807):
 PC Tryz.prog 121 [Dh d,E5 out,Bg gs] (.bool (IL d out gs)):=by
 have hP:=AO gs;have hT:=Co out;refine BH PM ?_;unfold Ko;by_cases h4:64<out.length
 ·rw[IL,Cb (by omega),A5]
  (with_reducible repeat'(first|(simp(disch:=omega)only[push_cast,↓zz,seval])|refine Aa ?_ ?_|(first|refine Ac ?_ ?_|refine Ab ?_ ?_)<;>intro hc<;>(try simp only[push_cast] at hc)|omega|intro _))
 rw[IL,BC (by omega),A6];(with_reducible repeat'(first|(simp(disch:=omega)only[push_cast,↓zz,seval])|refine Aa ?_ ?_|(first|refine Ac ?_ ?_|refine Ab ?_ ?_)<;>intro hc<;>(try simp only[push_cast] at hc)|omega|intro _))
 refine Bu (B5 (λ(k:Nat)=>k<=out.length/\(out.all λt=>XM t d.in_ d.out gs)=(out.drop k).all λt=>XM t d.in_ d.out gs) (λk=>out.length-k)
  (λk=>[(2,Bg gs),(3,.ptr 0 1 0 0),(12,E5 out),(13,.int .i64 out.length),(14,.int .i64 k)]) (λs=>[⟨6,1,true,[Dh d]⟩]) (λenv _=>[Cc 1 (env 3)]) 0 ⟨by simp,rfl⟩ ?_ ?_)
 ·(with_reducible repeat'(first|(simp(disch:=omega)only[push_cast,↓zz,seval,hP,hT])|refine Aa ?_ ?_|(first|refine Ac ?_ ?_|refine Ab ?_ ?_)<;>intro hc<;>(try simp only[push_cast] at hc)|omega|intro _))
 rintro k ⟨h1,h2⟩;rcases Am k out.length with hk|hk
 ·rw[drop_at hk,List.all_cons] at h2
  have hF:=z0t (nth out k) d.in_ d.out gs (ho _ (BA hk)) hg hl;refine W_T ?_;(with_reducible repeat'(first|(simp(disch:=omega)only[push_cast,↓zz,seval,hP,hT])|refine Aa ?_ ?_|(first|refine Ac ?_ ?_|refine Ab ?_ ?_)<;>intro hc<;>(try simp only[push_cast] at hc)|refine eK hF ?_|refine eQ hF ?_|refine eG hF ?_|((first|refine cK hF ?_|refine cQ hF ?_|refine cG hF ?_);(simp(disch:=omega)only[push_cast,↓zz,seval,hP,hT]);(fail_if_success change False))|omega|intro _))
  all_goals first
   |(rw[h2];simp[*];done)
   |exact⟨k+1,by push_cast,⟨by omega,by rw[h2];simp[*]⟩,by omega⟩
 ·rw[Az hk,List.all_nil] at h2
  refine W_T ?_;(with_reducible repeat'(first|(simp(disch:=omega)only[push_cast,↓zz,seval,hP,hT,h2])|refine Aa ?_ ?_|(first|refine Ac ?_ ?_|refine Ab ?_ ?_)<;>intro hc<;>(try simp only[push_cast] at hc)|omega|intro _))
  all_goals trace_state
def eatB(n e:Int):Bool:=!decide (e<min n 1)&&!decide (n<e)
def Io(d:Desc)(r:Rule):Bool:=J4 d r.from_&&(J4 d r.to_&&(GH d.in_ r.guards&&(eatB r.guards.length r.eat&&IL d r.out r.guards)))
theorem G9{i:Int}{gs:List (List Span)}(h:GH i gs=true):gs.length<=4/\∀g∈gs,g.length<=64:=by
 simp only[GH,Ad,Ak] at h;refine⟨by omega,λg hg=>?_⟩;have:=B0.1 h.2 g hg;simp only[OI,Ad,Ak] at this;omega
theorem z0v(d:Desc)(r:Rule)(ho:∀t∈r.out,t.parts.length<1000000000000):PC Tryz.prog 118 [Dh d,PD r] (.bool (Io d r)):=by
 have h1:=Jl d r.from_;have h2:=Jl d r.to_;have h3:=Nu d.in_ r.guards;have hP:=AO r.guards;have hT:=Co r.out;refine BH Ts ?_;unfold MK Io eatB;cases hg:GH d.in_ r.guards with
 |false =>
  rw[hg] at h3;(with_reducible repeat'(first|(simp(disch:=omega)only[push_cast,↓zz,seval,hP,hT])|refine Aa ?_ ?_|(first|refine Ac ?_ ?_|refine Ab ?_ ?_)<;>intro hc<;>(try simp only[push_cast] at hc)|refine eK h1 ?_|refine eQ h1 ?_|refine eG h1 ?_|refine eK h2 ?_|refine eQ h2 ?_|refine eG h2 ?_|refine eK h3 ?_|refine eQ h3 ?_|refine eG h3 ?_|((first|refine cK h1 ?_|refine cQ h1 ?_|refine cG h1 ?_|refine cK h2 ?_|refine cQ h2 ?_|refine cG h2 ?_|refine cK h3 ?_|refine cQ h3 ?_|refine cG h3 ?_);(simp(disch:=omega)only[push_cast,↓zz,seval,hP,hT]);(fail_if_success change False))|omega|intro _))
  all_goals simp only[*,Bb,AM,A6,A5,Dj]
 |true =>
  rw[hg] at h3;obtain⟨g1,g2⟩:=G9 hg;have h4:=Nv d r.out r.guards ho (λg hg=>by have:=g2 g hg;omega) (by omega);(with_reducible repeat'(first|(simp(disch:=omega)only[push_cast,↓zz,seval,hP,hT])|refine Aa ?_ ?_|(first|refine Ac ?_ ?_|refine Ab ?_ ?_)<;>intro hc<;>(try simp only[push_cast] at hc)|refine eK h1 ?_|refine eQ h1 ?_|refine eG h1 ?_|refine eK h2 ?_|refine eQ h2 ?_|refine eG h2 ?_|refine eK h3 ?_|refine eQ h3 ?_|refine eG h3 ?_|refine eK h4 ?_|refine eQ h4 ?_|refine eG h4 ?_|((first|refine cK h1 ?_|refine cQ h1 ?_|refine cG h1 ?_|refine cK h2 ?_|refine cQ h2 ?_|refine cG h2 ?_|refine cK h3 ?_|refine cQ h3 ?_|refine cG h3 ?_|refine cK h4 ?_|refine cQ h4 ?_|refine cG h4 ?_);(simp(disch:=omega)only[push_cast,↓zz,seval,hP,hT]);(fail_if_success change False))|omega|intro _))
  all_goals simp only[*,Bb,AM,A6,A5,Dj,FD,Fz,Gv]
  all_goals trace_state
abbrev TQ(v:Nat)(l:List Int):Grp:=⟨1,v,l.isEmpty,l.map (AV.int .i64)⟩
def famF(n:Nat)(V:Nat->Nat)(D:Nat->List Int):List Grp:=(List.range n).map λi=>TQ (V i) (D i)
def famT(n:Nat)(V:Nat->Nat)(D:Nat->List Int):List AV:=(List.range n).map λi=>AV.ref (i+3) (V i) 0 (D i).length
def famI(n:Nat)(f:Nat->Int):List AV:=(List.range n).map λi=>AV.int .i64 (f i)
theorem DK{α:Type}{n i:Nat}{f:Nat->α}{x:α}(h:i<n):((List.range n).map f).set i x=(List.range n).map λj=>if j=i then x else f j:=by
 refine BF (by simp) λj h1 h2=>?_;simp only[Ey,Br,CJ] at h1;simp only[List.getElem_set,Em,D2];by_cases e:i=j
 ·rw[Ai e,Ai e.symm]
 ·rw[Ah e,Ah λh=>e h.symm]
theorem Ct{α:Type}{n i:Nat}{f:Nat->α}{z:α}(h:i<n):((List.range n).map f).getD i z=f i:=by simp[List.getD,h]
theorem Ip{ks:List Nat}{G:Grp}:∀{l:List Grp}{p i:Nat},p+i∈ks->Dd p ks l (l.set i G)
 |[],p,i,h=>trivial
 |a::l,p,0,h=>⟨.inl h,sameBut_refl⟩
 |a::l,p,i+1,h=>⟨.inr rfl,Ip (by rwa [show p+1+i=p+(i+1) by omega])⟩
where sameBut_refl {ks:List Nat}:∀{l:List Grp}{p:Nat},Dd p ks l l
 |[],p=>trivial
 |a::l,p=>⟨.inr rfl,sameBut_refl⟩
theorem Qg:∀(l:List Grp)(G G':Grp),setQ (l++[G]) l.length G'=some (l++[G'])
 |[],_,_=>rfl
 |a::l,G,G'=>by rw[List.cons_append,List.length_cons,setQ,Qg l G G'];rfl
theorem Qh:∀(l:List Grp)(G G':Grp){i:Nat},i<l.length->setQ (l++[G]) i G'=some (l.set i G'++[G])
 |[],_,_,i,h=>by simp at h
 |a::l,G,G',0,h=>rfl
 |a::l,G,G',i+1,h=>by rw[List.cons_append,setQ,Qh l G G' (by simpa using h)];rfl
def setV(V:Nat->Nat)(i v:Nat)(j:Nat):Nat:=if j=i then v else V j
structure CycOk(d:Desc):Prop where
 st:1<=d.states/\d.states<=1024
 len:d.rules.length<=4096
 rul:∀r∈d.rules,(0<=r.from_/\r.from_<d.states)/\0<=r.to_/\r.to_<d.states
def Nw(d:Desc)(k:Nat):Env:=Er [(1,.ptr 0 1 0 0),(3,.ref 1 1 0 d.states.toNat),(4,.ref 2 1 0 d.states.toNat),(21,F2 d.rules),(22,.int .i64 d.rules.length),(23,.int .i64 k)]
def EA(d:Desc)(k:Nat)(V:Nat->Nat):Aw:=Abs.hl (⟨6,1,true,[Dh d]⟩::⟨1,1,true,famT d.states.toNat V (toD (d.rules.take k))⟩::⟨1,1,true,famI d.states.toNat (inD (d.rules.take k))⟩::famF d.states.toNat V (toD (d.rules.take k)))
def cycL(d:Desc)(k:Nat)(V:Nat->Nat):List Grp:=⟨6,1,true,[Dh d]⟩::⟨1,1,true,famT d.states.toNat V (toD (d.rules.take k))⟩::⟨1,1,true,famI d.states.toNat (inD (d.rules.take k))⟩::famF d.states.toNat V (toD (d.rules.take k))
theorem OJ(d:Desc)(k:Nat)(V:Nat->Nat):EA d k V=Abs.hl (cycL d k V):=rfl
theorem Qi(d:Desc)(k:Nat)(V:Nat->Nat):(cycL d k V).length=d.states.toNat+3:=by simp[cycL,famF]
theorem HS(d:Desc):(Dh d).pure=true:=by simp[Dh,AV.pure,AY,BS,BI]
theorem TR(d:Desc)(k:Nat)(V:Nat->Nat):∀G∈cycL d k V,ltL (cycL d k V).length G.xs:=λG hG=>by
 rw[Qi];simp only[cycL,Ag] at hG;rcases hG with rfl|rfl|rfl|hG
 ·exact Dc _ _ (by simp[AY,HS])
 ·have key:∀(l:List Nat),(∀i∈l,i<d.states.toNat)->ltL (d.states.toNat+3) (l.map λi=>AV.ref (i+3) (V i) 0 (toD (d.rules.take k) i).length):=λl=>by
   induction l with
   |nil=>exact λ_=>trivial
   |cons i l ih =>
    intro h;exact⟨by have:=h i (by simp);show i+3<_;omega,ih λj hj=>h j (by simp[hj])⟩
  exact key _ λi hi=>by simpa using hi
 ·exact Dc _ _ (Cf.2 λx hx=>by
   obtain⟨i,_,rfl⟩:=As.1 hx
   rfl)
 ·obtain⟨i,_,rfl⟩:=As.1 hG
  exact Dc _ _ (BK .i64 _)
theorem z0w{d:Desc}{k:Nat}{V:Nat->Nat}{env:Env}{l gar:List Grp}(hn:1<=d.states)(hl':l=cycL d k V++gar)
 (h1:env 1=.ptr 0 1 0 0) (h3:env 3=.ref 1 1 0 d.states.toNat) (h4:env 4=.ref 2 1 0 d.states.toNat) (h21:env 21=F2 d.rules) (h22:env 22=.int .i64 d.rules.length) (h23:env 23=.int .i64 k) :
 Ent 105 0 env (Abs.hl l) (Nw d k) (EA d k V):=by
 rw[hl',OJ];refine (Ih [(1,.ptr 0 1 0 0),(3,.ref 1 1 0 d.states.toNat),(4,.ref 2 1 0 d.states.toNat),(21,F2 d.rules),(22,.int .i64 d.rules.length),(23,.int .i64 k)] (λp hp=>?_)).trans (JI (by omega) (TR d k V) λi _=>?_)
 ·simp only[Ag,Al,Ay] at hp
  rcases hp with rfl|rfl|rfl|rfl|rfl|rfl<;>assumption
 ·rw[Qi]
  have hr:ltV (d.states.toNat+3) (F2 d.rules):=Cz _ _ (by simp[F2,AV.pure,BS]);simp only[Er]
  repeat' split
  all_goals first
   |exact hr
   |trivial
   |(show _<_;omega)
theorem z7h{n i:Nat}{V:Nat->Nat}{D:Nat->List Int}{x:Int}(h:i<n):(famT n V D).set i (.ref (i+3) (V i+1) 0 ((D i).length+1))=famT n (setV V i (V i+1)) λp=>if p=i then D i++[x] else D p:=by
 rw[famT,DK h,famT];refine AB λj _=>?_;by_cases e:j=i
 ·subst e;simp[setV]
 ·simp[setV,e]
theorem z7i{n i:Nat}{V:Nat->Nat}{D:Nat->List Int}{x:Int}(h:i<n):(famF n V D).set i ⟨1,V i+1,false,(D i).map (AV.int .i64)++[.int .i64 x]⟩=famF n (setV V i (V i+1)) λp=>if p=i then D i++[x] else D p:=by
 rw[famF,DK h,famF];refine AB λj _=>?_;by_cases e:j=i
 ·subst e;simp[setV,TQ]
 ·simp[setV,e]
theorem Md{n j:Nat}{f:Nat->Int}{x:Int}(h:j<n):(famI n f).set j (.int .i64 x)=famI n λp=>if p=j then x else f p:=by
 rw[famI,DK h,famI];refine AB λp _=>?_;by_cases e:p=j
 ·subst e;simp
 ·simp[e]
theorem z7j{l:List Rule}{k i:Nat}(hk:k<l.length)(hi:(nth l k).from_=i)(he:DT (nth l k)=true):toD (l.take (k+1))=λp=>if p=i then toD (l.take k) i++[(nth l k).to_] else toD (l.take k) p:=by
 funext p;rw[take_at hk];simp only[toD,BZ,A9,BG,List.filter_nil,he,A6,hi,Ak];by_cases e:p=i
 ·subst e;simp
 ·rw[Ah (by omega),Ah e];simp
theorem z7k{l:List Rule}{k j:Nat}(hk:k<l.length)(hj:(nth l k).to_=j)(he:DT (nth l k)=true):inD (l.take (k+1))=λp=>if p=j then inD (l.take k) j+1 else inD (l.take k) p:=by
 funext p;rw[take_at hk];simp only[inD,BZ,Ao,BG,List.filter_nil,he,A6,hj,Ak];by_cases e:p=j
 ·subst e;simp
 ·rw[Ah (by omega),Ah e];simp
theorem z7l{l:List Rule}{k:Nat}(hk:k<l.length)(he:DT (nth l k)=false):toD (l.take (k+1))=toD (l.take k)/\inD (l.take (k+1))=inD (l.take k):=by
 rw[take_at hk];refine⟨?_,?_⟩<;>funext p<;>simp[toD,inD,he]
theorem z0x(l:List Rule)(j:Nat):0<=inD l j/\inD l j<=l.length:=by
 have:=Bt (λr=>DT r&&decide (r.to_=j)) l;simp only[inD];omega
theorem z9r(l:List Rule)(j:Nat):(toD l j).length<=l.length:=by
 have:=Bt (λr=>DT r&&decide (r.from_=j)) l;simp only[toD,Br];omega
theorem Iq(l0:List Grp):∀l:List Grp,H9 l0 l l
 |[]=>trivial
 |G::l=>⟨⟨rfl,rfl,id,BY _ _⟩,Iq l0 l⟩
theorem z7m(n:Nat):famF n (λ_=>1) (toD [])=(List.replicate n 1).map HB:=by
 rw[C4];refine BF (by simp[famF]) λi h1 h2=>?_;simp only[famF,Em,D2,List.getElem_replicate];rfl
theorem z7n(n:Nat):famI n (inD [])=List.replicate n (.int .i64 0):=by
 refine BF (by simp[famI]) λi h1 h2=>?_;simp[famI,inD]
theorem z0y{l:List Grp}{n:Nat}(h:∀i,i<n->l.getD (i+3) default=HB 1/\i+3<l.length):leSL l (List.replicate n .nilS) (famT n (λ_=>1) (toD [])):=by
 have key:∀idx:List Nat,(∀i∈idx,i<n)->leSL l (List.replicate idx.length .nilS) (idx.map λi=>AV.ref (i+3) 1 0 (toD [] i).length):=λidx=>by
  induction idx with
  |nil=>exact λ_=>rfl
  |cons i idx ih =>
   intro hi;obtain⟨h1,h2⟩:=h i (hi i (by simp));refine⟨?_,ih λj hj=>hi j (by simp[hj])⟩;show 0=0/\(toD [] i).length=0/\(l.getD (i+3) default).ver=1/\0<(l.getD (i+3) default).w/\(l.getD (i+3) default).xs=[]/\(l.getD (i+3) default).exact=true/\i+3<l.length;rw[h1];exact⟨rfl,rfl,rfl,by decide,rfl,rfl,h2⟩
 have:=key (List.range n) λi hi=>by simpa using hi
 rwa [CJ] at this
theorem z0z{d:Desc}{env:Env}(h1:env 1=.ptr 0 1 0 0)(h3:env 3=.ref 1 1 0 d.states.toNat)(h4:env 4=.ref 2 1 0 d.states.toNat)(h21:env 21=F2 d.rules)(h22:env 22=.int .i64 d.rules.length)(h23:env 23=.int .i64 0):
 Ent 105 0 env (Abs.hl [⟨6,1,true,[Dh d]⟩,⟨1,1,true,List.replicate d.states.toNat .nilS⟩,⟨1,1,true,List.replicate d.states.toNat (.int .i64 0)⟩]) (Nw d 0) (EA d 0 λ_=>1):=by
 refine (Ih [(1,.ptr 0 1 0 0),(3,.ref 1 1 0 d.states.toNat),(4,.ref 2 1 0 d.states.toNat),(21,F2 d.rules),(22,.int .i64 d.rules.length),(23,.int .i64 0)] (λp hp=>?_)).trans
  ((P8 (List.replicate d.states.toNat 1) (λw hw=>by have:=(List.mem_replicate.1 hw).2;omega)).trans (Vx ?_ λi _=>Jg _ _))
 ·simp only[Ag,Al,Ay] at hp
  rcases hp with rfl|rfl|rfl|rfl|rfl|rfl<;>assumption
 ·rw[List.take_zero,z7m,z7n]
  refine⟨⟨rfl,rfl,id,BY _ _⟩,⟨rfl,rfl,id,z0y λi hi=>?_⟩,⟨rfl,rfl,id,BY _ _⟩,Iq _ _⟩;refine⟨?_,by simp;omega⟩;rw[C4];simp[List.getD,hi]
def La(n:Nat)(D:Nat->List Int):AV:=.lst 1 ((List.range n).map λi=>Gr (D i))
theorem Nx{n b:Nat}{env:Env}{H H':Aw}(hn:H'.n=H.n)(h:∀g,g<H.n->H'.at_ g=H.at_ g):Ent n b env H env H':=λS val hb hS hv=>⟨S,rfl,.refl hb,hS.congr hn h,hv⟩
def Kz(n:Nat):List Nat:=1::(List.range n).map (·+3)
theorem Sf{n i:Nat}(h:i<n):i+3∈Kz n:=Ag.2 (.inr (As.2 ⟨i,Bm.2 h,rfl⟩))
theorem z9s(d:Desc)(k:Nat)(V:Nat->Nat){i:Nat}(hi:i<d.states.toNat):(EA d k V).at_ (i+3)=TQ (V i) (toD (d.rules.take k) i):=by
 rw[EA,Dt];simp only[Dm];exact Ct hi
theorem ze1(d:Desc)(k:Nat)(V:Nat->Nat):D9 2 ((EA d k V).only (Kz d.states.toNat)) (.ref 1 1 0 d.states.toNat)/\frzV 2 ((EA d k V).only (Kz d.states.toNat)) (.ref 1 1 0 d.states.toNat)=La d.states.toNat (toD (d.rules.take k)):=by
 have hat1:((EA d k V).only (Kz d.states.toNat)).at_ 1=⟨1,1,true,famT d.states.toNat V (toD (d.rules.take k))⟩:=by
  show (if 1∈Kz d.states.toNat then (EA d k V).at_ 1 else ((EA d k V).at_ 1).dead)=_;rw[Ai (by simp[Kz])];rfl
 have hat:∀i,i<d.states.toNat->((EA d k V).only (Kz d.states.toNat)).at_ (i+3)=TQ (V i) (toD (d.rules.take k) i):=λi hi=>by
  show (if i+3∈Kz d.states.toNat then (EA d k V).at_ (i+3) else ((EA d k V).at_ (i+3)).dead)=_;rw[Ai (Sf hi)];exact z9s d k V hi
 have htl:(((famT d.states.toNat V (toD (d.rules.take k))).drop 0).take d.states.toNat)=famT d.states.toNat V (toD (d.rules.take k)):=by
  rw[Cr];exact Ap (by simp[famT])
 constructor
 ·refine⟨by rw[hat1],by rw[hat1];exact Nat.one_pos,by rw[hat1];simp[famT],λy hy=>?_⟩
  rw[hat1,htl] at hy;obtain⟨i,hi,rfl⟩:=As.1 hy;have hi':i<d.states.toNat:=by simpa using hi
  refine⟨by rw[hat i hi'],by rw[hat i hi'];exact Nat.one_pos,by rw[hat i hi'];simp,λz hz=>?_⟩;rw[hat i hi'] at hz;obtain⟨u,_,rfl⟩:=As.1 (BX (BJ hz));rfl
 ·show AV.lst _ _=_
  rw[hat1,htl,La,famT,CM];congr 1;refine AB λi hi=>?_;have hi':i<d.states.toNat:=by simpa using hi
  show AV.lst _ _=_;rw[hat i hi']
  have e:(((TQ (V i) (toD (d.rules.take k) i)).xs.drop 0).take (toD (d.rules.take k) i).length).map (frzV 0 ((EA d k V).only (Kz d.states.toNat)))=(toD (d.rules.take k) i).map (AV.int .i64):=by
   rw[Cr,Ap (by simp[TQ])];refine (AB λx hx=>?_).trans (EX _);obtain⟨u,_,rfl⟩:=As.1 hx;rfl
  rw[e]
def Jm(d:Desc)(k:Nat):List (Nat × AV):=[(1,.ptr 0 1 0 0),(3,La d.states.toNat (toD (d.rules.take k))),(4,.ref 2 1 0 d.states.toNat),(7,.nilS),(52,.ref 2 1 0 d.states.toNat),(53,.int .i64 d.states.toNat),(54,.int .i64 0)]
theorem XO{d:Desc}{k:Nat}{V:Nat->Nat}{env:Env}(h1:env 1=.ptr 0 1 0 0)(h3:env 3=.ref 1 1 0 d.states.toNat)(h4:env 4=.ref 2 1 0 d.states.toNat)(h7:env 7=.nilS)(h52:env 52=.ref 2 1 0 d.states.toNat)(h53:env 53=.int .i64 d.states.toNat)(h54:env 54=.int .i64 0):
 Ent 105 0 env (EA d k V) (Er (Jm d k)) (Abs.hl [⟨6,1,true,[Dh d]⟩,⟨0,2,false,[]⟩,⟨1,1,true,famI d.states.toNat (inD (d.rules.take k))⟩]):=by
 obtain⟨f1,f2⟩:=ze1 d k V;rw[<-h3] at f1 f2;refine (Tm 3 2 (Kz d.states.toNat) f1).trans ((Ih (Jm d k) λp hp=>?_).trans ((Nx (H':=Abs.hl ([⟨6,1,true,[Dh d]⟩,⟨0,2,false,[]⟩,⟨1,1,true,famI d.states.toNat (inD (d.rules.take k))⟩]++(famF d.states.toNat V (toD (d.rules.take k))).map Grp.dead)) ?_ ?_).trans (JI (by omega) ?_ ?_)))
 ·rw[f2]
  simp only[Jm,Ag,Al,Ay] at hp;rcases hp with rfl|rfl|rfl|rfl|rfl|rfl|rfl<;>first|rfl|assumption
 ·simp[EA,Aw.kill,Abs.hl]
 ·intro g hg
  show _=if g∈Kz d.states.toNat then ((EA d k V).at_ g).dead else (EA d k V).at_ g
  have hlen:(EA d k V).n=d.states.toNat+3:=Qi d k V;have hg':g<d.states.toNat+3:=by rw[<-hlen];exact hg
  match g,hg' with
  |0,_=>rw[Ah (by simp[Kz])];rfl
  |1,_=>rw[Ai (by simp[Kz])];rfl
  |2,_=>rw[Ah (by simp[Kz])];rfl
  |i+3,hi =>
   have hi':i<d.states.toNat:=by omega
   rw[Ai (Sf hi'),z9s d k V hi',Dt];simp only[List.cons_append,List.nil_append,Dm,famF,CM];exact Ct hi'
 ·intro G hG
  simp only[Ag,Al,Ay] at hG;rcases hG with rfl|rfl|rfl
  ·exact Dc _ _ (by simp[AY,HS])
  ·trivial
  ·exact Dc _ _ (Cf.2 λx hx=>by
    obtain⟨i,_,rfl⟩:=As.1 hx
    rfl)
 ·intro i _
  have hd:ltV 3 (La d.states.toNat (toD (d.rules.take k))):=trivial;simp only[Er,Jm]
  repeat' split
  all_goals first
   |exact hd
   |trivial
   |(show _<_;simp)
theorem XP(d:Desc)(hd:CycOk d):PC Tryz.prog 122 [Dh d] (.bool (@decide (cycP d.rules d.states.toNat) (Classical.propDecidable _))):=by
 obtain⟨⟨hn1,hn2⟩,hlen,hrul⟩:=hd;have hP:=BS d.rules;refine BH R9 ?_;unfold Lw;(with_reducible repeat'(first|(simp(disch:=omega)only[push_cast,↓zz,seval])|refine Aa ?_ ?_|(first|refine Ac ?_ ?_|refine Ab ?_ ?_)<;>intro hc<;>(try simp only[push_cast] at hc)|omega|intro _));refine Bu (I9 (λ(s:Nat × (Nat->Nat))=>s.1<=d.rules.length) (λs=>d.rules.length-s.1) (λs=>Nw d s.1) (λs=>EA d s.1 s.2) (0,λ_=>1) (by simp) ?_ ?_)
 ·exact z0z rfl rfl rfl rfl rfl rfl
 rintro⟨k,V⟩ hk;simp only at hk ⊢;rcases Am k d.rules.length with hkl|hkl
 ·have hr:=hrul _ (BA hkl)
  generalize hre:nth d.rules k=r at *;have hgr:=AO r.guards;have hot:=Co r.out;obtain⟨n,hn⟩:∃n:Nat,d.states=n:=⟨d.states.toNat,by omega⟩;obtain⟨i,hi⟩:∃i:Nat,r.from_=i:=⟨r.from_.toNat,by omega⟩;obtain⟨j,hj⟩:∃j:Nat,r.to_=j:=⟨r.to_.toNat,by omega⟩;have hin:i<n:=by omega
  have hjn:j<n:=by omega
  have hni:¬n=i:=by omega
  have ee:Nw d k=Er [(1,.ptr 0 1 0 0),(3,.ref 1 1 0 n),(4,.ref 2 1 0 n),(21,F2 d.rules),(22,.int .i64 d.rules.length),(23,.int .i64 k)]:=by simp only[Nw,hn,Int.toNat_natCast]
  have eh:EA d k V=Abs.hl (⟨6,1,true,[Dh d]⟩::⟨1,1,true,famT n V (toD (d.rules.take k))⟩::⟨1,1,true,famI n (inD (d.rules.take k))⟩::famF n V (toD (d.rules.take k))):=by simp only[EA,hn,Int.toNat_natCast]
  rw[ee,eh];clear ee eh;have hFl:(famF n V (toD (d.rules.take k))).length=n:=by simp[famF]
  have hTl:(famT n V (toD (d.rules.take k))).length=n:=by simp[famT]
  have hIl:(famI n (inD (d.rules.take k))).length=n:=by simp[famI]
  have gI:∀G,(famF n V (toD (d.rules.take k))++[G]).getD i default=TQ (V i) (toD (d.rules.take k) i):=λG=>by
   rw[Aq,A8 (by omega),<-Aq];exact Ct hin
  have gR:∀G,(famF n V (toD (d.rules.take k))++[G]).getD n default=G:=λG=>by
   rw[Aq,AD (by omega)];simp[hFl]
  have tI:(famT n V (toD (d.rules.take k))).getD i .any=.ref (i+3) (V i) 0 (toD (d.rules.take k) i).length:=Ct hin;have iJ:(famI n (inD (d.rules.take k))).getD j .any=.int .i64 (inD (d.rules.take k) j):=Ct hjn
  have sR:∀G G',setQ (famF n V (toD (d.rules.take k))++[G]) n G'=some (famF n V (toD (d.rules.take k))++[G']):=λG G'=>by
   have:=Qg (famF n V (toD (d.rules.take k))) G G'
   rwa [hFl] at this
  have sI:∀G G',setQ (famF n V (toD (d.rules.take k))++[G]) i G'=some ((famF n V (toD (d.rules.take k))).set i G'++[G]):=λG G'=>Qh _ _ _ (by omega)
  have gR2:∀G G',((famF n V (toD (d.rules.take k))).set i G'++[G]).getD n default=G:=λG G'=>by
   rw[Aq,AD (by simp[hFl])];simp[hFl]
  have hSB:∀R G,Dd 3 [i+3] (famF n V (toD (d.rules.take k))++[R]) ((famF n V (toD (d.rules.take k))).set i G++[R]):=λR G=>by
   rw[<-DY _ _ (by omega)];exact Ip (by simp;omega)
  generalize hF:famF n V (toD (d.rules.take k))=F at *;generalize hT:famT n V (toD (d.rules.take k))=TT at *;generalize hI:famI n (inD (d.rules.take k))=II at *;generalize hD:toD (d.rules.take k) i=Di at *;generalize hJ:inD (d.rules.take k) j=Ij at *;refine W_T ?_;have hEx:(!Di.isEmpty||(Di.map (AV.int .i64)).isEmpty)=true:=by cases Di<;>rfl
  have hDl:Di.length<=4096:=by rw[<-hD];have:=z9r (d.rules.take k) i;simp at this;omega
  have hJb:0<=Ij/\Ij<=4096:=by rw[<-hJ];have:=z0x (d.rules.take k) j;simp at this;omega
  (with_reducible repeat'(first|(simp(disch:=omega)only[push_cast,↓zz,seval,hP,hre,hi,hj,hFl,hTl,hIl,gI,gR,gR2,sR,sI,tI,iJ,List.cons_append,Ao,List.length_cons])|refine Aa ?_ ?_|(first|refine Ac ?_ ?_|refine Ab ?_ ?_)<;>intro hc<;>(try simp only[push_cast] at hc)|omega|intro _))
  ·refine Du [i+3] ?_
   (with_reducible repeat'(first|(simp(disch:=omega)only[push_cast,↓zz,seval,xx,Ag,Al,Ay,Bn,B6,Ax,B3,B2,hP,hre,hi,hj,hFl,hTl,hIl,gI,gR,gR2,sR,sI,tI,iJ,List.cons_append,Ao,List.length_cons,hni,hEx])|refine Aa ?_ ?_|(first|refine Ac ?_ ?_|refine Ab ?_ ?_)<;>intro hc<;>(try simp only[push_cast] at hc)|omega|intro _))
   ·exact hSB _ _
   have he:DT (nth d.rules k)=true:=by rw[hre,DT];simpa using ‹(r.guards.length:Int)=0›
   have e1:=z7j (i:=i) hkl (by rw[hre];exact hi) he;have e2:=z7k (j:=j) hkl (by rw[hre];exact hj) he;refine⟨(k+1,setV V i (V i+1)),z0w (gar:=[⟨5,1,true,[.agg [.int .i64 i,.int .i64 j,Bg r.guards,.int .i64 r.eat,E5 r.out]]⟩]) hn1 ?_ ?_ ?_ ?_ ?_ ?_ ?_,by simp only;omega,by simp only;omega⟩
   ·rw[cycL,e1,e2,hn,Int.toNat_natCast,<-hF,<-hT,<-hI,<-hD,<-hJ,hre,hj,z7h hin,Md hjn,z7i hin]
    rfl
   all_goals first|rfl|(rw[hn];rfl)
  ·have he:DT (nth d.rules k)=false:=by rw[hre,DT];simpa using ‹¬(r.guards.length:Int)=0›
   obtain⟨e1,e2⟩:=z7l hkl he;refine⟨(k+1,V),z0w (gar:=[⟨5,1,true,[.agg [.int .i64 i,.int .i64 j,Bg r.guards,.int .i64 r.eat,E5 r.out]]⟩]) hn1 ?_ ?_ ?_ ?_ ?_ ?_ ?_,by simp only;omega,by simp only;omega⟩
   ·rw[cycL,e1,e2,hn,Int.toNat_natCast,hF,hT,hI]
    rfl
   all_goals first|rfl|(rw[hn];rfl)
 ·obtain rfl:k=d.rules.length:=by omega
  obtain⟨n,hn⟩:∃n:Nat,d.states=n:=⟨d.states.toNat,by omega⟩;have ee:Nw d d.rules.length=Er [(1,.ptr 0 1 0 0),(3,.ref 1 1 0 n),(4,.ref 2 1 0 n),(21,F2 d.rules),(22,.int .i64 d.rules.length),(23,.int .i64 d.rules.length)]:=by simp only[Nw,hn,Int.toNat_natCast]
  refine W_T ?_;rw[ee,OJ];(with_reducible repeat'(first|(simp(disch:=omega)only[push_cast,↓zz,seval,hP])|refine Aa ?_ ?_|(first|refine Ac ?_ ?_|refine Ab ?_ ?_)<;>intro hc<;>(try simp only[push_cast] at hc)|omega|intro _));refine zdf (XO rfl (by rw[hn];rfl) (by rw[hn];rfl) rfl (by rw[hn];rfl) (by rw[hn];rfl) rfl) ?_
  have el:Jm d d.rules.length=[(1,.ptr 0 1 0 0),(3,.lst 1 ((List.range n).map λi=>Gr (toD d.rules i))),(4,.ref 2 1 0 n),(7,.nilS),(52,.ref 2 1 0 n),(53,.int .i64 n),(54,.int .i64 0)]:=by
   simp only[Jm,hn,Int.toNat_natCast,AZ,La]
  rw[el,hn,Int.toNat_natCast,AZ];clear el ee
  have pL:AY ((List.range n).map λi=>Gr (toD d.rules i))=true:=Cf.2 λx hx=>by
   obtain⟨i,_,rfl⟩:=As.1 hx;exact BK .i64 _
  have lL:((List.range n).map λi=>Gr (toD d.rules i)).length=n:=by simp
  have aL:∀i,i<n->((List.range n).map λi=>Gr (toD d.rules i)).getD i .any=Gr (toD d.rules i):=λi hi=>Ct hi;have aL2:∀i,i<n->((List.range n).map λi=>Gr (toD d.rules i))[i]? = some (Gr (toD d.rules i)):=λi hi=>by simp[hi]
  generalize hLe:(List.range n).map (λi=>Gr (toD d.rules i))=L at *
  have pI:∀f,AY (famI n f)=true:=λf=>Cf.2 λx hx=>by
   obtain⟨i,_,rfl⟩:=As.1 hx;rfl
  have lI:∀f,(famI n f).length=n:=λf=>by simp[famI]
  have aI:∀f i,i<n->(famI n f).getD i .any=.int .i64 (f i):=λf i hi=>Ct hi;have hnn:(n:Int)<=1024:=by omega
  refine Bu (B5 (λ(k:Nat)=>k<=n) (λk=>n-k)
   (λk=>[(1,.ptr 0 1 0 0),(3,.lst 1 L),(4,.ref 1 1 0 n),(7,.ref 2 1 0 (JO (inD d.rules) k).length),(52,.ref 1 1 0 n),(53,.int .i64 n),(54,.int .i64 k)]) (λk=>[⟨6,1,true,[Dh d]⟩,⟨1,1,true,famI n (inD d.rules)⟩,⟨1,1,false,(JO (inD d.rules) k).map (AV.int .i64)⟩]) (λenv _=>[Cc 1 (env 1),Cc 1 (env 4),Cc 1 (env 7)]) 0 (by simp) ?_ ?_)
  ·have z0:JO (inD d.rules) 0=[]:=rfl
   (with_reducible repeat'(first|(simp(disch:=omega)only[push_cast,↓zz,seval,pL,lL,pI,lI,z0])|refine Aa ?_ ?_|(first|refine Ac ?_ ?_|refine Ab ?_ ?_)<;>intro hc<;>(try simp only[push_cast] at hc)|omega|intro _))
  intro k hk;have zl:=ZY (inD d.rules) k;rcases Am k n with hkn|hkn
  ·have aK:=aI (inD d.rules) k hkn
   have zs:=Xg (inD d.rules) k;have hib:=z0x d.rules k;generalize inD d.rules k=v at *;refine W_T ?_;(with_reducible repeat'(first|(simp(disch:=omega)only[push_cast,↓zz,seval,pL,lL,pI,lI,aK])|refine Aa ?_ ?_|(first|refine Ac ?_ ?_|refine Ab ?_ ?_)<;>intro hc<;>(try simp only[push_cast] at hc)|omega|intro _))
   ·rw[Ai (by assumption)] at zs
    refine⟨k+1,?_⟩;(with_reducible repeat'(first|(simp(disch:=omega)only[push_cast,↓zz,seval,zs])|refine Aa ?_ ?_|(first|refine Ac ?_ ?_|refine Ab ?_ ?_)<;>intro hc<;>(try simp only[push_cast] at hc)|omega|intro _))
   ·rw[Ah (by assumption)] at zs
    refine⟨k+1,?_⟩;(with_reducible repeat'(first|(simp(disch:=omega)only[push_cast,↓zz,seval,zs])|refine Aa ?_ ?_|(first|refine Ac ?_ ?_|refine Ab ?_ ?_)<;>intro hc<;>(try simp only[push_cast] at hc)|omega|intro _))
  ·have hkn2:n=k:=by omega
   subst hkn2;refine W_T ?_;(with_reducible repeat'(first|(simp(disch:=omega)only[push_cast,↓zz,seval,pL,lL,pI,lI])|refine Aa ?_ ?_|(first|refine Ac ?_ ?_|refine Ab ?_ ?_)<;>intro hc<;>(try simp only[push_cast] at hc)|omega|intro _))
   have hto:∀s m,m<(toD d.rules s).length->0<=nth (toD d.rules s) m/\nth (toD d.rules s) m<n:=λs m hm=>by
    have hm2:nth (toD d.rules s) m∈toD d.rules s:=BA hm;generalize nth (toD d.rules s) m=x at *;obtain⟨r,hr,rfl⟩:=As.1 hm2;have:=hrul r (Bi.1 hr).1;omega
   refine Bu (B5 (λ(s:List Int × List Int × List Int)=>KInv d.rules n (s.1++s.2.1) (cntE d.rules s.1)) (λs=>n-s.1.length)
    (λs=>[(1,.ptr 0 1 0 0),(3,.lst 1 L),(4,.ref 1 1 0 n),(7,.ref 2 1 s.2.2.length s.2.1.length),(10,.int .i64 s.1.length)]) (λs=>[⟨6,1,true,[Dh d]⟩,⟨1,1,true,famI n (cntE d.rules s.1)⟩,⟨1,1,false,(s.2.2++s.2.1).map (AV.int .i64)⟩]) (λenv _=>[Cc 1 (env 1),Cc 1 (env 4),Cc 1 (env 7)]) ([],JO (inD d.rules) n,[]) (Xh d.rules n) ?_ ?_)
   ·have e0:cntE d.rules []=inD d.rules:=funext λj=>PV _ _
    (with_reducible repeat'(first|(simp(disch:=omega)only[push_cast,↓zz,seval,pL,lL,pI,lI,e0])|refine Aa ?_ ?_|(first|refine Ac ?_ ?_|refine Ab ?_ ?_)<;>intro hc<;>(try simp only[push_cast] at hc)|omega|intro _))
   rintro⟨P,td,junk⟩ hK;simp only at hK;have hlen2:=hK.len;rw[Ao] at hlen2;rcases td with _|⟨x,rest⟩
   ·rw[AH] at hK
    have hdone:=z01 (λr hr=>by have:=hrul r hr;omega) hK;refine W_T ?_;(with_reducible repeat'(first|(simp(disch:=omega)only[push_cast,↓zz,seval,pL,lL,pI,lI])|refine Aa ?_ ?_|(first|refine Ac ?_ ?_|refine Ab ?_ ?_)<;>intro hc<;>(try simp only[push_cast] at hc)|omega|intro _))
    all_goals exact Ep.2 (by rw[<-hdone];omega)
   ·have hx:=hK.range x (by simp)
    obtain⟨s,rfl⟩:∃s:Nat,x=s:=⟨x.toNat,by omega⟩;have hsn:s<n:=by omega
    have hsP:(s:Int)∉P:=λhh=>by
     exact (DO.1 hK.nodup).2.2 (s:Int) hh (s:Int) (by simp) rfl
    have aS:=aL s hsn;have aS2:=aL2 s hsn;have j0:(junk.map (AV.int .i64)++AV.int .i64 (s:Int)::rest.map (AV.int .i64)).getD junk.length .any=.int .i64 s:=by simp[List.getD]
    have j1:nth (junk++(s:Int)::rest) junk.length=s:=by simp[nth]
    have hjl:(junk++(s:Int)::rest).length=junk.length+(rest.length+1):=by simp
    simp only[List.length_cons] at hlen2;refine W_T ?_;(with_reducible repeat'(first|(simp(disch:=omega)only[push_cast,↓zz,seval,pL,lL,pI,lI,aS,aS2,j0,j1,hjl,List.length_cons])|refine Aa ?_ ?_|(first|refine Ac ?_ ?_|refine Ab ?_ ?_)<;>intro hc<;>(try simp only[push_cast] at hc)|omega|intro _))
    have hK0:KInv d.rules n (P++[(s:Int)]++rest) (Gf d.rules P s 0):=by
     rw[O6,AA];exact hK
    have hDb:=z9r d.rules s
    refine Bu (B5 (λ(q:Nat × List Int × List Int)=>q.1<=(toD d.rules s).length/\KInv d.rules n (P++[(s:Int)]++q.2.1) (Gf d.rules P s q.1)) (λq=>(toD d.rules s).length-q.1)
     (λq=>[(1,.ptr 0 1 0 0),(3,.lst 1 L),(4,.ref 1 1 0 n),(7,.ref 2 1 q.2.2.length q.2.1.length),(10,.int .i64 P.length),(79,Gr (toD d.rules s)),(80,.int .i64 (toD d.rules s).length),(81,.int .i64 q.1)]) (λq=>[⟨6,1,true,[Dh d]⟩,⟨1,1,true,famI n (Gf d.rules P s q.1)⟩,⟨1,1,false,(q.2.2++q.2.1).map (AV.int .i64)⟩]) (λenv _=>[Cc 1 (env 1),Cc 1 (env 4),Cc 1 (env 7)]) (0,rest,junk++[(s:Int)]) ⟨by simp,hK0⟩ ?_ ?_)
    ·have e0:=O6 d.rules P s
     (with_reducible repeat'(first|(simp(disch:=omega)only[push_cast,↓zz,seval,pL,lL,pI,lI,e0,A9,AA,BP,Bw,List.cons_append,List.nil_append,Ao,List.length_cons,List.length_nil])|refine Aa ?_ ?_|(first|refine Ac ?_ ?_|refine Ab ?_ ?_)<;>intro hc<;>(try simp only[push_cast] at hc)|omega|intro _))
    rintro⟨m,td,jk⟩ ⟨m1,m2⟩;simp only at m1 m2;have hlen3:=m2.len;simp only[Ao,List.length_cons,List.length_nil] at hlen3;rcases Am m (toD d.rules s).length with hm|hm
    ·obtain⟨t1,t2⟩:=hto s m hm
     obtain⟨t,ht⟩:∃t:Nat,nth (toD d.rules s) m=t:=⟨(nth (toD d.rules s) m).toNat,by omega⟩;have htn:t<n:=by omega
     have hst:=z00 hsP hm ht htn m2;have hle:=KV (P:=P) hm ht;have hps:=RQ hsP hm ht;have aT:=aI (Gf d.rules P s m) t htn;have aT2:=aI (Gf d.rules P s (m+1)) t htn;have hv:Gf d.rules P s (m+1) t=Gf d.rules P s m t-1:=by rw[hle];simp
     have hset:(famI n (Gf d.rules P s m)).set t (.int .i64 (Gf d.rules P s m t-1))=famI n (Gf d.rules P s (m+1)):=by rw[hle];exact Md htn
     have hlb:Gf d.rules P s m t<=4096:=by
      have c1:cntE d.rules P t<=inD d.rules t:=by
       rw[<-PV];exact zdr _ _ _
      have c2:=z0x d.rules t;have c3:Gf d.rules P s m t<=cntE d.rules P t:=by simp only[Gf];omega
      omega
     rw[hv] at aT2;generalize Gf d.rules P s m t=v at *;refine W_T ?_
     have eD:List.drop jk.length (jk.map (AV.int .i64)++td.map (AV.int .i64))=td.map (AV.int .i64):=by
      rw[List.drop_append_of_le_length (by simp),E7 (by simp),List.nil_append]
     (with_reducible repeat'(first|(simp(disch:=omega)only[push_cast,↓zz,seval,pL,lL,pI,lI,ht,aT,aT2,hset,eD])|refine Aa ?_ ?_|(first|refine Ac ?_ ?_|refine Ab ?_ ?_)<;>intro hc<;>(try simp only[push_cast] at hc)|omega|intro _))
     ·rw[Ai (by assumption)] at hst
      refine⟨(m+1,td++[(t:Int)],jk),?_⟩;(with_reducible repeat'(first|(simp(disch:=omega)only[push_cast,↓zz,seval,A9,AA,BP,Bw,Ao,List.length_cons,List.length_nil])|refine Aa ?_ ?_|(first|refine Ac ?_ ?_|refine Ab ?_ ?_)<;>intro hc<;>(try simp only[push_cast] at hc)|omega|intro _));simpa [AA] using hst
     ·rw[Ai (by assumption)] at hst
      refine⟨(m+1,td++[(t:Int)],[]),?_⟩;(with_reducible repeat'(first|(simp(disch:=omega)only[push_cast,↓zz,seval,A9,AA,BP,Bw,List.nil_append,Ao,List.length_cons,List.length_nil])|refine Aa ?_ ?_|(first|refine Ac ?_ ?_|refine Ab ?_ ?_)<;>intro hc<;>(try simp only[push_cast] at hc)|omega|intro _));simpa [AA] using hst
     ·rw[Ah (by assumption)] at hst
      refine⟨(m+1,td,jk),?_⟩;(with_reducible repeat'(first|(simp(disch:=omega)only[push_cast,↓zz,seval])|refine Aa ?_ ?_|(first|refine Ac ?_ ?_|refine Ab ?_ ?_)<;>intro hc<;>(try simp only[push_cast] at hc)|omega|intro _));simpa [AA] using hst
    ·have hme:m=(toD d.rules s).length:=by omega
     subst hme;have hE:=ZZ (l:=d.rules) hsP;rw[hE] at m2;rw[hE];refine W_T ?_;(with_reducible repeat'(first|(simp(disch:=omega)only[push_cast,↓zz,seval,pL,lL,pI,lI])|refine Aa ?_ ?_|(first|refine Ac ?_ ?_|refine Ab ?_ ?_)<;>intro hc<;>(try simp only[push_cast] at hc)|omega|intro _))
     all_goals
      refine⟨(P++[(s:Int)],td,jk),?_⟩;(with_reducible repeat'(first|(simp(disch:=omega)only[push_cast,↓zz,seval,Ao,List.length_cons,List.length_nil])|refine Aa ?_ ?_|(first|refine Ac ?_ ?_|refine Ab ?_ ?_)<;>intro hc<;>(try simp only[push_cast] at hc)|omega|intro _))
     all_goals (simpa [AA] using m2)
abbrev arcV(e:Int × Int):AV:=.agg [.int .i64 e.1,.int .i64 e.2]
abbrev Sg(l:List (Int × Int)):AV:=.lst 2 (l.map arcV)
theorem HT(l:List (Int × Int)):AY (l.map arcV)=true:=F1 (λ_=>rfl) l
def outE(E:List (Int × Int))(i:Nat):List Int:=(E.filter λe=>decide (e.1=(i:Int))).map (·.2)
theorem Qj(E:List (Int × Int))(i:Nat):(outE E i).length<=E.length:=by
 have:=Bt (λe:Int × Int=>decide (e.1=(i:Int))) E;simpa [outE] using this
theorem VH{E:List (Int × Int)}{i:Nat}{t:Int}:t∈outE E i↔((i:Int),t)∈E:=by
 simp only[outE,As,Bi,Ak];constructor
 ·rintro⟨⟨a,b⟩,⟨h1,h2⟩,rfl⟩
  simp only at h2;subst h2;exact h1
 ·intro h
  exact⟨_,⟨h,rfl⟩,rfl⟩
theorem z1a{E:List (Int × Int)}{k i:Nat}(hk:k<E.length)(hi:(nth E k).1=i):outE (E.take (k+1))=λp=>if p=i then outE (E.take k) i++[(nth E k).2] else outE (E.take k) p:=by
 funext p;rw[take_at hk];simp only[outE,BZ,A9,BG,List.filter_nil,hi,Ak];by_cases e:p=i
 ·subst e;simp
 ·rw[Ah (by omega),Ah e];simp
inductive Reach(E:List (Int × Int))(F:List Int):Int->Prop where
 |base {s:Int}:s∈F->Reach E F s
 |step {s t:Int}:Reach E F s->(s,t)∈E->Reach E F t
noncomputable def Fe (E:List (Int × Int)) (F:List Int) (i:Nat):Bool:=@decide (Reach E F i) (Classical.propDecidable _)
theorem ER{E:List (Int × Int)}{F:List Int}{i:Nat}:Fe E F i=true↔Reach E F i:=by simp[Fe]
structure InR(n:Nat)(F:List Int)(E:List (Int × Int)):Prop where
 f:∀s∈F,0<=s/\s<n
 e:∀e∈E,(0<=e.1/\e.1<n)/\0<=e.2/\e.2<n
theorem Reach.rng{n:Nat}{F:List Int}{E:List (Int × Int)}(h:InR n F E){s:Int}(hs:Reach E F s):0<=s/\s<n:=by
 cases hs with
 |base h1=>exact h.f _ h1
 |step _ h1=>exact (h.e _ h1).2
structure TS(n:Nat)(F:List Int)(E:List (Int × Int))(on:Nat->Bool)(todo:List Int):Prop where
 r1:∀s∈todo,Reach E F s
 r2:∀i:Nat,on i=true->Reach E F i
 base:∀s∈F,on s.toNat=true\/s∈todo
 step:∀i:Nat,on i=true->∀t,((i:Int),t)∈E->on t.toNat=true\/t∈todo
def setB(on:Nat->Bool)(s:Nat)(j:Nat):Bool:=if j=s then true else on j
theorem z7o(n:Nat)(F:List Int)(E:List (Int × Int)):TS n F E (λ_=>false) F where
 r1 s hs:=.base hs
 r2 i h:=by cases h
 base s hs:=.inr hs
 step i h:=by cases h
theorem ze2{n s:Nat}{F:List Int}{E:List (Int × Int)}{on:Nat->Bool}{td:List Int}(h:TS n F E on (td++[(s:Int)]))(hs:on s=true):TS n F E on td where
 r1 t ht:=h.r1 t (by simp[ht])
 r2:=h.r2
 base t ht:=by
  rcases h.base t ht with h1|h1
  ·exact .inl h1
  ·rcases Au.1 h1 with h1|h1
   ·exact .inr h1
   ·simp only[Av] at h1;subst h1;exact .inl hs
 step i hi t ht:=by
  rcases h.step i hi t ht with h1|h1
  ·exact .inl h1
  ·rcases Au.1 h1 with h1|h1
   ·exact .inr h1
   ·simp only[Av] at h1;subst h1;exact .inl hs
theorem ze3{n s:Nat}{F:List Int}{E:List (Int × Int)}{on:Nat->Bool}{td:List Int}(h:TS n F E on (td++[(s:Int)])):TS n F E (setB on s) (td++outE E s) where
 r1 t ht:=by
  rcases Au.1 ht with ht|ht
  ·exact h.r1 t (by simp[ht])
  ·exact .step (h.r1 s (by simp)) (VH.1 ht)
 r2 i hi:=by
  unfold setB at hi;split at hi
  ·rename_i e;subst e;exact h.r1 _ (by simp)
  ·exact h.r2 i hi
 base t ht:=by
  rcases h.base t ht with h1|h1
  ·refine .inl ?_;unfold setB;split
   ·rfl
   ·exact h1
  ·rcases Au.1 h1 with h1|h1
   ·exact .inr (by simp[h1])
   ·simp only[Av] at h1;subst h1;exact .inl (by simp[setB])
 step i hi t ht:=by
  by_cases e:i=s
  ·subst e;exact .inr (by simp[VH.2 ht])
  ·have hi':on i=true:=by simpa [setB,e] using hi
   rcases h.step i hi' t ht with h1|h1
   ·refine .inl ?_;unfold setB;split
    ·rfl
    ·exact h1
   ·rcases Au.1 h1 with h1|h1
    ·exact .inr (by simp[h1])
    ·simp only[Av] at h1;subst h1;exact .inl (by simp[setB])
theorem z1b{n:Nat}{F:List Int}{E:List (Int × Int)}(hr:InR n F E){on:Nat->Bool}(h:TS n F E on [])(i:Nat):on i=Fe E F i:=by
 have key:∀s,Reach E F s->on s.toNat=true:=λs hs=>by
  induction hs with
  |base h1 =>
   rcases h.base _ h1 with h2|h2
   ·exact h2
   ·cases h2
  |@step s t h1 h2 ih =>
   have hs:=h1.rng hr;have e:((s.toNat:Nat):Int)=s:=by omega
   rcases h.step s.toNat ih t (by rw[e];exact h2) with h3|h3
   ·exact h3
   ·cases h3
 have:on i=true↔Fe E F i=true:=⟨λh1=>ER.2 (h.r2 i h1),λh1=>by simpa using key _ (ER.1 h1)⟩;cases h1:on i<;>cases h2:Fe E F i<;>simp_all
def sumU(n:Nat)(on:Nat->Bool)(deg:Nat->Nat):Nat:=((List.range n).map λi=>if on i then 0 else deg i+1).sum
theorem z1c{on on2:Nat->Bool}{deg:Nat->Nat}:∀{n:Nat},(∀i,i<n->on i=on2 i)->sumU n on deg=sumU n on2 deg:=λh=>by
 unfold sumU;congr 1;exact AB λi hi=>by rw[h i (by simpa using hi)]
theorem VI{on:Nat->Bool}{deg:Nat->Nat}{s:Nat}(ho:on s=false):∀{n:Nat},s<n->sumU n (setB on s) deg+(deg s+1)=sumU n on deg
 |n+1,h=>by
  have e:∀on,sumU (n+1) on deg=sumU n on deg+(if on n then 0 else deg n+1):=λon=>by simp[sumU,D4]
  rw[e,e];by_cases hs:s=n
  ·subst hs
   rw[z1c (on:=setB on s) (on2:=on) λi hi=>by simp[setB];omega];simp[setB,ho]
  ·have:=VI (deg:=deg) ho (n:=n) (by omega)
   have e2:setB on s n=on n:=by simp[setB];omega
   rw[e2];omega
theorem z1d(on:Nat->Bool)(deg:Nat->Nat)(m:Nat)(hd:∀i,deg i<=m):∀n,sumU n on deg<=n * (m+1)
 |0=>by simp[sumU]
 |n+1=>by
  have e:sumU (n+1) on deg=sumU n on deg+(if on n then 0 else deg n+1):=by simp[sumU,D4]
  have:=z1d on deg m hd n;have h1:=hd n;rw[e,FT];split<;>omega
theorem ze4{P:Program}{f m np:Nat}{xs:List AV}{y:AV}{res:List ARes}{B:AC}(hf:Bv P f xs.length=some ⟨m,np,res,B⟩)(h:T P m 0 B (entry xs) (Abs.hl []) (Ret P res λz H=>D9 4 H z/\ansW (frzV 4 H z) y)):PC P f xs y:=by
 refine zfa hf 4 ?_;rw[UR];exact T.mono h λx env H hh=>UO (λz H hh=>⟨hh.1,z94 hh.2⟩) hh
theorem TU(l:List Int)(h0:l≠[])(hl:l.length<=1000000000000):BN Tryz.prog 148 [Gr l] (Abs.hl []) λy H'=>y=.ref 0 2 0 l.length/\H'=Abs.hl [⟨1,2,false,l.map (AV.int .i64)⟩]:=by
 refine G5 (b:=0) Gu rfl ?_;unfold Fy
 have hne:(l.map (AV.int .i64)).isEmpty=false:=by
  cases l with
  |nil=>exact absurd rfl h0
  |cons _ _=>rfl
 (with_reducible repeat'(first|(simp(disch:=omega)only[push_cast,↓zz,seval,hne])|refine Aa ?_ ?_|(first|refine Ac ?_ ?_|refine Ab ?_ ?_)<;>intro hc<;>(try simp only[push_cast] at hc)|omega|intro _))
 all_goals trace_state
theorem HU:PC Tryz.prog 148 [.nilS] .nilS:=by
 refine BH Gu ?_;unfold Fy;(with_reducible repeat'(first|(simp(disch:=omega)only[push_cast,↓zz,seval])|refine Aa ?_ ?_|(first|refine Ac ?_ ?_|refine Ab ?_ ?_)<;>intro hc<;>(try simp only[push_cast] at hc)|omega|intro _))
abbrev spG(v:Nat)(l:List Int):Grp:=⟨1,v,l.isEmpty,l.map (AV.int .i64)⟩
def spF(n:Nat)(V:Nat->Nat)(D:Nat->List Int):List Grp:=(List.range n).map λi=>spG (V i) (D i)
def spT(n:Nat)(V:Nat->Nat)(D:Nat->List Int):List AV:=(List.range n).map λi=>AV.ref (i+1) (V i) 0 (D i).length
def spB(n:Nat)(on:Nat->Bool):List AV:=(List.range n).map λi=>AV.bool (on i)
def J5(n:Nat)(F:AV)(E:List (Int × Int))(k:Nat):List (Nat × AV):=[(0,.int .i64 n),(1,F),(7,.ref 0 1 0 n),(15,Sg E),(16,.int .i64 E.length),(17,.int .i64 k)]
def spL(n:Nat)(E:List (Int × Int))(k:Nat)(V:Nat->Nat):List Grp:=⟨1,1,true,spT n V (outE (E.take k))⟩::spF n V (outE (E.take k))
theorem Qk(n:Nat)(E:List (Int × Int))(k:Nat)(V:Nat->Nat):(spL n E k V).length=n+1:=by simp[spL,spF]
theorem XQ(n:Nat)(E:List (Int × Int))(k:Nat)(V:Nat->Nat):∀G∈spL n E k V,ltL (spL n E k V).length G.xs:=λG hG=>by
 rw[Qk];simp only[spL,Ag] at hG;rcases hG with rfl|hG
 ·have key:∀(l:List Nat),(∀i∈l,i<n)->ltL (n+1) (l.map λi=>AV.ref (i+1) (V i) 0 (outE (E.take k) i).length):=λl=>by
   induction l with
   |nil=>exact λ_=>trivial
   |cons i l ih =>
    intro h;exact⟨by have:=h i (by simp);show i+1<_;omega,ih λj hj=>h j (by simp[hj])⟩
  exact key _ λi hi=>by simpa using hi
 ·obtain⟨i,_,rfl⟩:=As.1 hG
  exact Dc _ _ (BK .i64 _)
theorem zi9{n k:Nat}{F:AV}{E:List (Int × Int)}{V:Nat->Nat}{env:Env}{l gar:List Grp}(hF:F.pure=true)(hl':l=spL n E k V++gar)
 (h0:env 0=.int .i64 n) (h1:env 1=F) (h7:env 7=.ref 0 1 0 n) (h15:env 15=Sg E) (h16:env 16=.int .i64 E.length) (h17:env 17=.int .i64 k) :
 Ent 67 0 env (Abs.hl l) (Er (J5 n F E k)) (Abs.hl (spL n E k V)):=by
 rw[hl'];refine (Ih (J5 n F E k) (λp hp=>?_)).trans (JI (by omega) (XQ n E k V) λi _=>?_)
 ·simp only[J5,Ag,Al,Ay] at hp
  rcases hp with rfl|rfl|rfl|rfl|rfl|rfl<;>assumption
 ·rw[Qk]
  have hr:ltV (n+1) (Sg E):=Cz _ _ (by simp[Sg,AV.pure,HT]);have hf:ltV (n+1) F:=Cz _ _ hF;simp only[Er,J5]
  repeat' split
  all_goals first
   |exact hr
   |exact hf
   |trivial
   |(show _<_;omega)
theorem ze5{n i:Nat}{V:Nat->Nat}{D:Nat->List Int}{x:Int}(h:i<n):(spT n V D).set i (.ref (i+1) (V i+1) 0 ((D i).length+1))=spT n (setV V i (V i+1)) λp=>if p=i then D i++[x] else D p:=by
 rw[spT,DK h,spT];refine AB λj _=>?_;by_cases e:j=i
 ·subst e;simp[setV]
 ·simp[setV,e]
theorem ze6{n i:Nat}{V:Nat->Nat}{D:Nat->List Int}{x:Int}(h:i<n):(spF n V D).set i ⟨1,V i+1,false,(D i).map (AV.int .i64)++[.int .i64 x]⟩=spF n (setV V i (V i+1)) λp=>if p=i then D i++[x] else D p:=by
 rw[spF,DK h,spF];refine AB λj _=>?_;by_cases e:j=i
 ·subst e;simp[setV,spG]
 ·simp[setV,e]
theorem z1e{n s:Nat}{on:Nat->Bool}(h:s<n):(spB n on).set s (.bool true)=spB n (setB on s):=by
 rw[spB,DK h,spB];refine AB λp _=>?_;by_cases e:p=s
 ·subst e;simp[setB]
 ·simp[e,setB]
theorem ze7(n:Nat):spF n (λ_=>1) (outE [])=(List.replicate n 1).map HB:=by
 rw[C4];refine BF (by simp[spF]) λi h1 h2=>?_;simp only[spF,Em,D2,List.getElem_replicate];rfl
theorem z7p{l:List Grp}{n:Nat}(h:∀i,i<n->l.getD (i+1) default=HB 1/\i+1<l.length):leSL l (List.replicate n .nilS) (spT n (λ_=>1) (outE [])):=by
 have key:∀idx:List Nat,(∀i∈idx,i<n)->leSL l (List.replicate idx.length .nilS) (idx.map λi=>AV.ref (i+1) 1 0 (outE [] i).length):=λidx=>by
  induction idx with
  |nil=>exact λ_=>rfl
  |cons i idx ih =>
   intro hi;obtain⟨h1,h2⟩:=h i (hi i (by simp));refine⟨?_,ih λj hj=>hi j (by simp[hj])⟩;show 0=0/\(outE [] i).length=0/\(l.getD (i+1) default).ver=1/\0<(l.getD (i+1) default).w/\(l.getD (i+1) default).xs=[]/\(l.getD (i+1) default).exact=true/\i+1<l.length;rw[h1];exact⟨rfl,rfl,rfl,by decide,rfl,rfl,h2⟩
 have:=key (List.range n) λi hi=>by simpa using hi
 rwa [CJ] at this
theorem z7q{n:Nat}{F:AV}{E:List (Int × Int)}{env:Env}(h0:env 0=.int .i64 n)(h1:env 1=F)(h7:env 7=.ref 0 1 0 n)(h15:env 15=Sg E)(h16:env 16=.int .i64 E.length)(h17:env 17=.int .i64 0):
 Ent 67 0 env (Abs.hl [⟨1,1,true,List.replicate n .nilS⟩]) (Er (J5 n F E 0)) (Abs.hl (spL n E 0 λ_=>1)):=by
 refine (Ih (J5 n F E 0) (λp hp=>?_)).trans
  ((P8 (List.replicate n 1) (λw hw=>by have:=(List.mem_replicate.1 hw).2;omega)).trans (Vx ?_ λi _=>Jg _ _))
 ·simp only[J5,Ag,Al,Ay] at hp
  rcases hp with rfl|rfl|rfl|rfl|rfl|rfl<;>assumption
 ·rw[spL,List.take_zero,ze7]
  refine⟨⟨rfl,rfl,id,z7p λi hi=>?_⟩,Iq _ _⟩;refine⟨?_,by simp;omega⟩;rw[C4];simp[List.getD,hi]
def spKs(n:Nat):List Nat:=0::(List.range n).map (·+1)
theorem VJ{n i:Nat}(h:i<n):i+1∈spKs n:=Ag.2 (.inr (As.2 ⟨i,Bm.2 h,rfl⟩))
theorem sp_at(n:Nat)(E:List (Int × Int))(k:Nat)(V:Nat->Nat){i:Nat}(hi:i<n):(Abs.hl (spL n E k V)).at_ (i+1)=spG (V i) (outE (E.take k) i):=by
 rw[spL,Dt];simp only[Dm];exact Ct hi
theorem zia(n:Nat)(E:List (Int × Int))(k:Nat)(V:Nat->Nat):D9 2 ((Abs.hl (spL n E k V)).only (spKs n)) (.ref 0 1 0 n)/\frzV 2 ((Abs.hl (spL n E k V)).only (spKs n)) (.ref 0 1 0 n)=La n (outE (E.take k)):=by
 have hat1:((Abs.hl (spL n E k V)).only (spKs n)).at_ 0=⟨1,1,true,spT n V (outE (E.take k))⟩:=by
  show (if 0∈spKs n then (Abs.hl (spL n E k V)).at_ 0 else ((Abs.hl (spL n E k V)).at_ 0).dead)=_;rw[Ai (by simp[spKs])];rfl
 have hat:∀i,i<n->((Abs.hl (spL n E k V)).only (spKs n)).at_ (i+1)=spG (V i) (outE (E.take k) i):=λi hi=>by
  show (if i+1∈spKs n then (Abs.hl (spL n E k V)).at_ (i+1) else ((Abs.hl (spL n E k V)).at_ (i+1)).dead)=_;rw[Ai (VJ hi)];exact sp_at n E k V hi
 have htl:(((spT n V (outE (E.take k))).drop 0).take n)=spT n V (outE (E.take k)):=by
  rw[Cr];exact Ap (by simp[spT])
 constructor
 ·refine⟨by rw[hat1],by rw[hat1];exact Nat.one_pos,by rw[hat1];simp[spT],λy hy=>?_⟩
  rw[hat1,htl] at hy;obtain⟨i,hi,rfl⟩:=As.1 hy;have hi':i<n:=by simpa using hi
  refine⟨by rw[hat i hi'],by rw[hat i hi'];exact Nat.one_pos,by rw[hat i hi'];simp,λz hz=>?_⟩;rw[hat i hi'] at hz;obtain⟨u,_,rfl⟩:=As.1 (BX (BJ hz));rfl
 ·show AV.lst _ _=_
  rw[hat1,htl,La,spT,CM];congr 1;refine AB λi hi=>?_;have hi':i<n:=by simpa using hi
  show AV.lst _ _=_;rw[hat i hi']
  have e:(((spG (V i) (outE (E.take k) i)).xs.drop 0).take (outE (E.take k) i).length).map (frzV 0 ((Abs.hl (spL n E k V)).only (spKs n)))=(outE (E.take k) i).map (AV.int .i64):=by
   rw[Cr,Ap (by simp[spG])];refine (AB λx hx=>?_).trans (EX _);obtain⟨u,_,rfl⟩:=As.1 hx;rfl
  rw[e]
def Lb(n:Nat)(F:AV)(E:List (Int × Int))(k:Nat):List (Nat × AV):=[(0,.int .i64 n),(1,F),(7,La n (outE (E.take k)))]
theorem z1f{n k:Nat}{F:AV}{E:List (Int × Int)}{V:Nat->Nat}{env:Env}(hF:F.pure=true)(h0:env 0=.int .i64 n)(h1:env 1=F)(h7:env 7=.ref 0 1 0 n):
 Ent 67 0 env (Abs.hl (spL n E k V)) (Er (Lb n F E k)) (Abs.hl []):=by
 obtain⟨f1,f2⟩:=zia n E k V;rw[<-h7] at f1 f2;refine (Tm 7 2 (spKs n) f1).trans ((Ih (Lb n F E k) λp hp=>?_).trans ((Nx (H':=Abs.hl ([]++(spL n E k V).map Grp.dead)) ?_ ?_).trans (JI (by omega) (λG hG=>by cases hG) ?_)))
 ·rw[f2]
  simp only[Lb,Ag,Al,Ay] at hp;rcases hp with rfl|rfl|rfl<;>first|rfl|assumption
 ·simp[Aw.kill,Abs.hl]
 ·intro g hg
  show _=if g∈spKs n then ((Abs.hl (spL n E k V)).at_ g).dead else (Abs.hl (spL n E k V)).at_ g
  have hlen:(Abs.hl (spL n E k V)).n=n+1:=Qk n E k V;have hg':g<n+1:=by rw[<-hlen];exact hg
  rw[Ai (by
   cases g with
   |zero=>simp[spKs]
   |succ i=>exact VJ (by omega)),Dt,Dt,List.nil_append]
  have hg2:g<(spL n E k V).length:=by rw[Qk];exact hg'
  simp[List.getD,hg2]
 ·intro i _
  have hd:ltV 0 (La n (outE (E.take k))):=trivial;have hf:ltV 0 F:=Cz _ _ hF;simp only[Er,Lb]
  repeat' split
  all_goals first
   |exact hd
   |exact hf
   |trivial
noncomputable def Fx (n:Nat) (F:List Int) (E:List (Int × Int)):List Bool:=(List.range n).map (Fe E F)
theorem GW(n:Nat)(F:List Int)(E:List (Int × Int)):(Fx n F E).length=n:=by simp[Fx]
def z1g:AC->AC
 |.seq _ (.seq _ (.seq _ r))=>r
 |c=>c
theorem OK(n:Nat)(FV:AV)(hPF:FV.pure=true)(E:List (Int × Int))(hn:n<=1024)(hEl:E.length<=5000)(hr:InR n [] E){Q:Ex->Env->Aw->Prop}
 (h:T Tryz.prog 67 0 (z1g FG) (Er [(0,.int .i64 n),(1,FV),(7,La n (outE E))]) (Abs.hl []) Q):T Tryz.prog 67 0 FG (entry [.int .i64 n,FV,Sg E]) (Abs.hl []) Q:=by
 have hP:=HT E;unfold FG;refine NH (W_T ?_);(with_reducible repeat'(first|(simp(disch:=omega)only[push_cast,↓zz,seval])|refine Aa ?_ ?_|(first|refine Ac ?_ ?_|refine Ab ?_ ?_)<;>intro hc<;>(try simp only[push_cast] at hc)|omega|intro _));refine NH (W_T ?_);(with_reducible repeat'(first|(simp(disch:=omega)only[push_cast,↓zz,seval])|refine Aa ?_ ?_|(first|refine Ac ?_ ?_|refine Ab ?_ ?_)<;>intro hc<;>(try simp only[push_cast] at hc)|omega|intro _));refine NH (W_T ?_);(with_reducible repeat'(first|(simp(disch:=omega)only[push_cast,↓zz,seval])|refine Aa ?_ ?_|(first|refine Ac ?_ ?_|refine Ab ?_ ?_)<;>intro hc<;>(try simp only[push_cast] at hc)|omega|intro _));refine Bu (I9 (λ(s:Nat × (Nat->Nat))=>s.1<=E.length) (λs=>E.length-s.1) (λs=>Er (J5 n FV E s.1)) (λs=>Abs.hl (spL n E s.1 s.2)) (0,λ_=>1) (by simp) ?_ ?_)
 ·exact z7q rfl rfl rfl rfl rfl rfl
 rintro⟨k,V⟩ hk;simp only at hk ⊢;rcases Am k E.length with hkl|hkl
 ·have he:=hr.e _ (BA hkl)
  have estep:=λi h=>z1a (E:=E) (k:=k) (i:=i) hkl h;generalize hre:nth E k=e at *;obtain⟨i,hi⟩:∃i:Nat,e.1=i:=⟨e.1.toNat,by omega⟩;have hin:i<n:=by omega
  have hni:¬n=i:=by omega
  have e1:=estep i hi;simp only[J5,spL];have hFl:(spF n V (outE (E.take k))).length=n:=by simp[spF]
  have hTl:(spT n V (outE (E.take k))).length=n:=by simp[spT]
  have gI:∀G,(spF n V (outE (E.take k))++[G]).getD i default=spG (V i) (outE (E.take k) i):=λG=>by
   rw[Aq,A8 (by omega),<-Aq];exact Ct hin
  have gR:∀G,(spF n V (outE (E.take k))++[G]).getD n default=G:=λG=>by
   rw[Aq,AD (by omega)];simp[hFl]
  have tI:(spT n V (outE (E.take k))).getD i .any=.ref (i+1) (V i) 0 (outE (E.take k) i).length:=Ct hin
  have sR:∀G G',setQ (spF n V (outE (E.take k))++[G]) n G'=some (spF n V (outE (E.take k))++[G']):=λG G'=>by
   have:=Qg (spF n V (outE (E.take k))) G G'
   rwa [hFl] at this
  have sI:∀G G',setQ (spF n V (outE (E.take k))++[G]) i G'=some ((spF n V (outE (E.take k))).set i G'++[G]):=λG G'=>Qh _ _ _ (by omega)
  have gR2:∀G G',((spF n V (outE (E.take k))).set i G'++[G]).getD n default=G:=λG G'=>by
   rw[Aq,AD (by simp[hFl])];simp[hFl]
  have hSB:∀R G,Dd 1 [i+1] (spF n V (outE (E.take k))++[R]) ((spF n V (outE (E.take k))).set i G++[R]):=λR G=>by
   rw[<-DY _ _ (by omega)];exact Ip (by simp;omega)
  generalize hF:spF n V (outE (E.take k))=FF at *;generalize hT:spT n V (outE (E.take k))=TT at *;generalize hD:outE (E.take k) i=Di at *;have hEx:(!Di.isEmpty||(Di.map (AV.int .i64)).isEmpty)=true:=by cases Di<;>rfl
  have hDl:Di.length<=5000:=by rw[<-hD];have:=Qj (E.take k) i;simp at this;omega
  refine W_T ?_;(with_reducible repeat'(first|(simp(disch:=omega)only[push_cast,↓zz,seval,hP,hre,hi,hFl,hTl,gI,gR,gR2,sR,sI,tI,List.cons_append,Ao,List.length_cons])|refine Aa ?_ ?_|(first|refine Ac ?_ ?_|refine Ab ?_ ?_)<;>intro hc<;>(try simp only[push_cast] at hc)|omega|intro _));refine Du [i+1] ?_;(with_reducible repeat'(first|(simp(disch:=omega)only[push_cast,↓zz,seval,xx,Ag,Al,Ay,Bn,B6,Ax,B3,B2,hP,hre,hi,hFl,hTl,gI,gR,gR2,sR,sI,tI,List.cons_append,Ao,List.length_cons,hni,hEx])|refine Aa ?_ ?_|(first|refine Ac ?_ ?_|refine Ab ?_ ?_)<;>intro hc<;>(try simp only[push_cast] at hc)|omega|intro _))
  ·exact hSB _ _
  refine⟨(k+1,setV V i (V i+1)),zi9 (gar:=[⟨2,1,true,[.agg [.int .i64 i,.int .i64 e.2]]⟩]) hPF ?_ ?_ ?_ ?_ ?_ ?_ ?_,by simp only;omega,by simp only;omega⟩
  ·rw[spL,e1,<-hF,<-hT,<-hD,ze5 hin,ze6 hin]
   rfl
  all_goals rfl
 ·obtain rfl:k=E.length:=by omega
  simp only[J5,spL];refine W_T ?_;(with_reducible repeat'(first|(simp(disch:=omega)only[push_cast,↓zz,seval,hP])|refine Aa ?_ ?_|(first|refine Ac ?_ ?_|refine Ab ?_ ?_)<;>intro hc<;>(try simp only[push_cast] at hc)|omega|intro _));have hsl:(⟨1,1,true,spT n V (outE E)⟩::spF n V (outE E):List Grp)=spL n E E.length V:=by rw[spL,AZ]
  rw[hsl]
  have el:Lb n FV E E.length=[(0,.int .i64 n),(1,FV),(7,La n (outE E))]:=by
   simp only[Lb,AZ]
  refine NK (z1f (F:=FV) (E:=E) (k:=E.length) (V:=V) hPF rfl rfl rfl) ?_;rw[el];exact h
theorem Ny(n:Nat)(F:List Int)(E:List (Int × Int))(hn:n<=1024)(h0:F≠[])(hFl:F.length<=5000)(hEl:E.length<=5000)(hr:InR n F E):
 PC Tryz.prog 124 [.int .i64 n,Gr F,Sg E] (Li (Fx n F E)):=by
 have hPF:AY (F.map (AV.int .i64))=true:=BK .i64 _;refine ze4 Kp (OK n (Gr F) hPF E hn hEl ⟨by simp,hr.e⟩ (W_T ?_));unfold FG;simp only[z1g,La]
 have pL:AY ((List.range n).map λi=>Gr (outE E i))=true:=Cf.2 λx hx=>by
  obtain⟨i,_,rfl⟩:=As.1 hx;exact BK .i64 _
 have lL:((List.range n).map λi=>Gr (outE E i)).length=n:=by simp
 have aL:∀i,i<n->((List.range n).map λi=>Gr (outE E i)).getD i .any=Gr (outE E i):=λi hi=>Ct hi;have aL2:∀i,i<n->((List.range n).map λi=>Gr (outE E i))[i]? = some (Gr (outE E i)):=λi hi=>by simp[hi]
 generalize hLe:(List.range n).map (λi=>Gr (outE E i))=L at *
 have fB:List.replicate n (AV.bool false)=spB n λ_=>false:=by
  refine BF (by simp[spB]) λi h1 h2=>?_;simp[spB]
 have pB:∀on,AY (spB n on)=true:=λon=>Cf.2 λx hx=>by
  obtain⟨i,_,rfl⟩:=As.1 hx;rfl
 have lB:∀on,(spB n on).length=n:=λon=>by simp[spB]
 have aB:∀on i,i<n->(spB n on).getD i .any=.bool (on i):=λon i hi=>Ct hi;(with_reducible repeat'(first|(simp(disch:=omega)only[push_cast,↓zz,seval,pL,lL])|refine Aa ?_ ?_|(first|refine Ac ?_ ?_|refine Ab ?_ ?_)<;>intro hc<;>(try simp only[push_cast] at hc)|omega|intro _))
 (refine Ig [] (TU F h0 (by omega)) (by decide) (by simp) (by (simp(disch:=omega)only[push_cast,↓zz,seval])) (by (simp(disch:=omega)only[push_cast,↓zz,seval])) (by (simp(disch:=omega)only[push_cast,↓zz,seval])) (by (simp(disch:=omega)only[push_cast,↓zz,seval,Ag,Al,Ay,Ce,CV,Cs])) ?_)
 rintro y H' ⟨rfl,rfl⟩;refine⟨_,rfl,by simp,?_⟩;(with_reducible repeat'(first|(simp(disch:=omega)only[push_cast,↓zz,seval,pL,lL])|refine Aa ?_ ?_|(first|refine Ac ?_ ?_|refine Ab ?_ ?_)<;>intro hc<;>(try simp only[push_cast] at hc)|omega|intro _));have hs0:=z1d (λ_=>false) (λi=>(outE E i).length) 5000 (λi=>by have:=Qj E i;omega) n;have hs1:n * (5000+1)<=1024 * 5001:=AQ _ hn
 refine Bu (B5 (λ(s:(Nat->Bool) × List Int)=>TS n F E s.1 s.2/\s.2.length+sumU n s.1 (λi=>(outE E i).length)<=6000000) (λs=>s.2.length+sumU n s.1 (λi=>(outE E i).length))
  (λs=>[(7,.lst 1 L),(10,.ref 0 1 0 n),(11,.ref 1 1 0 s.2.length)]) (λs=>[⟨1,1,true,spB n s.1⟩,⟨1,1,false,s.2.map (AV.int .i64)⟩]) (λenv _=>[Cc 1 (env 10),Cc 1 (env 11)]) (λ_=>false,F) ⟨z7o n F E,by simp only;omega⟩ ?_ ?_)
 ·(with_reducible repeat'(first|(simp(disch:=omega)only[push_cast,↓zz,seval,pL,lL,fB,pB,lB])|refine Aa ?_ ?_|(first|refine Ac ?_ ?_|refine Ab ?_ ?_)<;>intro hc<;>(try simp only[push_cast] at hc)|omega|intro _))
 rintro⟨on,td⟩ ⟨hI,hb⟩;simp only at hI hb;clear hs0 hs1;rcases List.eq_nil_or_concat td with rfl|⟨t,x,rfl⟩
 ·have hd:=z1b hr hI
  have hB:spB n on=(Fx n F E).map AV.bool:=by
   simp only[spB,Fx,CM];exact AB λi _=>by simp[hd i]
  have rl:=GW n F E;have rt:List.take n (Fx n F E)=Fx n F E:=Ap (by rw[rl];exact Ae _);refine W_T ?_;(with_reducible repeat'(first|(simp(disch:=omega)only[push_cast,↓zz,seval,pL,lL,hB,pB,lB,rl,rt])|refine Aa ?_ ?_|(first|refine Ac ?_ ?_|refine Ab ?_ ?_)<;>intro hc<;>(try simp only[push_cast] at hc)|omega|intro _))
 ·rw[List.concat_eq_append] at *
  have hx:=(hI.r1 x (by simp)).rng hr;obtain⟨s,rfl⟩:∃s:Nat,x=s:=⟨x.toNat,by omega⟩;have hsn:s<n:=by omega
  have aS:=aL s hsn;have aS2:=aL2 s hsn;have aBs:=aB on s hsn;have j0:(t.map (AV.int .i64)++[AV.int .i64 (s:Int)]).getD t.length .any=.int .i64 s:=by simp[List.getD]
  have j1:nth (t++[(s:Int)]) t.length=s:=by simp[nth]
  have hll:(t++[(s:Int)]).length=t.length+1:=by simp
  rw[hll] at hb ⊢;refine NH (W_T ?_);(with_reducible repeat'(first|(simp(disch:=omega)only[push_cast,↓zz,seval,pL,lL])|refine Aa ?_ ?_|(first|refine Ac ?_ ?_|refine Ab ?_ ?_)<;>intro hc<;>(try simp only[push_cast] at hc)|omega|intro _));refine Y1 (NH (W_T ?_));(with_reducible repeat'(first|(simp(disch:=omega)only[push_cast,↓zz,seval,pL,lL,pB,lB,j0])|refine Aa ?_ ?_|(first|refine Ac ?_ ?_|refine Ab ?_ ?_)<;>intro hc<;>(try simp only[push_cast] at hc)|omega|intro _));refine NH (W_T ?_);(with_reducible repeat'(first|(simp(disch:=omega)only[push_cast,↓zz,seval,pL,lL,pB,lB])|refine Aa ?_ ?_|(first|refine Ac ?_ ?_|refine Ab ?_ ?_)<;>intro hc<;>(try simp only[push_cast] at hc)|omega|intro _));refine NK (H':=Abs.hl [⟨1,1,true,spB n on⟩,⟨1,1,false,t.map (AV.int .i64)⟩]) (ZI (g:=1) (t.map (AV.int .i64)) [.int .i64 s] (by decide) (by simp) rfl) (W_T ?_);have hsk:=@ze2 n s F E on t hI;have htk:=ze3 hI;have hsu:=λh=>VI (on:=on) (deg:=λi=>(outE E i).length) (s:=s) h hsn;have fs:=z1e (on:=on) hsn;have hoe:=Qj E s;cases hon:on s with
  |true =>
   rw[hon] at aBs;(with_reducible repeat'(first|(simp(disch:=omega)only[push_cast,↓zz,seval,pL,lL,pB,lB,aBs])|refine Aa ?_ ?_|(first|refine Ac ?_ ?_|refine Ab ?_ ?_)<;>intro hc<;>(try simp only[push_cast] at hc)|omega|intro _))
   all_goals
    refine⟨(on,t),?_⟩;(with_reducible repeat'(first|(simp(disch:=omega)only[push_cast,↓zz,seval])|refine Aa ?_ ?_|(first|refine Ac ?_ ?_|refine Ab ?_ ?_)<;>intro hc<;>(try simp only[push_cast] at hc)|omega|intro _));exact hsk hon
  |false =>
   rw[hon] at aBs;(with_reducible repeat'(first|(simp(disch:=omega)only[push_cast,↓zz,seval,pL,lL,pB,lB,aBs,aS,aS2,fs])|refine Aa ?_ ?_|(first|refine Ac ?_ ?_|refine Ab ?_ ?_)<;>intro hc<;>(try simp only[push_cast] at hc)|omega|intro _))
   all_goals
    refine⟨(setB on s,t++outE E s),?_⟩;(with_reducible repeat'(first|(simp(disch:=omega)only[push_cast,↓zz,seval,A9,Ao])|refine Aa ?_ ?_|(first|refine Ac ?_ ?_|refine Ab ?_ ?_)<;>intro hc<;>(try simp only[push_cast] at hc)|omega|intro _))
    all_goals (have h5:=hsu hon;omega)
theorem Si{E:List (Int × Int)}{s:Int}:¬Reach E [] s:=λh=>by
 induction h with
 |base h=>cases h
 |step _ _ ih=>exact ih
theorem XR(n:Nat)(E:List (Int × Int))(hn:n<=1024)(hEl:E.length<=5000)(hr:InR n [] E):
 PC Tryz.prog 124 [.int .i64 n,.nilS,Sg E] (Li (Fx n [] E)):=by
 refine ze4 Kp (OK n .nilS rfl E hn hEl hr (W_T ?_));unfold FG;simp only[z1g,La]
 have pL:AY ((List.range n).map λi=>Gr (outE E i))=true:=Cf.2 λx hx=>by
  obtain⟨i,_,rfl⟩:=As.1 hx;exact BK .i64 _
 have lL:((List.range n).map λi=>Gr (outE E i)).length=n:=by simp
 generalize hLe:(List.range n).map (λi=>Gr (outE E i))=L at *
 have fB:List.replicate n (AV.bool false)=(Fx n [] E).map AV.bool:=by
  refine BF (by simp[Fx]) λi h1 h2=>?_;simp[Fx,Fe,Si]
 have pB:AY ((Fx n [] E).map AV.bool)=true:=F1 (λ_=>rfl) _;have rl:=GW n [] E;have rt:List.take n (Fx n [] E)=Fx n [] E:=Ap (by rw[rl];exact Ae _);(with_reducible repeat'(first|(simp(disch:=omega)only[push_cast,↓zz,seval,pL,lL])|refine Aa ?_ ?_|(first|refine Ac ?_ ?_|refine Ab ?_ ?_)<;>intro hc<;>(try simp only[push_cast] at hc)|refine eK HU ?_|refine eQ HU ?_|refine eG HU ?_|((first|refine cK HU ?_|refine cQ HU ?_|refine cG HU ?_);(simp(disch:=omega)only[push_cast,↓zz,seval,pL,lL]);(fail_if_success change False))|omega|intro _))
 refine Bu (B5 (λ(_:Unit)=>True) (λ_=>0)
  (λs=>[(7,.lst 1 L),(10,.ref 0 1 0 n),(11,.nilS)]) (λs=>[⟨1,1,true,(Fx n [] E).map AV.bool⟩]) (λenv _=>[Cc 1 (env 10)]) () trivial ?_ ?_)
 ·(with_reducible repeat'(first|(simp(disch:=omega)only[push_cast,↓zz,seval,pL,lL,fB,pB])|refine Aa ?_ ?_|(first|refine Ac ?_ ?_|refine Ab ?_ ?_)<;>intro hc<;>(try simp only[push_cast] at hc)|omega|intro _))
 rintro⟨⟩ _;refine W_T ?_;(with_reducible repeat'(first|(simp(disch:=omega)only[push_cast,↓zz,seval,pL,lL,pB,rl,rt])|refine Aa ?_ ?_|(first|refine Ac ?_ ?_|refine Ab ?_ ?_)<;>intro hc<;>(try simp only[push_cast] at hc)|omega|intro _))
 all_goals trace_state
def Ix{α:Type}(p:α->Bool):List α->Nat->Option Nat
 |[],_=>none
 |x::l,i=>if p x then Ix p l (i+1) else some i
theorem VK{α:Type}[Inhabited α]{p:α->Bool}{l:List α}{k:Nat}(h:k<l.length):Ix p (l.drop k) k=if p (nth l k) then Ix p (l.drop (k+1)) (k+1) else some k:=by rw[drop_at h,Ix]
theorem Jn{α:Type}{p:α->Bool}:∀{l:List α}{i:Nat},Ix p l i=none->∀x∈l,p x=true
 |[],_,_,_,h=>by cases h
 |y::l,i,h,x,hx=>by
  rw[Ix] at h;split at h
  ·rename_i hp
   rcases Ag.1 hx with rfl|hx
   ·exact hp
   ·exact Jn h x hx
  ·cases h
def GA(d:Desc)(f:FP):Bool:=J4 d f.from_&&(GH d.in_ f.guards&&IL d f.out f.guards)
open Classical in
noncomputable def GB (d:Desc):Int × Int :=
 if NO d=false then (1,0) else
  match Ix (Io d) d.rules 0 with
  |some i=>(2,i)
  |none=>match Ix (GA d) d.finals 0 with
   |some i=>(3,i)
   |none=>if cycP d.rules d.states.toNat then (4,0) else (0,0)
def GI(d:Desc):Prop:=(∀r∈d.rules,∀t∈r.out,t.parts.length<1000000000000)/\∀f∈d.finals,∀t∈f.out,t.parts.length<1000000000000
theorem z1h{d:Desc}(h:NO d=true):(1<=d.states/\d.states<=1024)/\d.rules.length<=4096/\d.finals.length<=4096/\0<=d.start/\d.start<d.states:=by
 simp only[NO,J4,Ad,Ak] at h;omega
theorem z1i{d:Desc}{r:Rule}(h:Io d r=true):(0<=r.from_/\r.from_<d.states)/\0<=r.to_/\r.to_<d.states:=by
 simp only[Io,J4,Ad,Ak] at h;omega
theorem XS(d:Desc)(hf:GI d):PC Tryz.prog 82 [Dh d] (.tup [.int .i64 (GB d).1,.int .i64 (GB d).2]):=by
 have hH:=z0u d;have hPr:=BS d.rules;have hPf:=BI d.finals;refine BH R2 ?_;unfold Lp;cases hh:NO d with
 |false =>
  rw[hh] at hH;rw[GB,Ai hh];(with_reducible repeat'(first|(simp(disch:=omega)only[push_cast,↓zz,seval])|refine Aa ?_ ?_|(first|refine Ac ?_ ?_|refine Ab ?_ ?_)<;>intro hc<;>(try simp only[push_cast] at hc)|refine eK hH ?_|refine eQ hH ?_|refine eG hH ?_|((first|refine cK hH ?_|refine cQ hH ?_|refine cG hH ?_);(simp(disch:=omega)only[push_cast,↓zz,seval]);(fail_if_success change False))|omega|intro _))
 |true =>
 rw[hh] at hH;obtain⟨b1,b2,b3,b4⟩:=z1h hh
 have hW:GB d=match Ix (Io d) d.rules 0 with
  |some i=>(2,(i:Int))
  |none=>match Ix (GA d) d.finals 0 with
   |some i=>(3,(i:Int))
   |none=>if (@decide (cycP d.rules d.states.toNat) (Classical.propDecidable _))=true then (4,0) else (0,0):=by
  rw[GB,Ah (by simp[hh])];split
  ·rfl
  ·split
   ·rfl
   ·by_cases hc:cycP d.rules d.states.toNat
    ·rw[Ai hc,Ai (@BC _ (Classical.propDecidable _) hc)]
    ·rw[Ah hc,Ah (by rw[@Cb _ (Classical.propDecidable _) hc];simp)]
 (with_reducible repeat'(first|(simp(disch:=omega)only[push_cast,↓zz,seval])|refine Aa ?_ ?_|(first|refine Ac ?_ ?_|refine Ab ?_ ?_)<;>intro hc<;>(try simp only[push_cast] at hc)|refine eK hH ?_|refine eQ hH ?_|refine eG hH ?_|((first|refine cK hH ?_|refine cQ hH ?_|refine cG hH ?_);(simp(disch:=omega)only[push_cast,↓zz,seval]);(fail_if_success change False))|omega|intro _))
 refine Bu (B5 (λ(k:Nat)=>k<=d.rules.length/\Ix (Io d) d.rules 0=Ix (Io d) (d.rules.drop k) k) (λk=>d.rules.length-k)
  (λk=>[(1,.ptr 0 1 0 0),(12,F2 d.rules),(13,.int .i64 d.rules.length),(14,.int .i64 k)]) (λk=>[⟨6,1,true,[Dh d]⟩]) (λenv _=>[Cc 1 (env 1)]) 0 ⟨by simp,rfl⟩ ?_ ?_)
 ·(with_reducible repeat'(first|(simp(disch:=omega)only[push_cast,↓zz,seval,hPr,hPf])|refine Aa ?_ ?_|(first|refine Ac ?_ ?_|refine Ab ?_ ?_)<;>intro hc<;>(try simp only[push_cast] at hc)|omega|intro _))
 rintro k ⟨k1,k2⟩;rcases Am k d.rules.length with hk|hk
 ·have hr:=z0v d (nth d.rules k) (hf.1 _ (BA hk))
  rw[VK hk] at k2;cases hb:Io d (nth d.rules k) with
  |false =>
   rw[hb] at hr k2;simp only[A7,Bo] at k2;rw[hW,k2];refine W_T ?_;(with_reducible repeat'(first|(simp(disch:=omega)only[push_cast,↓zz,seval,hPr,hPf])|refine Aa ?_ ?_|(first|refine Ac ?_ ?_|refine Ab ?_ ?_)<;>intro hc<;>(try simp only[push_cast] at hc)|refine eK hr ?_|refine eQ hr ?_|refine eG hr ?_|((first|refine cK hr ?_|refine cQ hr ?_|refine cG hr ?_);(simp(disch:=omega)only[push_cast,↓zz,seval,hPr,hPf]);(fail_if_success change False))|omega|intro _))
  |true =>
   rw[hb] at hr k2;simp only[Bl] at k2;refine W_T ?_;(with_reducible repeat'(first|(simp(disch:=omega)only[push_cast,↓zz,seval,hPr,hPf])|refine Aa ?_ ?_|(first|refine Ac ?_ ?_|refine Ab ?_ ?_)<;>intro hc<;>(try simp only[push_cast] at hc)|refine eK hr ?_|refine eQ hr ?_|refine eG hr ?_|((first|refine cK hr ?_|refine cQ hr ?_|refine cG hr ?_);(simp(disch:=omega)only[push_cast,↓zz,seval,hPr,hPf]);(fail_if_success change False))|omega|intro _))
   all_goals exact⟨k+1,by push_cast,⟨by omega,k2⟩,by omega⟩
 ·rw[Az hk,Ix] at k2
  have hall:=Jn k2;have hC:=XP d ⟨b1,b2,λr hr=>z1i (hall r hr)⟩;rw[k2] at hW;simp only at hW;refine W_T ?_;(with_reducible repeat'(first|(simp(disch:=omega)only[push_cast,↓zz,seval,hPr,hPf])|refine Aa ?_ ?_|(first|refine Ac ?_ ?_|refine Ab ?_ ?_)<;>intro hc<;>(try simp only[push_cast] at hc)|omega|intro _))
  refine Bu (B5 (λ(k:Nat)=>k<=d.finals.length/\Ix (GA d) d.finals 0=Ix (GA d) (d.finals.drop k) k) (λk=>d.finals.length-k)
   (λk=>[(1,.ptr 0 1 0 0),(26,FN d.finals),(27,.int .i64 d.finals.length),(28,.int .i64 k)]) (λk=>[⟨6,1,true,[Dh d]⟩]) (λenv _=>[Cc 1 (env 1)]) 0 ⟨by simp,rfl⟩ ?_ ?_)
  ·(with_reducible repeat'(first|(simp(disch:=omega)only[push_cast,↓zz,seval,hPr,hPf])|refine Aa ?_ ?_|(first|refine Ac ?_ ?_|refine Ab ?_ ?_)<;>intro hc<;>(try simp only[push_cast] at hc)|omega|intro _))
  rintro j ⟨j1,j2⟩;rcases Am j d.finals.length with hj|hj
  ·generalize hfe:nth d.finals j=f at *
   have hfm:f∈d.finals:=by rw[<-hfe];exact BA hj
   have hfo:=hf.2 f hfm;have h1:=Jl d f.from_;have h2:=Nu d.in_ f.guards;have hP:=AO f.guards;have hT:=Co f.out;rw[VK hj,hfe] at j2;cases hg:GH d.in_ f.guards with
   |false =>
    have hb:GA d f=false:=by rw[GA,hg];simp
    rw[hg] at h2;rw[hb] at j2;simp only[A7,Bo] at j2;rw[hW,j2];refine W_T ?_;(with_reducible repeat'(first|(simp(disch:=omega)only[push_cast,↓zz,seval,hPr,hPf,hfe,hP,hT])|refine Aa ?_ ?_|(first|refine Ac ?_ ?_|refine Ab ?_ ?_)<;>intro hc<;>(try simp only[push_cast] at hc)|refine eK h1 ?_|refine eQ h1 ?_|refine eG h1 ?_|refine eK h2 ?_|refine eQ h2 ?_|refine eG h2 ?_|((first|refine cK h1 ?_|refine cQ h1 ?_|refine cG h1 ?_|refine cK h2 ?_|refine cQ h2 ?_|refine cG h2 ?_);(simp(disch:=omega)only[push_cast,↓zz,seval,hPr,hPf,hfe,hP,hT]);(fail_if_success change False))|omega|intro _))
   |true =>
    rw[hg] at h2;obtain⟨g1,g2⟩:=G9 hg;have h4:=Nv d f.out f.guards hfo (λg hg=>by have:=g2 g hg;omega) (by omega);cases hb:GA d f with
    |false =>
     rw[hb] at j2;simp only[A7,Bo] at j2;rw[hW,j2];rw[GA,hg,A6] at hb;refine W_T ?_;(with_reducible repeat'(first|(simp(disch:=omega)only[push_cast,↓zz,seval,hPr,hPf,hfe,hP,hT])|refine Aa ?_ ?_|(first|refine Ac ?_ ?_|refine Ab ?_ ?_)<;>intro hc<;>(try simp only[push_cast] at hc)|refine eK h1 ?_|refine eQ h1 ?_|refine eG h1 ?_|refine eK h2 ?_|refine eQ h2 ?_|refine eG h2 ?_|refine eK h4 ?_|refine eQ h4 ?_|refine eG h4 ?_|((first|refine cK h1 ?_|refine cQ h1 ?_|refine cG h1 ?_|refine cK h2 ?_|refine cQ h2 ?_|refine cG h2 ?_|refine cK h4 ?_|refine cQ h4 ?_|refine cG h4 ?_);(simp(disch:=omega)only[push_cast,↓zz,seval,hPr,hPf,hfe,hP,hT]);(fail_if_success change False))|omega|intro _))
     all_goals first
      |(exfalso;simp_all;done)
      |trace_state
    |true =>
     rw[hb] at j2;simp only[Bl] at j2;rw[GA,hg,A6,Ad] at hb;rw[hb.1] at h1;rw[hb.2] at h4;refine W_T ?_;(with_reducible repeat'(first|(simp(disch:=omega)only[push_cast,↓zz,seval,hPr,hPf,hfe,hP,hT])|refine Aa ?_ ?_|(first|refine Ac ?_ ?_|refine Ab ?_ ?_)<;>intro hc<;>(try simp only[push_cast] at hc)|refine eK h1 ?_|refine eQ h1 ?_|refine eG h1 ?_|refine eK h2 ?_|refine eQ h2 ?_|refine eG h2 ?_|refine eK h4 ?_|refine eQ h4 ?_|refine eG h4 ?_|((first|refine cK h1 ?_|refine cQ h1 ?_|refine cG h1 ?_|refine cK h2 ?_|refine cQ h2 ?_|refine cG h2 ?_|refine cK h4 ?_|refine cQ h4 ?_|refine cG h4 ?_);(simp(disch:=omega)only[push_cast,↓zz,seval,hPr,hPf,hfe,hP,hT]);(fail_if_success change False))|omega|intro _))
     all_goals exact⟨j+1,by push_cast,⟨by omega,j2⟩,by omega⟩
  ·rw[Az hj,Ix] at j2
   rw[j2] at hW;simp only at hW;generalize @decide (cycP d.rules d.states.toNat) (Classical.propDecidable _)=c at *;refine W_T ?_;rw[hW];cases c
   ·(with_reducible repeat'(first|(simp(disch:=omega)only[push_cast,↓zz,seval,hPr,hPf])|refine Aa ?_ ?_|(first|refine Ac ?_ ?_|refine Ab ?_ ?_)<;>intro hc<;>(try simp only[push_cast] at hc)|refine eK hC ?_|refine eQ hC ?_|refine eG hC ?_|((first|refine cK hC ?_|refine cQ hC ?_|refine cG hC ?_);(simp(disch:=omega)only[push_cast,↓zz,seval,hPr,hPf]);(fail_if_success change False))|omega|intro _))
   ·(with_reducible repeat'(first|(simp(disch:=omega)only[push_cast,↓zz,seval,hPr,hPf])|refine Aa ?_ ?_|(first|refine Ac ?_ ?_|refine Ab ?_ ?_)<;>intro hc<;>(try simp only[push_cast] at hc)|refine eK hC ?_|refine eQ hC ?_|refine eG hC ?_|((first|refine cK hC ?_|refine cQ hC ?_|refine cG hC ?_);(simp(disch:=omega)only[push_cast,↓zz,seval,hPr,hPf]);(fail_if_success change False))|omega|intro _))
    all_goals trace_state
noncomputable def CS (d:Desc):Int:=if (GB d).1=0 then 0 else 2
theorem GX(d:Desc)(hf:GI d):PC Tryz.prog 39 [Dh d] (.int .i64 (CS d)):=by
 have hW:=XS d hf;refine BH Rz ?_;unfold Lm CS;generalize GB d=w at *;by_cases h:w.1=0
 ·rw[Ai h]
  (with_reducible repeat'(first|(simp(disch:=omega)only[push_cast,↓zz,seval,h])|refine Aa ?_ ?_|(first|refine Ac ?_ ?_|refine Ab ?_ ?_)<;>intro hc<;>(try simp only[push_cast] at hc)|refine eK hW ?_|refine eQ hW ?_|refine eG hW ?_|((first|refine cK hW ?_|refine cQ hW ?_|refine cG hW ?_);(simp(disch:=omega)only[push_cast,↓zz,seval,h]);(fail_if_success change False))|omega|intro _))
 ·rw[Ah h]
  (with_reducible repeat'(first|(simp(disch:=omega)only[push_cast,↓zz,seval,h])|refine Aa ?_ ?_|(first|refine Ac ?_ ?_|refine Ab ?_ ?_)<;>intro hc<;>(try simp only[push_cast] at hc)|refine eK hW ?_|refine eQ hW ?_|refine eG hW ?_|((first|refine cK hW ?_|refine cQ hW ?_|refine cG hW ?_);(simp(disch:=omega)only[push_cast,↓zz,seval,h]);(fail_if_success change False))|omega|intro _))
  all_goals trace_state
theorem fold_at{α β:Type}[Inhabited α]{f:β->α->β}{l:List α}{k:Nat}{s:β}(h:k<l.length):(l.drop k).foldl f s=(l.drop (k+1)).foldl f (f s (nth l k)):=by rw[drop_at h,List.foldl_cons]
def freeB(d:Desc):Bool:=d.rules.all λr=>!DT r
def widF(n:Int)(r:Rule):Int:=max n r.guards.length
def zib(d:Desc):Int:=d.rules.foldl widF 0
def aheF(n:Int)(r:Rule):Int:=max n (r.guards.length-max r.eat 0)
def zic(d:Desc):Int:=d.rules.foldl aheF 0
def lonF(n:Int)(r:Rule):Int:=max n r.out.length
def lonG(n:Int)(f:FP):Int:=max n f.out.length
def longV(d:Desc):Int:=d.finals.foldl lonG (d.rules.foldl lonF 0)
theorem XT(a b:Int):PC Tryz.prog 30 [.int .i64 a,.int .i64 b] (Dh ⟨a,b,1,0,[],[]⟩):=by
 refine BH Rx ?_;unfold Lk;(with_reducible repeat'(first|(simp(disch:=omega)only[push_cast,↓zz,seval])|refine Aa ?_ ?_|(first|refine Ac ?_ ?_|refine Ab ?_ ?_)<;>intro hc<;>(try simp only[push_cast] at hc)|omega|intro _))
 all_goals trace_state
theorem Nz(l:List Span)(hl:l.length<=1000000000000):PC Tryz.prog 95 [AP l] (AP l):=by
 by_cases h0:l=[]
 ·subst h0
  refine Rc ?_ ?_
  ·refine BH Dv ?_
   unfold CF;(with_reducible repeat'(first|(simp(disch:=omega)only[push_cast,↓zz,seval])|refine Aa ?_ ?_|(first|refine Ac ?_ ?_|refine Ab ?_ ?_)<;>intro hc<;>(try simp only[push_cast] at hc)|omega|intro _))
  ·refine BH Dv ?_
   unfold CF;(with_reducible repeat'(first|(simp(disch:=omega)only[push_cast,↓zz,seval])|refine Aa ?_ ?_|(first|refine Ac ?_ ?_|refine Ab ?_ ?_)<;>intro hc<;>(try simp only[push_cast] at hc)|omega|intro _))
 refine BH Dv ?_;unfold CF;(with_reducible repeat'(first|(simp(disch:=omega)only[push_cast,↓zz,seval])|refine Aa ?_ ?_|(first|refine Ac ?_ ?_|refine Ab ?_ ?_)<;>intro hc<;>(try simp only[push_cast] at hc)|omega|intro _))
 all_goals trace_state
theorem mem_map{α:Type}{f:α->Span}{l:List α}{v:Int}:memL (l.map f) v↔∃a∈l,(f a).lo<=v/\v<=(f a).hi:=by
 simp only[memL,As];exact⟨λ⟨_,⟨a,h,rfl⟩,h2⟩=>⟨a,h,h2⟩,λ⟨a,h,h2⟩=>⟨_,⟨a,h,rfl⟩,h2⟩⟩
def Full(l:List Span):Prop:=∀s∈l,s.lo<=s.hi
end Go.Proofs.YtbcjoeadpjfcfaaGreat
namespace Go.Proofs.YtbcjoeadpjfcfaaGreat
open Abs
def Iy(s x:Int):Bool:=decide ((s=1/\0<=x/\x<256)\/(s=2/\0<=x/\x<1114112/\(x<55296\/57344<=x)))
end Go.Proofs.YtbcjoeadpjfcfaaGreat
namespace Go.Proofs.YtbcjoeadpjfcfaaGreat
open Abs
theorem TV{o v:Int}:memL (domL o) v↔Iy o v=true:=by
 unfold domL;simp only[Iy,Ak];split
 ·rw[Cg];simp only[Dz,Ay];omega
 ·split
  ·rw[Cg,Cg];simp only[Dz,Ay];omega
  ·simp only[Dz,false_iff];omega
theorem z7r{o v:Int}(h:Iy o v=true):0<=v/\v<=1114111:=by
 simp only[Iy,Ak] at h;omega
theorem z1j{l d:List Span}(hl:∀v,memL l v->-1073741824<=v/\v<=1073741824)(hp:Full l):IK l d=[]↔∀v,memL l v->memL d v:=by
 obtain⟨m1,m2⟩:=Xm l d;constructor
 ·intro h v hv
  rw[h] at m2;exact AL λhn=>Dz v ((m2 v).2 ⟨hv,hl v hv,hn⟩)
 ·intro h
  cases hm:IK l d with
  |nil=>rfl
  |cons s r =>
   rw[hm] at m1 m2;obtain⟨a,_,c⟩:=(m2 s.lo).1 (Cg.2 (.inl ⟨BU _,m1.1 s (by simp)⟩));exact absurd (h _ a) c
theorem TW{t:Term}{i o n:Int}(h:LD t i o n=true):Gl t=true/\prtB t n=true:=by
 simp only[LD,Hj,Ad] at h;obtain⟨⟨⟨⟨_,hn⟩,hr⟩,_⟩,_⟩:=h;refine⟨hn,?_⟩;rw[prtB,B0];intro p hp;have:=B0.1 hr p hp;simp only[Ad] at this;exact this.1
theorem Gd{d:Desc}(h:CS d=0):NO d=true/\(∀r∈d.rules,Io d r=true)/\∀f∈d.finals,GA d f=true:=by
 have h0:(GB d).1=0:=by
  unfold CS at h;split at h
  ·assumption
  ·omega
 unfold GB at h0;split at h0
 ·simp at h0
 ·rename_i hh
  refine⟨by simpa using hh,?_⟩;split at h0
  ·simp at h0
  ·rename_i hr
   split at h0
   ·simp at h0
   ·rename_i hf
    exact⟨Jn hr,Jn hf⟩
theorem GC{d:Desc}{out:List Term}{gs:List (List Span)}(h:IL d out gs=true):out.length<=64/\∀t∈out,t.parts.length<=4:=by
 simp only[IL,Ad,Ak] at h;refine⟨by omega,λt ht=>?_⟩;have:=B0.1 h.2 t ht;simp only[XM,Ad] at this;have h2:=(TW this.1).1;simp only[Gl,Ad,Ak] at h2;exact h2.2.2
def fwdE(d:Desc):List (Int × Int):=d.rules.map λr=>(r.from_,r.to_)
def bwdE(d:Desc):List (Int × Int):=d.rules.map λr=>(r.to_,r.from_)
def endE(d:Desc):List Int:=d.finals.map (·.from_)
structure Wf(d:Desc):Prop where
 n:∃n:Nat,d.states=n/\1<=n/\n<=1024
 start:0<=d.start/\d.start<d.states
 rl:d.rules.length<=4096
 fl:d.finals.length<=4096
 r:∀r∈d.rules,(0<=r.from_/\r.from_<d.states)/\0<=r.to_/\r.to_<d.states
 f:∀f∈d.finals,0<=f.from_/\f.from_<d.states
theorem Iz{d:Desc}(h:CS d=0):Wf d:=by
 obtain⟨h1,h2,h3⟩:=Gd h;have h4:=z1h h1;refine⟨⟨d.states.toNat,by omega,by omega,by omega⟩,h4.2.2.2,h4.2.1,h4.2.2.1,λr hr=>z1i (h2 r hr),λf hf=>?_⟩;have:=h3 f hf;simp only[GA,J4,Ad,Ak] at this;exact this.1
theorem Wf.fwd{d:Desc}(h:Wf d){n:Nat}(hn:d.states=n):InR n [d.start] (fwdE d) where
 f s hs:=by simp only[Av] at hs;subst hs;have:=h.start;omega
 e e he:=by
  obtain⟨r,hr,rfl⟩:=As.1 he;have:=h.r r hr;simp only;omega
theorem Wf.bwd{d:Desc}(h:Wf d){n:Nat}(hn:d.states=n):InR n (endE d) (bwdE d) where
 f s hs:=by
  obtain⟨f,hf,rfl⟩:=As.1 hs;have:=h.f f hf;omega
 e e he:=by
  obtain⟨r,hr,rfl⟩:=As.1 he;have:=h.r r hr;simp only;omega
noncomputable def I0 (d:Desc):List Bool:=Fx d.states.toNat [d.start] (fwdE d)
noncomputable def goL (d:Desc):List Bool:=Fx d.states.toNat (endE d) (bwdE d)
theorem JP{α β:Type}[Inhabited α]{l:List α}{f:α->β}{k:Nat}(h:k<l.length):(l.map f).take (k+1)=(l.map f).take k++[f (nth l k)]:=by
 rw[<-List.map_take,take_at h,A9,List.map_take];rfl
theorem OL(d:Desc)(h:Wf d):PC Tryz.prog 85 [Dh d] (Li (I0 d)):=by
 obtain⟨n,hn,hn1,hn2⟩:=h.n;have hr:=h.fwd hn;have hrl:=h.rl;have pR:=BS d.rules;have pF:=BI d.finals;have hS:=Ny n [d.start] (fwdE d) hn2 (by simp) (by simp) (by simp[fwdE];omega) hr;have ec:I0 d=Fx n [d.start] (fwdE d):=by rw[I0,hn];rfl
 rw[ec];have hel:(fwdE d).length=d.rules.length:=by simp[fwdE]
 refine BH R4 ?_;unfold Lr;(with_reducible repeat'(first|(simp(disch:=omega)only[push_cast,↓zz,seval,pR,pF])|refine Aa ?_ ?_|(first|refine Ac ?_ ?_|refine Ab ?_ ?_)<;>intro hc<;>(try simp only[push_cast] at hc)|omega|intro _))
 refine Bu (B5 (λ(k:Nat)=>k<=d.rules.length) (λk=>d.rules.length-k)
  (λk=>[(1,.ptr 0 1 0 0),(3,.ref 1 1 0 k),(7,F2 d.rules),(8,.int .i64 d.rules.length),(9,.int .i64 k)]) (λk=>[⟨6,1,true,[Dh d]⟩,⟨2,1,false,((fwdE d).take k).map arcV⟩]) (λenv _=>[Cc 6 (env 1),Cc 2 (env 3)]) 0 (by simp) ?_ ?_)
 ·(with_reducible repeat'(first|(simp(disch:=omega)only[push_cast,↓zz,seval,pR,pF])|refine Aa ?_ ?_|(first|refine Ac ?_ ?_|refine Ab ?_ ?_)<;>intro hc<;>(try simp only[push_cast] at hc)|omega|intro _))
 intro k hk;rcases Am k d.rules.length with hkl|hkl
 ·have e1:(fwdE d).take (k+1)=(fwdE d).take k++[((nth d.rules k).from_,(nth d.rules k).to_)]:=JP hkl
  have hll:((fwdE d).take k).length=k:=by simp[fwdE];omega
  generalize hre:nth d.rules k=r at *;have hgr:=AO r.guards;have hot:=Co r.out;have hpl:=HT ((fwdE d).take k);generalize (fwdE d).take k=L at *;refine W_T ?_;(with_reducible repeat'(first|(simp(disch:=omega)only[push_cast,↓zz,seval,pR,pF,hre,hgr,hot])|refine Aa ?_ ?_|(first|refine Ac ?_ ?_|refine Ab ?_ ?_)<;>intro hc<;>(try simp only[push_cast] at hc)|omega|intro _))
  all_goals
   refine⟨k+1,?_⟩;(with_reducible repeat'(first|(simp(disch:=omega)only[push_cast,↓zz,seval,e1,hpl])|refine Aa ?_ ?_|(first|refine Ac ?_ ?_|refine Ab ?_ ?_)<;>intro hc<;>(try simp only[push_cast] at hc)|omega|intro _))
 ·obtain rfl:k=d.rules.length:=by omega
  have et:(fwdE d).take d.rules.length=fwdE d:=Ap (by omega);have pE:=HT (fwdE d);rw[et];refine W_T ?_;(with_reducible repeat'(first|(simp(disch:=omega)only[push_cast,↓zz,seval,pR,pF,hn,pE,hel,et])|refine Aa ?_ ?_|(first|refine Ac ?_ ?_|refine Ab ?_ ?_)<;>intro hc<;>(try simp only[push_cast] at hc)|refine eK hS ?_|refine eQ hS ?_|refine eG hS ?_|((first|refine cK hS ?_|refine cQ hS ?_|refine cG hS ?_);(simp(disch:=omega)only[push_cast,↓zz,seval,pR,pF,hn,pE,hel,et]);(fail_if_success change False))|omega|intro _))
  all_goals trace_state
theorem N0(d:Desc)(h:Wf d):PC Tryz.prog 86 [Dh d] (Li (goL d)):=by
 obtain⟨n,hn,hn1,hn2⟩:=h.n;have hr:=h.bwd hn;have hrl:=h.rl;have hfl:=h.fl;have pR:=BS d.rules;have pF:=BI d.finals;have ec:goL d=Fx n (endE d) (bwdE d):=by rw[goL,hn];rfl
 rw[ec];have hel:(bwdE d).length=d.rules.length:=by simp[bwdE]
 have hfl2:(endE d).length=d.finals.length:=by simp[endE]
 refine BH PI ?_;unfold Kk;(with_reducible repeat'(first|(simp(disch:=omega)only[push_cast,↓zz,seval,pR,pF])|refine Aa ?_ ?_|(first|refine Ac ?_ ?_|refine Ab ?_ ?_)<;>intro hc<;>(try simp only[push_cast] at hc)|omega|intro _))
 refine Bu (B5 (λ(k:Nat)=>k<=d.rules.length) (λk=>d.rules.length-k)
  (λk=>[(1,.ptr 0 1 0 0),(3,.ref 1 1 0 k),(4,.nilS),(10,F2 d.rules),(11,.int .i64 d.rules.length),(12,.int .i64 k)]) (λk=>[⟨6,1,true,[Dh d]⟩,⟨2,1,false,((bwdE d).take k).map arcV⟩]) (λenv _=>[Cc 6 (env 1),Cc 2 (env 3)]) 0 (by simp) ?_ ?_)
 ·(with_reducible repeat'(first|(simp(disch:=omega)only[push_cast,↓zz,seval,pR,pF])|refine Aa ?_ ?_|(first|refine Ac ?_ ?_|refine Ab ?_ ?_)<;>intro hc<;>(try simp only[push_cast] at hc)|omega|intro _))
 intro k hk;rcases Am k d.rules.length with hkl|hkl
 ·have e1:(bwdE d).take (k+1)=(bwdE d).take k++[((nth d.rules k).to_,(nth d.rules k).from_)]:=JP hkl
  have hll:((bwdE d).take k).length=k:=by simp[bwdE];omega
  generalize hre:nth d.rules k=r at *;have hgr:=AO r.guards;have hot:=Co r.out;have hpl:=HT ((bwdE d).take k);generalize (bwdE d).take k=L at *;refine W_T ?_;(with_reducible repeat'(first|(simp(disch:=omega)only[push_cast,↓zz,seval,pR,pF,hre,hgr,hot])|refine Aa ?_ ?_|(first|refine Ac ?_ ?_|refine Ab ?_ ?_)<;>intro hc<;>(try simp only[push_cast] at hc)|omega|intro _))
  all_goals
   refine⟨k+1,?_⟩;(with_reducible repeat'(first|(simp(disch:=omega)only[push_cast,↓zz,seval,e1,hpl])|refine Aa ?_ ?_|(first|refine Ac ?_ ?_|refine Ab ?_ ?_)<;>intro hc<;>(try simp only[push_cast] at hc)|omega|intro _))
 ·obtain rfl:k=d.rules.length:=by omega
  have et:(bwdE d).take d.rules.length=bwdE d:=Ap (by omega);have pE:=HT (bwdE d);rw[et];clear hk hkl;refine W_T ?_;(with_reducible repeat'(first|(simp(disch:=omega)only[push_cast,↓zz,seval,pR,pF,hn,pE,hel,et])|refine Aa ?_ ?_|(first|refine Ac ?_ ?_|refine Ab ?_ ?_)<;>intro hc<;>(try simp only[push_cast] at hc)|omega|intro _));by_cases hfe:d.finals=[]
  ·have hfe2:endE d=[]:=by rw[endE,hfe];rfl
   rw[hfe2] at hr ⊢;have hS:=XR n (bwdE d) hn2 (by omega) hr;have hfe3:d.finals.length=0:=by rw[hfe];rfl
   refine Bu (B5 (λ(_:Unit)=>True) (λ_=>0)
    (λk=>[(1,.ptr 0 1 0 0),(3,.ref 1 1 0 d.rules.length),(4,.nilS),(26,FN d.finals),(27,.int .i64 d.finals.length),(28,.int .i64 0)]) (λk=>[⟨6,1,true,[Dh d]⟩,⟨2,1,false,(bwdE d).map arcV⟩]) (λenv _=>[Cc 6 (env 1),Cc 2 (env 3)]) () trivial ?_ ?_)
   ·(with_reducible repeat'(first|(simp(disch:=omega)only[push_cast,↓zz,seval,pR,pF,pE])|refine Aa ?_ ?_|(first|refine Ac ?_ ?_|refine Ab ?_ ?_)<;>intro hc<;>(try simp only[push_cast] at hc)|omega|intro _))
   rintro⟨⟩ _;refine W_T ?_;(with_reducible repeat'(first|(simp(disch:=omega)only[push_cast,↓zz,seval,pR,pF,hn,pE,hel,et])|refine Aa ?_ ?_|(first|refine Ac ?_ ?_|refine Ab ?_ ?_)<;>intro hc<;>(try simp only[push_cast] at hc)|refine eK hS ?_|refine eQ hS ?_|refine eG hS ?_|((first|refine cK hS ?_|refine cQ hS ?_|refine cG hS ?_);(simp(disch:=omega)only[push_cast,↓zz,seval,pR,pF,hn,pE,hel,et]);(fail_if_success change False))|omega|intro _))
   all_goals first|omega|trace_state
  ·have hne:endE d≠[]:=by simp[endE,hfe]
   have hS:=Ny n (endE d) (bwdE d) hn2 hne (by omega) (by omega) hr
   refine Bu (B5 (λ(k:Nat)=>k<=d.finals.length) (λk=>d.finals.length-k)
    (λk=>[(1,.ptr 0 1 0 0),(3,.ref 1 1 0 d.rules.length),(4,.ref 2 1 0 k),(26,FN d.finals),(27,.int .i64 d.finals.length),(28,.int .i64 k)]) (λk=>[⟨6,1,true,[Dh d]⟩,⟨2,1,false,(bwdE d).map arcV⟩,⟨1,1,false,((endE d).take k).map (AV.int .i64)⟩]) (λenv _=>[Cc 6 (env 1),Cc 2 (env 3),Cc 1 (env 4)]) 0 (by simp) ?_ ?_)
   ·(with_reducible repeat'(first|(simp(disch:=omega)only[push_cast,↓zz,seval,pR,pF,pE])|refine Aa ?_ ?_|(first|refine Ac ?_ ?_|refine Ab ?_ ?_)<;>intro hc<;>(try simp only[push_cast] at hc)|omega|intro _))
   intro k hk;rcases Am k d.finals.length with hkl|hkl
   ·have e1:(endE d).take (k+1)=(endE d).take k++[(nth d.finals k).from_]:=JP hkl
    have hll:((endE d).take k).length=k:=by simp;omega
    generalize hre:nth d.finals k=r at *;have hgr:=AO r.guards;have hot:=Co r.out;generalize (endE d).take k=L at *;refine W_T ?_;(with_reducible repeat'(first|(simp(disch:=omega)only[push_cast,↓zz,seval,pR,pF,pE,hel,hre,hgr,hot])|refine Aa ?_ ?_|(first|refine Ac ?_ ?_|refine Ab ?_ ?_)<;>intro hc<;>(try simp only[push_cast] at hc)|omega|intro _))
    all_goals
     refine⟨k+1,?_⟩;(with_reducible repeat'(first|(simp(disch:=omega)only[push_cast,↓zz,seval,e1,hel])|refine Aa ?_ ?_|(first|refine Ac ?_ ?_|refine Ab ?_ ?_)<;>intro hc<;>(try simp only[push_cast] at hc)|omega|intro _))
   ·obtain rfl:k=d.finals.length:=by omega
    have et3:(endE d).take d.finals.length=endE d:=Ap (by omega);have pI:AY ((endE d).map (AV.int .i64))=true:=BK .i64 _;rw[et3];clear hk hkl;refine W_T ?_;(with_reducible repeat'(first|(simp(disch:=omega)only[push_cast,↓zz,seval,pR,pF,hn,pE,hel,pI,hfl2,et,et3])|refine Aa ?_ ?_|(first|refine Ac ?_ ?_|refine Ab ?_ ?_)<;>intro hc<;>(try simp only[push_cast] at hc)|refine eK hS ?_|refine eQ hS ?_|refine eG hS ?_|((first|refine cK hS ?_|refine cQ hS ?_|refine cG hS ?_);(simp(disch:=omega)only[push_cast,↓zz,seval,pR,pF,hn,pE,hel,pI,hfl2,et,et3]);(fail_if_success change False))|omega|intro _))
    all_goals trace_state
theorem Ir{α:Type}{p:α->Bool}:∀{l:List α}{i:Nat},(∀x∈l,p x=true)->Ix p l i=none
 |[],_,_=>rfl
 |x::l,i,h=>by rw[Ix,Ai (h x (by simp)),Ir λy hy=>h y (by simp[hy])]
theorem JQ{d:Desc}(h1:NO d=true)(h2:∀r∈d.rules,Io d r=true)(h3:∀f∈d.finals,GA d f=true)(h4:¬cycP d.rules d.states.toNat):GB d=(0,0)/\CS d=0:=by
 have e:GB d=(0,0):=by
  rw[GB,Ah (by simp[h1]),Ir h2];simp only;rw[Ir h3];simp only;rw[Ah h4]
 exact⟨e,by rw[CS,e];rfl⟩
theorem z7s(s:Int):Full (domL s)/\∀v,memL (domL s) v->0<=v/\v<=1114111:=by
 refine⟨λt ht=>?_,λv hv=>z7r (TV.1 hv)⟩;unfold domL at ht;split at ht
 ·simp at ht;subst ht;simp
 ·split at ht
  ·simp at ht;rcases ht with rfl|rfl<;>simp
  ·cases ht
def K1(a b:Int):Desc:=⟨a,b,1,0,[],[]⟩
theorem TX{a b:Int}(ha:a=1\/a=2)(hb:b=1\/b=2):GB (K1 a b)=(0,0)/\CS (K1 a b)=0:=by
 refine JQ (by rcases ha with rfl|rfl<;>rcases hb with rfl|rfl<;>decide) (λr hr=>by cases hr) (λf hf=>by cases hf) ?_;rintro⟨C,hC,j,hj⟩;obtain⟨_,r,hr,_⟩:=hC j hj;cases hr
structure ze8(d:Desc)(k:Nat)(f:Bool)(w a l:Int):Prop where
 le:k<=d.rules.length
 fr:freeB d=(f&&(d.rules.drop k).all λr=>!DT r)
 wi:zib d=(d.rules.drop k).foldl widF w
 ah:zic d=(d.rules.drop k).foldl aheF a
 lo:longV d=d.finals.foldl lonG ((d.rules.drop k).foldl lonF l)
 nn:0<=a
theorem ze8.step{d:Desc}{k:Nat}{f:Bool}{w a l:Int}(h:ze8 d k f w a l)(hk:k<d.rules.length){f2:Bool}{w2 a2 l2:Int}(e1:f2=(f&&!DT (nth d.rules k)))(e2:w2=widF w (nth d.rules k))(e3:a2=aheF a (nth d.rules k))(e4:l2=lonF l (nth d.rules k)):ze8 d (k+1) f2 w2 a2 l2 where
 le:=by omega
 fr:=by rw[h.fr,drop_at hk,List.all_cons,e1,Bool.and_assoc]
 wi:=by rw[h.wi,fold_at hk,e2]
 ah:=by rw[h.ah,fold_at hk,e3]
 lo:=by rw[h.lo,fold_at hk,e4]
 nn:=by have:=h.nn;rw[e3,aheF];omega
end Go.Proofs.YtbcjoeadpjfcfaaGreat
namespace Go.Proofs.YtbcjoeadpjfcfaaGreat
open Abs
end Go.Proofs.YtbcjoeadpjfcfaaGreat
namespace Go.Proofs.YtbcjoeadpjfcfaaGreat
open Abs
structure GOk(i:Int)(gs:List (List Span)):Prop where
 len:gs.length<=4
 short:∀g∈gs,g.length<=64
 some:∀g∈gs,∃v,memL g v
 dom:∀g∈gs,∀v,memL g v->Iy i v=true
theorem OM:∀{l:List Int}{a b:Int},FL l->(∀x∈l,a<=x/\x<=b)->a<=b+1->(l.length:Int)<=b-a+1
 |[],a,b,_,_,h=>by simp;omega
 |x::l,a,b,hr,hm,h=>by
  obtain⟨r1,r2⟩:=AR.1 hr;have hx:=hm x (by simp);have:=OM (a:=x+1) (b:=b) r2 (λy hy=>by have:=r1 y hy;have:=hm y (by simp[hy]);omega) (by omega)
  push_cast [List.length_cons]
  omega
structure zid(now:List Int):Prop where
 ris:FL now
 bd:∀x∈now,-1114111<=x/\x<=1114111
 pos:0<now.length
theorem zid.len{now:List Int}(h:zid now):now.length<=2228223:=by
 have:=OM h.ris h.bd (by omega);omega
end Go.Proofs.YtbcjoeadpjfcfaaGreat
namespace Go.Proofs.YtbcjoeadpjfcfaaGreat
open Abs
structure TOk(t:Term)(i:Int)(gs:List (List Span)):Prop where
 parts:∀p∈t.parts,Gk p gs.length=true
 four:t.parts.length<=4
 sm:-1114111<=t.sum/\t.sum<=1114111
 sort:i=1\/(i=2/\t.parts.length<=1/\∀p∈t.parts,Kt p=true)
theorem TOk.bits{t:Term}{i:Int}{gs:List (List Span)}(h:TOk t i gs):∀p∈t.parts,Hy p=true:=λp hp=>by
 have:=h.parts p hp;simp only[Gk,Ad] at this;exact this.2
theorem TOk.at{t:Term}{i:Int}{gs:List (List Span)}(h:TOk t i gs):∀p∈t.parts,0<=p.at_/\p.at_<gs.length:=λp hp=>AW (h.parts p hp)
end Go.Proofs.YtbcjoeadpjfcfaaGreat
namespace Go.Proofs.YtbcjoeadpjfcfaaGreat
open Abs
def sumT{α:Type}(f:α->Int)(l:List α):Int:=(l.map f).sum
theorem Ql{α:Type}[Inhabited α]{f:α->Int}{l:List α}{k:Nat}(h:k<l.length):sumT f (l.take (k+1))=sumT f (l.take k)+f (nth l k):=by rw[take_at h];simp[sumT]
theorem GJ{α:Type}{f:α->Int}{B:Int}(hf:∀x,0<=f x/\f x<=B):∀l:List α,0<=sumT f l/\sumT f l<=l.length * B
 |[]=>by simp[sumT]
 |x::l=>by
  have h1:=GJ hf l;have h2:=hf x;have e:sumT f (x::l)=f x+sumT f l:=by simp[sumT]
  have e2:((x::l).length:Int) * B=l.length * B+B:=by push_cast [List.length_cons];rw[Int.add_mul,Int.one_mul]
  omega
theorem Jo{α:Type}{f:α->Int}(hf:∀x,0<=f x):∀{l:List α}{x:α},x∈l->f x<=sumT f l
 |y::l,x,h=>by
  have e:sumT f (y::l)=f y+sumT f l:=by simp[sumT]
  have hn:∀m:List α,0<=sumT f m:=λm=>by
   induction m with
   |nil=>simp[sumT]
   |cons z m ih =>
    have e:sumT f (z::m)=f z+sumT f m:=by simp[sumT]
    have:=hf z;omega
  have h1:=hf y;have h2:=hn l;rcases Ag.1 h with rfl|h
  ·omega
  ·have:=Jo hf h
   omega
def szG(g:List Span):Int:=min (g.length:Int) 4000
def szT(t:Term):Int:=1+min (t.parts.length:Int) 4000
theorem VL(g:List Span):0<=szG g/\szG g<=4000:=by unfold szG;omega
theorem VM(t:Term):0<=szT t/\szT t<=4001:=by unfold szT;omega
def I1(gs:List (List Span))(out:List Term):Int:=if 100<gs.length\/200<out.length then 4000 else 1+sumT szG gs+sumT szT out
theorem ON(gs:List (List Span))(out:List Term):PC Tryz.prog 43 [Bg gs,E5 out] (.int .i64 (I1 gs out)):=by
 have hP:=AO gs;have hT:=Co out;refine BH R0 ?_;unfold Ln;by_cases hb:100<gs.length\/200<out.length
 ·rw[I1,Ai hb]
  (with_reducible repeat'(first|(simp(disch:=omega)only[push_cast,↓zz,seval,hP,hT])|refine Aa ?_ ?_|(first|refine Ac ?_ ?_|refine Ab ?_ ?_)<;>intro hc<;>(try simp only[push_cast] at hc)|omega|intro _))
 rw[I1,Ah hb];(with_reducible repeat'(first|(simp(disch:=omega)only[push_cast,↓zz,seval,hP,hT])|refine Aa ?_ ?_|(first|refine Ac ?_ ?_|refine Ab ?_ ?_)<;>intro hc<;>(try simp only[push_cast] at hc)|omega|intro _))
 refine Bu (B5 (λ(k:Nat)=>k<=gs.length) (λk=>gs.length-k)
  (λk=>[(0,Bg gs),(1,E5 out),(5,.int .i64 (1+sumT szG (gs.take k))),(6,.int .i64 k)]) (λk=>[]) (λ_ _=>[]) 0 (by simp) ?_ ?_)
 ·have e0:sumT szG ([]:List (List Span))=0:=rfl
  (with_reducible repeat'(first|(simp(disch:=omega)only[push_cast,↓zz,seval,hP,hT,e0])|refine Aa ?_ ?_|(first|refine Ac ?_ ?_|refine Ab ?_ ?_)<;>intro hc<;>(try simp only[push_cast] at hc)|omega|intro _))
 intro k hk;have hb1:=GJ VL (gs.take k);have hb2:((gs.take k).length:Int) * 4000<=100 * 4000:=BR (by simp;omega) (by omega);rcases Am k gs.length with hkl|hkl
 ·have hst:=Ql (f:=szG) hkl
  have hx:=VL (nth gs k);have hsz:min ((nth gs k).length:Int) 4000=szG (nth gs k):=rfl;generalize hge:nth gs k=g at *;generalize sumT szG (gs.take k)=n at *;have hw:IntKind.i64.wrap (1+n+szG g)=1+n+szG g:=IntWalk.i64_in _ (by omega);refine W_T ?_;(with_reducible repeat'(first|(simp(disch:=omega)only[push_cast,↓zz,seval,hP,hT,hge,hsz,hw])|refine Aa ?_ ?_|(first|refine Ac ?_ ?_|refine Ab ?_ ?_)<;>intro hc<;>(try simp only[push_cast] at hc)|omega|intro _))
  all_goals
   refine⟨k+1,?_⟩;(with_reducible repeat'(first|(simp(disch:=omega)only[push_cast,↓zz,seval,hst])|refine Aa ?_ ?_|(first|refine Ac ?_ ?_|refine Ab ?_ ?_)<;>intro hc<;>(try simp only[push_cast] at hc)|omega|intro _))
  all_goals first
   |omega
   |trace_state
 ·have hkt:gs.take k=gs:=Ap hkl
  rw[hkt] at hb1 hb2 ⊢;generalize sumT szG gs=n at *;refine W_T ?_;(with_reducible repeat'(first|(simp(disch:=omega)only[push_cast,↓zz,seval,hP,hT])|refine Aa ?_ ?_|(first|refine Ac ?_ ?_|refine Ab ?_ ?_)<;>intro hc<;>(try simp only[push_cast] at hc)|omega|intro _))
  refine Bu (B5 (λ(k:Nat)=>k<=out.length) (λk=>out.length-k)
   (λk=>[(1,E5 out),(5,.int .i64 (1+n+sumT szT (out.take k))),(7,.int .i64 k)]) (λk=>[]) (λ_ _=>[]) 0 (by simp) ?_ ?_)
  ·have e0:sumT szT ([]:List Term)=0:=rfl
   (with_reducible repeat'(first|(simp(disch:=omega)only[push_cast,↓zz,seval,hP,hT,e0,Int.add_zero])|refine Aa ?_ ?_|(first|refine Ac ?_ ?_|refine Ab ?_ ?_)<;>intro hc<;>(try simp only[push_cast] at hc)|omega|intro _))
  intro j hj;have hb3:=GJ VM (out.take j);have hb4:((out.take j).length:Int) * 4001<=200 * 4001:=BR (by simp;omega) (by omega);rcases Am j out.length with hjl|hjl
  ·have hst:=Ql (f:=szT) hjl
   have hx:=VM (nth out j);have hsz:szT (nth out j)=1+min ((nth out j).parts.length:Int) 4000:=rfl;generalize hge:nth out j=t at *;generalize sumT szT (out.take j)=m at *;generalize hze:min (t.parts.length:Int) 4000=z at *;have hw:IntKind.i64.wrap (1+n+m+1)=1+n+m+1:=IntWalk.i64_in _ (by omega);have hw2:IntKind.i64.wrap (1+n+m+1+z)=1+n+m+1+z:=IntWalk.i64_in _ (by omega);refine W_T ?_;(with_reducible repeat'(first|(simp(disch:=omega)only[push_cast,↓zz,seval,hP,hT,hge,hze,hw,hw2])|refine Aa ?_ ?_|(first|refine Ac ?_ ?_|refine Ab ?_ ?_)<;>intro hc<;>(try simp only[push_cast] at hc)|omega|intro _))
   all_goals
    refine⟨j+1,?_⟩;(with_reducible repeat'(first|(simp(disch:=omega)only[push_cast,↓zz,seval,hst])|refine Aa ?_ ?_|(first|refine Ac ?_ ?_|refine Ab ?_ ?_)<;>intro hc<;>(try simp only[push_cast] at hc)|omega|intro _))
   all_goals first
    |omega
    |trace_state
  ·have hjt:out.take j=out:=Ap hjl
   rw[hjt];refine W_T ?_;(with_reducible repeat'(first|(simp(disch:=omega)only[push_cast,↓zz,seval,hP,hT])|refine Aa ?_ ?_|(first|refine Ac ?_ ?_|refine Ab ?_ ?_)<;>intro hc<;>(try simp only[push_cast] at hc)|omega|intro _))
   all_goals trace_state
theorem Lc(gs:List (List Span))(out:List Term):0<=I1 gs out/\I1 gs out<=2000000:=by
 unfold I1;have h1:=GJ VL gs;have h2:=GJ VM out;split
 ·omega
 ·omega
def szR(r:Rule):Int:=I1 r.guards r.out
def szF(f:FP):Int:=I1 f.guards f.out
def LF(d:Desc):Bool:=decide (d.rules.length<=80/\d.finals.length<=80)&&decide (sumT szR d.rules+sumT szF d.finals<=1500)
theorem TY(d:Desc):PC Tryz.prog 15 [Dh d] (.bool (LF d)):=by
 have hPr:=BS d.rules;have hPf:=BI d.finals;have sR:∀r,0<=szR r/\szR r<=2000000:=λr=>Lc _ _;have sF:∀f,0<=szF f/\szF f<=2000000:=λr=>Lc _ _;refine BH PE ?_;unfold Kg;by_cases hb:d.rules.length<=80/\d.finals.length<=80
 ·rw[LF,BC hb,A6]
  (with_reducible repeat'(first|(simp(disch:=omega)only[push_cast,↓zz,seval])|refine Aa ?_ ?_|(first|refine Ac ?_ ?_|refine Ab ?_ ?_)<;>intro hc<;>(try simp only[push_cast] at hc)|omega|intro _))
  refine Bu (B5 (λ(k:Nat)=>k<=d.rules.length) (λk=>d.rules.length-k)
   (λk=>[(1,.ptr 0 1 0 0),(3,.int .i64 (sumT szR (d.rules.take k))),(4,.int .i64 k)]) (λk=>[⟨6,1,true,[Dh d]⟩]) (λenv _=>[Cc 1 (env 1)]) 0 (by simp) ?_ ?_)
  ·have e0:sumT szR ([]:List Rule)=0:=rfl
   (with_reducible repeat'(first|(simp(disch:=omega)only[push_cast,↓zz,seval,hPr,hPf,e0])|refine Aa ?_ ?_|(first|refine Ac ?_ ?_|refine Ab ?_ ?_)<;>intro hc<;>(try simp only[push_cast] at hc)|omega|intro _))
  intro k hk;have hb1:=GJ sR (d.rules.take k);have hb2:((d.rules.take k).length:Int) * 2000000<=80 * 2000000:=BR (by simp;omega) (by omega);rcases Am k d.rules.length with hkl|hkl
  ·have hst:=Ql (f:=szR) hkl
   have hx:=sR (nth d.rules k);have hS:=ON (nth d.rules k).guards (nth d.rules k).out;have hsz:I1 (nth d.rules k).guards (nth d.rules k).out=szR (nth d.rules k):=rfl;rw[hsz] at hS;generalize hge:nth d.rules k=r at *;generalize sumT szR (d.rules.take k)=n at *;have hw:IntKind.i64.wrap (n+szR r)=n+szR r:=IntWalk.i64_in _ (by omega);have hpg:=AO r.guards;have hpt:=Co r.out;refine W_T ?_;(with_reducible repeat'(first|(simp(disch:=omega)only[push_cast,↓zz,seval,hPr,hPf,hge,hw,hpg,hpt])|refine Aa ?_ ?_|(first|refine Ac ?_ ?_|refine Ab ?_ ?_)<;>intro hc<;>(try simp only[push_cast] at hc)|refine eK hS ?_|refine eQ hS ?_|refine eG hS ?_|((first|refine cK hS ?_|refine cQ hS ?_|refine cG hS ?_);(simp(disch:=omega)only[push_cast,↓zz,seval,hPr,hPf,hge,hw,hpg,hpt]);(fail_if_success change False))|omega|intro _))
   all_goals
    refine⟨k+1,?_⟩;(with_reducible repeat'(first|(simp(disch:=omega)only[push_cast,↓zz,seval,hst])|refine Aa ?_ ?_|(first|refine Ac ?_ ?_|refine Ab ?_ ?_)<;>intro hc<;>(try simp only[push_cast] at hc)|omega|intro _))
  ·have hkt:d.rules.take k=d.rules:=Ap hkl
   rw[hkt] at hb1 hb2 ⊢;generalize sumT szR d.rules=n at *;refine W_T ?_;(with_reducible repeat'(first|(simp(disch:=omega)only[push_cast,↓zz,seval,hPr,hPf])|refine Aa ?_ ?_|(first|refine Ac ?_ ?_|refine Ab ?_ ?_)<;>intro hc<;>(try simp only[push_cast] at hc)|omega|intro _))
   refine Bu (B5 (λ(k:Nat)=>k<=d.finals.length) (λk=>d.finals.length-k)
    (λk=>[(1,.ptr 0 1 0 0),(3,.int .i64 (n+sumT szF (d.finals.take k))),(5,.int .i64 k)]) (λk=>[⟨6,1,true,[Dh d]⟩]) (λenv _=>[Cc 1 (env 1)]) 0 (by simp) ?_ ?_)
   ·have e0:sumT szF ([]:List FP)=0:=rfl
    (with_reducible repeat'(first|(simp(disch:=omega)only[push_cast,↓zz,seval,hPr,hPf,e0,Int.add_zero])|refine Aa ?_ ?_|(first|refine Ac ?_ ?_|refine Ab ?_ ?_)<;>intro hc<;>(try simp only[push_cast] at hc)|omega|intro _))
   intro j hj;have hb3:=GJ sF (d.finals.take j);have hb4:((d.finals.take j).length:Int) * 2000000<=80 * 2000000:=BR (by simp;omega) (by omega);rcases Am j d.finals.length with hjl|hjl
   ·have hst:=Ql (f:=szF) hjl
    have hx:=sF (nth d.finals j);have hS:=ON (nth d.finals j).guards (nth d.finals j).out;have hsz:I1 (nth d.finals j).guards (nth d.finals j).out=szF (nth d.finals j):=rfl;rw[hsz] at hS;generalize hge:nth d.finals j=f at *;generalize sumT szF (d.finals.take j)=m at *;have hw:IntKind.i64.wrap (n+m+szF f)=n+m+szF f:=IntWalk.i64_in _ (by omega);have hpg:=AO f.guards;have hpt:=Co f.out;refine W_T ?_;(with_reducible repeat'(first|(simp(disch:=omega)only[push_cast,↓zz,seval,hPr,hPf,hge,hw,hpg,hpt])|refine Aa ?_ ?_|(first|refine Ac ?_ ?_|refine Ab ?_ ?_)<;>intro hc<;>(try simp only[push_cast] at hc)|refine eK hS ?_|refine eQ hS ?_|refine eG hS ?_|((first|refine cK hS ?_|refine cQ hS ?_|refine cG hS ?_);(simp(disch:=omega)only[push_cast,↓zz,seval,hPr,hPf,hge,hw,hpg,hpt]);(fail_if_success change False))|omega|intro _))
    all_goals
     refine⟨j+1,?_⟩;(with_reducible repeat'(first|(simp(disch:=omega)only[push_cast,↓zz,seval,hst])|refine Aa ?_ ?_|(first|refine Ac ?_ ?_|refine Ab ?_ ?_)<;>intro hc<;>(try simp only[push_cast] at hc)|omega|intro _))
    all_goals first
     |omega
     |trace_state
   ·have hjt:d.finals.take j=d.finals:=Ap hjl
    rw[hjt];refine W_T ?_;(with_reducible repeat'(first|(simp(disch:=omega)only[push_cast,↓zz,seval,hPr,hPf])|refine Aa ?_ ?_|(first|refine Ac ?_ ?_|refine Ab ?_ ?_)<;>intro hc<;>(try simp only[push_cast] at hc)|omega|intro _))
 ·rw[LF,Cb hb,A5]
  (with_reducible repeat'(first|(simp(disch:=omega)only[push_cast,↓zz,seval])|refine Aa ?_ ?_|(first|refine Ac ?_ ?_|refine Ab ?_ ?_)<;>intro hc<;>(try simp only[push_cast] at hc)|omega|intro _))
  all_goals trace_state
theorem OO{gs:List (List Span)}{out:List Term}(h:I1 gs out<=1500):∀t∈out,t.parts.length<4000:=by
 unfold I1 at h;split at h
 ·omega
 ·intro t ht
  have h1:=Jo (λt=>(VM t).1) ht;have h2:=(GJ VL gs).1;have h3:szT t=1+min (t.parts.length:Int) 4000:=rfl;omega
theorem z1k{d:Desc}(h:LF d=true):GI d:=by
 simp only[LF,Ad,Ak] at h;have sR:∀r,0<=szR r/\szR r<=2000000:=λr=>Lc _ _;have sF:∀f,0<=szF f/\szF f<=2000000:=λr=>Lc _ _;have a1:=(GJ sR d.rules).1;have a2:=(GJ sF d.finals).1;refine⟨λr hr t ht=>?_,λf hf t ht=>?_⟩
 ·have h1:=Jo (λr=>(sR r).1) hr
  have h2:szR r=I1 r.guards r.out:=rfl;have:=OO (gs:=r.guards) (out:=r.out) (by omega) t ht;omega
 ·have h1:=Jo (λr=>(sF r).1) hf
  have h2:szF f=I1 f.guards f.out:=rfl;have:=OO (gs:=f.guards) (out:=f.out) (by omega) t ht;omega
structure z1l(d:Desc):Prop where
 fin:GI d
 rg:∀r∈d.rules,r.guards.length<=9223372036854775807
 fg:∀f∈d.finals,f.guards.length<=9223372036854775807
structure Hold(p:Prop):Prop where
 get:p
theorem K2{α:Type}[DecidableEq α][Inhabited α]{l m:List α}{k:Nat}(h1:k<l.length)(h2:k<m.length):decide (l.drop k=m.drop k)=(decide (nth l k=nth m k)&&decide (l.drop (k+1)=m.drop (k+1))):=by
 rw[drop_at h1,drop_at h2];simp
structure z9t(gs:List (List Span))(out:List Term):Prop where
 g:gs.length<=1000000000000
 gl:∀l∈gs,l.length<=1000000000000
 o:out.length<=1000000000000
 ol:∀t∈out,t.parts.length<=1000000000000
structure zil(d:Desc):Prop where
 r:d.rules.length<=1000000000000
 rs:∀r∈d.rules,z9t r.guards r.out
 f:d.finals.length<=1000000000000
 fs:∀f∈d.finals,z9t f.guards f.out
end Go.Proofs.YtbcjoeadpjfcfaaGreat
namespace Go.Proofs.YtbcjoeadpjfcfaaGreat
open Abs
theorem N1{gs:List (List Span)}{out:List Term}(h:I1 gs out<=1500):gs.length<=100:=by
 unfold I1 at h;split at h
 ·omega
 ·omega
theorem TZ{d:Desc}(h:LF d=true):z1l d:=by
 refine⟨z1k h,?_,?_⟩
 all_goals
  simp only[LF,Ad,Ak] at h;have sR:∀r,0<=szR r/\szR r<=2000000:=λr=>Lc _ _;have sF:∀f,0<=szF f/\szF f<=2000000:=λr=>Lc _ _;have a1:=(GJ sR d.rules).1;have a2:=(GJ sF d.finals).1
 ·intro r hr
  have h1:=Jo (λr=>(sR r).1) hr;have h2:szR r=I1 r.guards r.out:=rfl;have:=N1 (gs:=r.guards) (out:=r.out) (by omega);omega
 ·intro f hf
  have h1:=Jo (λr=>(sF r).1) hf;have h2:szF f=I1 f.guards f.out:=rfl;have:=N1 (gs:=f.guards) (out:=f.out) (by omega);omega
end Go.Proofs.YtbcjoeadpjfcfaaGreat
namespace Go.Proofs.YtbcjoeadpjfcfaaGreat
open Abs
theorem ze9(s x:Int)(hx:-2147483648<=x/\x<=2147483647):PC Tryz.prog 133 [.int .i64 s,.int .i32 x] (.bool (Iy s x)):=by
 refine BH ZJ ?_;unfold RA;(with_reducible repeat'(first|(simp(disch:=omega)only[push_cast,↓zz,seval])|refine Aa ?_ ?_|(first|refine Ac ?_ ?_|refine Ab ?_ ?_)<;>intro hc<;>(try simp only[push_cast] at hc)|omega|intro _))
 all_goals first
  |(unfold Iy;first|(refine UP ?_;omega)|(refine UQ ?_;omega)|(refine Mu ?_;omega))
  |(rw[eq_comm];(unfold Iy;first|(refine UP ?_;omega)|(refine UQ ?_;omega)|(refine Mu ?_;omega)))
  |trace_state
theorem z1m(s:Int)(l:List Int)(hl:l.length<=1000000000000)(h32:∀x∈l,-2147483648<=x/\x<=2147483647):PC Tryz.prog 100 [.int .i64 s,AX l] (.bool (l.all (Iy s))):=by
 have pI:AY (l.map (AV.int .i32))=true:=BK .i32 _;refine BH Tq ?_;unfold MI;(with_reducible repeat'(first|(simp(disch:=omega)only[push_cast,↓zz,seval,pI])|refine Aa ?_ ?_|(first|refine Ac ?_ ?_|refine Ab ?_ ?_)<;>intro hc<;>(try simp only[push_cast] at hc)|omega|intro _))
 refine Bu (B5 (λ(k:Nat)=>k<=l.length/\l.all (Iy s)=(l.drop k).all (Iy s)) (λk=>l.length-k)
  (λk=>[(0,.int .i64 s),(7,AX l),(8,.int .i64 l.length),(9,.int .i64 k)]) (λ_=>[]) (λ_ _=>[]) 0 (by simp) ?_ ?_)
 ·(with_reducible repeat'(first|(simp(disch:=omega)only[push_cast,↓zz,seval,pI])|refine Aa ?_ ?_|(first|refine Ac ?_ ?_|refine Ab ?_ ?_)<;>intro hc<;>(try simp only[push_cast] at hc)|omega|intro _))
 rintro k ⟨hk,hr⟩;rcases Am k l.length with hkl|hkl
 ·have hI:=ze9 s (nth l k) (h32 _ (BA hkl))
  rw[drop_at hkl,List.all_cons] at hr;generalize Iy s (nth l k)=b at *;cases b with
  |true =>
   refine W_T ?_;(with_reducible repeat'(first|(simp(disch:=omega)only[push_cast,↓zz,seval,pI])|refine Aa ?_ ?_|(first|refine Ac ?_ ?_|refine Ab ?_ ?_)<;>intro hc<;>(try simp only[push_cast] at hc)|refine eK hI ?_|refine eQ hI ?_|refine eG hI ?_|((first|refine cK hI ?_|refine cQ hI ?_|refine cG hI ?_);(simp(disch:=omega)only[push_cast,↓zz,seval,pI]);(fail_if_success change False))|omega|intro _))
   all_goals
    refine⟨k+1,?_⟩;(with_reducible repeat'(first|(simp(disch:=omega)only[push_cast,↓zz,seval])|refine Aa ?_ ?_|(first|refine Ac ?_ ?_|refine Ab ?_ ?_)<;>intro hc<;>(try simp only[push_cast] at hc)|omega|intro _));simpa using hr
  |false =>
   refine W_T ?_;(with_reducible repeat'(first|(simp(disch:=omega)only[push_cast,↓zz,seval,pI])|refine Aa ?_ ?_|(first|refine Ac ?_ ?_|refine Ab ?_ ?_)<;>intro hc<;>(try simp only[push_cast] at hc)|refine eK hI ?_|refine eQ hI ?_|refine eG hI ?_|((first|refine cK hI ?_|refine cQ hI ?_|refine cG hI ?_);(simp(disch:=omega)only[push_cast,↓zz,seval,pI]);(fail_if_success change False))|omega|intro _))
   all_goals (rw[hr];rfl)
 ·rw[Az hkl] at hr
  refine W_T ?_;(with_reducible repeat'(first|(simp(disch:=omega)only[push_cast,↓zz,seval,pI])|refine Aa ?_ ?_|(first|refine Ac ?_ ?_|refine Ab ?_ ?_)<;>intro hc<;>(try simp only[push_cast] at hc)|omega|intro _))
  all_goals (rw[hr];rfl)
theorem OP(a b:List Int)(hl:a.length<=1000000000000):PC Tryz.prog 32 [AX a,AX b] (.bool (decide (a=b))):=by
 refine BH Ry ?_;unfold Ll;(with_reducible repeat'(first|(simp(disch:=omega)only[push_cast,↓zz,seval])|refine Aa ?_ ?_|(first|refine Ac ?_ ?_|refine Ab ?_ ?_)<;>intro hc<;>(try simp only[push_cast] at hc)|omega|intro _))
 ·have:a≠b:=by intro h;subst h;first|omega|simp_all
  simp[this]
 refine Bu (B5 (λ(k:Nat)=>k<=a.length/\decide (a=b)=decide (a.drop k=b.drop k)) (λk=>a.length-k)
  (λk=>[(0,AX a),(1,AX b),(5,.int .i64 k)]) (λs=>[]) (λenv _=>[]) 0 (by simp) ?_ ?_)
 ·(with_reducible repeat'(first|(simp(disch:=omega)only[push_cast,↓zz,seval])|refine Aa ?_ ?_|(first|refine Ac ?_ ?_|refine Ab ?_ ?_)<;>intro hc<;>(try simp only[push_cast] at hc)|omega|intro _))
 rintro k ⟨hk,hr⟩;refine W_T ?_;(with_reducible repeat'(first|(simp(disch:=omega)only[push_cast,↓zz,seval])|refine Aa ?_ ?_|(first|refine Ac ?_ ?_|refine Ab ?_ ?_)<;>intro hc<;>(try simp only[push_cast] at hc)|omega|intro _))
 all_goals first
  |(rw[hr,Az (by omega),Az (by omega)];simp;done)
  |(rw[hr,K2 (by omega) (by omega)];simp_all;done)
  |(refine⟨k+1,?_⟩
    (with_reducible repeat'(first|(simp(disch:=omega)only[push_cast,↓zz,seval])|refine Aa ?_ ?_|(first|refine Ac ?_ ?_|refine Ab ?_ ?_)<;>intro hc<;>(try simp only[push_cast] at hc)|omega|intro _))
    rw[hr,K2 (by omega) (by omega)];simp_all;done)
  |trace_state
theorem Hl(a b:List (List Int))(hl:a.length<=1000000000000)(ha:∀l∈a,l.length<=1000000000000):PC Tryz.prog 28 [Hg a,Hg b] (.bool (decide (a=b))):=by
 refine BH KO ?_;unfold HD;(with_reducible repeat'(first|(simp(disch:=omega)only[push_cast,↓zz,seval])|refine Aa ?_ ?_|(first|refine Ac ?_ ?_|refine Ab ?_ ?_)<;>intro hc<;>(try simp only[push_cast] at hc)|omega|intro _))
 ·have:a≠b:=by intro h;subst h;first|omega|simp_all
  simp[this]
 refine Bu (B5 (λ(k:Nat)=>k<=a.length/\decide (a=b)=decide (a.drop k=b.drop k)) (λk=>a.length-k)
  (λk=>[(0,Hg a),(1,Hg b),(5,.int .i64 k)]) (λs=>[]) (λenv _=>[]) 0 (by simp) ?_ ?_)
 ·(with_reducible repeat'(first|(simp(disch:=omega)only[push_cast,↓zz,seval])|refine Aa ?_ ?_|(first|refine Ac ?_ ?_|refine Ab ?_ ?_)<;>intro hc<;>(try simp only[push_cast] at hc)|omega|intro _))
 rintro k ⟨hk,hr⟩;refine W_T ?_;(with_reducible repeat'(first|(simp(disch:=omega)only[push_cast,↓zz,seval])|refine Aa ?_ ?_|(first|refine Ac ?_ ?_|refine Ab ?_ ?_)<;>intro hc<;>(try simp only[push_cast] at hc)|(have q_:=OP (nth a k) (nth b k) (ha _ (BA (by omega)));(first|refine eK q_ ?_|refine eQ q_ ?_|refine eG q_ ?_);clear q_)|(have q_:=OP (nth a k) (nth b k) (ha _ (BA (by omega)));(first|refine cK q_ ?_|refine cQ q_ ?_|refine cG q_ ?_);clear q_;(simp(disch:=omega)only[push_cast,↓zz,seval]);(fail_if_success change False))|omega|intro _))
 all_goals first
  |(rw[hr,Az (by omega),Az (by omega)];simp;done)
  |(rw[hr,K2 (by omega) (by omega)];simp_all;done)
  |(refine⟨k+1,?_⟩
    (with_reducible repeat'(first|(simp(disch:=omega)only[push_cast,↓zz,seval])|refine Aa ?_ ?_|(first|refine Ac ?_ ?_|refine Ab ?_ ?_)<;>intro hc<;>(try simp only[push_cast] at hc)|omega|intro _))
    rw[hr,K2 (by omega) (by omega)];simp_all;done)
  |trace_state
noncomputable def askV (d:Desc) (x:List Int):Int:=if CS d≠0 then 2 else if 1024<x.length then 4 else if x.all (Iy d.in_)=true then 0 else 1
theorem z1n(d:Desc)(x:List Int)(hf:GI d)(hl:x.length<=9223372036854775807)(h32:∀v∈x,-2147483648<=v/\v<=2147483647):PC Tryz.prog 59 [Dh d,AX x] (.int .i64 (askV d x)):=by
 have hC:=GX d hf;have hF:=λ(h:¬1024<x.length)=>z1m d.in_ x (by omega) h32;have pR:=BS d.rules;have pF:=BI d.finals;have pI:AY (x.map (AV.int .i32))=true:=BK .i32 _;refine BH Tn ?_;unfold ME askV;generalize CS d=k at *;generalize x.all (Iy d.in_)=b at *;by_cases hk:k=0
 ·subst hk
  rw[Ah (by simp)];by_cases hx:1024<x.length
  ·rw[Ai hx]
   (with_reducible repeat'(first|(simp(disch:=omega)only[push_cast,↓zz,seval,pR,pF,pI])|refine Aa ?_ ?_|(first|refine Ac ?_ ?_|refine Ab ?_ ?_)<;>intro hc<;>(try simp only[push_cast] at hc)|refine eK hC ?_|refine eQ hC ?_|refine eG hC ?_|((first|refine cK hC ?_|refine cQ hC ?_|refine cG hC ?_);(simp(disch:=omega)only[push_cast,↓zz,seval,pR,pF,pI]);(fail_if_success change False))|omega|intro _))
  ·rw[Ah hx]
   have hF:=hF hx;cases b with
   |true =>
    rw[Ai rfl];(with_reducible repeat'(first|(simp(disch:=omega)only[push_cast,↓zz,seval,pR,pF,pI])|refine Aa ?_ ?_|(first|refine Ac ?_ ?_|refine Ab ?_ ?_)<;>intro hc<;>(try simp only[push_cast] at hc)|refine eK hC ?_|refine eQ hC ?_|refine eG hC ?_|refine eK hF ?_|refine eQ hF ?_|refine eG hF ?_|((first|refine cK hC ?_|refine cQ hC ?_|refine cG hC ?_|refine cK hF ?_|refine cQ hF ?_|refine cG hF ?_);(simp(disch:=omega)only[push_cast,↓zz,seval,pR,pF,pI]);(fail_if_success change False))|omega|intro _))
   |false =>
    rw[Ah (by simp)];(with_reducible repeat'(first|(simp(disch:=omega)only[push_cast,↓zz,seval,pR,pF,pI])|refine Aa ?_ ?_|(first|refine Ac ?_ ?_|refine Ab ?_ ?_)<;>intro hc<;>(try simp only[push_cast] at hc)|refine eK hC ?_|refine eQ hC ?_|refine eG hC ?_|refine eK hF ?_|refine eQ hF ?_|refine eG hF ?_|((first|refine cK hC ?_|refine cQ hC ?_|refine cG hC ?_|refine cK hF ?_|refine cQ hF ?_|refine cG hF ?_);(simp(disch:=omega)only[push_cast,↓zz,seval,pR,pF,pI]);(fail_if_success change False))|omega|intro _))
 ·rw[Ai hk]
  (with_reducible repeat'(first|(simp(disch:=omega)only[push_cast,↓zz,seval,pR,pF,pI,hk])|refine Aa ?_ ?_|(first|refine Ac ?_ ?_|refine Ab ?_ ?_)<;>intro hc<;>(try simp only[push_cast] at hc)|refine eK hC ?_|refine eQ hC ?_|refine eG hC ?_|((first|refine cK hC ?_|refine cQ hC ?_|refine cG hC ?_);(simp(disch:=omega)only[push_cast,↓zz,seval,pR,pF,pI,hk]);(fail_if_success change False))|omega|intro _))
  all_goals trace_state
abbrev E4(d:Desc)(x:List Int)(ru fi od li:AV):AV:=.cptr (.agg [.int .i64 d.in_,.int .i64 d.out,.int .i64 d.states,.int .i64 d.start,F2 d.rules,FN d.finals,AX x,ru,fi,od,li])
def goB(x:List Int)(gs:List (List Span))(at_:Nat):Bool:=decide (gs.length+at_<=x.length)&&(List.range gs.length).all λk=>hasI (nth gs k) (nth x (at_+k))
theorem NP{p:Nat->Bool}{k n:Nat}(h:k<n)(hp:∀j,j<k->p j=true):(p k=false->(List.range n).all p=false):=λhk=>by
 rw[List.all_eq_false];exact⟨k,by simpa using h,by simp[hk]⟩
theorem Qm(d:Desc)(x:List Int)(ru fi od li:AV)(gs:List (List Span))(at_:Nat)(hr:ru.pure=true)(hfi:fi.pure=true)(ho:od.pure=true)(hli:li.pure=true)(hx:x.length<=1000000)(h32:∀v∈x,-2147483648<=v/\v<=2147483647)(hg:∀g∈gs,g.length<=1000000)(hgl:gs.length<=1000000)(ha:at_<=1000000):
 PC Tryz.prog 65 [E4 d x ru fi od li,Bg gs,.int .i64 at_] (.bool (goB x gs at_)):=by
 have pR:=BS d.rules;have pF:=BI d.finals;have pX:AY (x.map (AV.int .i32))=true:=BK .i32 _;have pG:=AO gs;refine BH KS ?_;unfold HI;(with_reducible repeat'(first|(simp(disch:=omega)only[push_cast,↓zz,seval,pR,pF,pX,pG,hr,hfi,ho,hli])|refine Aa ?_ ?_|(first|refine Ac ?_ ?_|refine Ab ?_ ?_)<;>intro hc<;>(try simp only[push_cast] at hc)|omega|intro _))
 ·have:¬gs.length+at_<=x.length:=by omega
  simp[goB,this]
 have hfit:gs.length+at_<=x.length:=by omega
 have hgo:goB x gs at_=(List.range gs.length).all λk=>hasI (nth gs k) (nth x (at_+k)):=by simp[goB,hfit]
 rw[hgo]
 refine Bu (B5 (λ(k:Nat)=>k<=gs.length/\Hold (∀j,j<k->hasI (nth gs j) (nth x (at_+j))=true)) (λk=>gs.length-k)
  (λk=>[(0,E4 d x ru fi od li),(2,.int .i64 at_),(19,Bg gs),(20,.int .i64 gs.length),(21,.int .i64 k)]) (λ_=>[]) (λ_ _=>[]) 0 ⟨by simp,⟨λj hj=>by omega⟩⟩ ?_ ?_)
 ·(with_reducible repeat'(first|(simp(disch:=omega)only[push_cast,↓zz,seval,pR,pF,pX,pG,hr,hfi,ho,hli])|refine Aa ?_ ?_|(first|refine Ac ?_ ?_|refine Ab ?_ ?_)<;>intro hc<;>(try simp only[push_cast] at hc)|omega|intro _))
 rintro k ⟨hk,⟨hall⟩⟩;rcases Am k gs.length with hkl|hkl
 ·have hHas:=z6p (nth gs k) (nth x (at_+k)) (by have:=hg _ (BA hkl);omega)
  have hb:=h32 _ (BA (show at_+k<x.length by omega));have hcast:((at_:Int)+k).toNat=at_+k:=by omega
  generalize hge:nth gs k=g at *;have pg:=EB g;cases hh:hasI g (nth x (at_+k)) with
  |true =>
   rw[hh] at hHas
   have hnx:Hold (∀j,j<k+1->hasI (nth gs j) (nth x (at_+j))=true):=⟨λj hj=>by
    by_cases e:j=k
    ·subst e;rw[hge];exact hh
    ·exact hall j (by omega)⟩
   clear hall;refine W_T ?_;(with_reducible repeat'(first|(simp(disch:=omega)only[push_cast,↓zz,seval,pR,pF,pX,pG,hr,hfi,ho,hli,hge,pg,hcast])|refine Aa ?_ ?_|(first|refine Ac ?_ ?_|refine Ab ?_ ?_)<;>intro hc<;>(try simp only[push_cast] at hc)|refine eK hHas ?_|refine eQ hHas ?_|refine eG hHas ?_|((first|refine cK hHas ?_|refine cQ hHas ?_|refine cG hHas ?_);(simp(disch:=omega)only[push_cast,↓zz,seval,pR,pF,pX,pG,hr,hfi,ho,hli,hge,pg,hcast]);(fail_if_success change False))|omega|intro _))
   all_goals first
    |(refine⟨k+1,?_⟩
      (with_reducible repeat'(first|(simp(disch:=omega)only[push_cast,↓zz,seval,pR,pF,pX,pG,hr,hfi,ho,hli])|refine Aa ?_ ?_|(first|refine Ac ?_ ?_|refine Ab ?_ ?_)<;>intro hc<;>(try simp only[push_cast] at hc)|omega|intro _))
      all_goals first|assumption|trace_state)
    |trace_state
  |false =>
   rw[hh] at hHas;have hno:(List.range gs.length).all (λk=>hasI (nth gs k) (nth x (at_+k)))=false:=NP hkl hall (by rw[hge];exact hh);rw[hno];clear hall hno;refine W_T ?_;(with_reducible repeat'(first|(simp(disch:=omega)only[push_cast,↓zz,seval,pR,pF,pX,pG,hr,hfi,ho,hli,hge,pg,hcast])|refine Aa ?_ ?_|(first|refine Ac ?_ ?_|refine Ab ?_ ?_)<;>intro hc<;>(try simp only[push_cast] at hc)|refine eK hHas ?_|refine eQ hHas ?_|refine eG hHas ?_|((first|refine cK hHas ?_|refine cQ hHas ?_|refine cG hHas ?_);(simp(disch:=omega)only[push_cast,↓zz,seval,pR,pF,pX,pG,hr,hfi,ho,hli,hge,pg,hcast]);(fail_if_success change False))|omega|intro _))
 ·obtain rfl:k=gs.length:=by omega
  have hyes:(List.range gs.length).all (λk=>hasI (nth gs k) (nth x (at_+k)))=true:=B0.2 λj hj=>hall j (by simpa using hj);rw[hyes];clear hall hyes;refine W_T ?_;(with_reducible repeat'(first|(simp(disch:=omega)only[push_cast,↓zz,seval,pR,pF,pX,pG,hr,hfi,ho,hli])|refine Aa ?_ ?_|(first|refine Ac ?_ ?_|refine Ab ?_ ?_)<;>intro hc<;>(try simp only[push_cast] at hc)|omega|intro _))
  all_goals trace_state
theorem z7t(d:Desc)(x:List Int)(ru fi od li:AV)(f:FP)(at_:Nat)(hr:ru.pure=true)(hfi:fi.pure=true)(ho:od.pure=true)(hli:li.pure=true)(hx:x.length<=1000000)(h32:∀v∈x,-2147483648<=v/\v<=2147483647)(hg:∀g∈f.guards,g.length<=1000000)(hgl:f.guards.length<=1000000)(ha:at_<=1000000):
 PC Tryz.prog 63 [E4 d x ru fi od li,Lj f,.int .i64 at_] (.bool (decide (f.guards.length+at_=x.length)&&goB x f.guards at_)):=by
 have pR:=BS d.rules;have pF:=BI d.finals;have pX:AY (x.map (AV.int .i32))=true:=BK .i32 _;have pG:=AO f.guards;have pT:=Co f.out;have hF:=Qm d x ru fi od li f.guards at_ hr hfi ho hli hx h32 hg hgl ha;refine BH KQ ?_;unfold HH;generalize goB x f.guards at_=b at *;by_cases he:f.guards.length+at_=x.length
 ·rw[BC he,A6]
  have he2:(f.guards.length:Int)=(x.length:Int)-at_:=by omega
  (with_reducible repeat'(first|(simp(disch:=omega)only[push_cast,↓zz,seval,pR,pF,pX,pG,pT,hr,hfi,ho,hli,he2])|refine Aa ?_ ?_|(first|refine Ac ?_ ?_|refine Ab ?_ ?_)<;>intro hc<;>(try simp only[push_cast] at hc)|refine eK hF ?_|refine eQ hF ?_|refine eG hF ?_|((first|refine cK hF ?_|refine cQ hF ?_|refine cG hF ?_);(simp(disch:=omega)only[push_cast,↓zz,seval,pR,pF,pX,pG,pT,hr,hfi,ho,hli,he2]);(fail_if_success change False))|omega|intro _))
  all_goals first|omega|trace_state
 ·rw[Cb he,A5]
  have he2:¬(f.guards.length:Int)=(x.length:Int)-at_:=by omega
  (with_reducible repeat'(first|(simp(disch:=omega)only[push_cast,↓zz,seval,pR,pF,pX,pG,pT,hr,hfi,ho,hli,he2])|refine Aa ?_ ?_|(first|refine Ac ?_ ?_|refine Ab ?_ ?_)<;>intro hc<;>(try simp only[push_cast] at hc)|refine eK hF ?_|refine eQ hF ?_|refine eG hF ?_|((first|refine cK hF ?_|refine cQ hF ?_|refine cG hF ?_);(simp(disch:=omega)only[push_cast,↓zz,seval,pR,pF,pX,pG,pT,hr,hfi,ho,hli,he2]);(fail_if_success change False))|omega|intro _))
  all_goals first|omega|trace_state
def Gn(out:List Term)(w:List Int):List Int:=out.map λt=>IntKind.i32.wrap ((IH t w).getD 0)
theorem OQ(d:Desc)(x:List Int)(ru fi od li:AV)(out:List Term)(at_ n:Nat)(hr:ru.pure=true)(hfi:fi.pure=true)(ho:od.pure=true)(hli:li.pure=true)(hx:x.length<=1000000)(h32:∀v∈x,-2147483648<=v/\v<=2147483647)(hol:out.length<=1000000)(hop:∀t∈out,t.parts.length<=1000000)(ha:at_+n<=x.length):
 PC Tryz.prog 64 [E4 d x ru fi od li,E5 out,.int .i64 at_,.int .i64 n] (AX (Gn out ((x.drop at_).take n))):=by
 have pR:=BS d.rules;have pF:=BI d.finals;have pX:AY (x.map (AV.int .i32))=true:=BK .i32 _;have pT:=Co out;have hwl:((x.drop at_).take n).length<=1000000:=by simp;omega
 have hw32:∀v∈(x.drop at_).take n,-2147483648<=v/\v<=2147483647:=λv hv=>h32 v (BX (BJ hv));have hV:=λt (ht:t∈out)=>Xf t ((x.drop at_).take n) (by have:=hop t ht;omega) (by omega) hw32;have hmw:List.take n (List.drop at_ (x.map (AV.int .i32)))=((x.drop at_).take n).map (AV.int .i32):=by rw[List.map_take,List.map_drop]
 have hcat:((at_:Int)+n).toNat=at_+n:=by omega
 have pW:AY (((x.drop at_).take n).map (AV.int .i32))=true:=BK .i32 _;have hdt:List.drop at_ (List.take (at_+n) x)=(x.drop at_).take n:=by rw[List.drop_take];simp
 have e0:∀w,Gn [] w=[]:=λ_=>rfl;have wl:∀w,(Gn out w).length=out.length:=λw=>by simp[Gn]
 have wt:∀w,List.take out.length (Gn out w)=Gn out w:=λw=>Ap (by rw[wl];exact Ae _);refine BH JK ?_;unfold Hh;(with_reducible repeat'(first|(simp(disch:=omega)only[push_cast,↓zz,seval,pR,pF,pX,pT,hr,hfi,ho,hli])|refine Aa ?_ ?_|(first|refine Ac ?_ ?_|refine Ab ?_ ?_)<;>intro hc<;>(try simp only[push_cast] at hc)|omega|intro _))
 refine Bu (B5 (λ(k:Nat)=>k<=out.length) (λk=>out.length-k)
  (λk=>[(0,E4 d x ru fi od li),(2,.int .i64 at_),(3,.int .i64 n),(9,.ref 0 1 0 k),(14,E5 out),(15,.int .i64 out.length),(16,.int .i64 k)]) (λk=>[⟨1,1,false,(Gn (out.take k) ((x.drop at_).take n)).map (AV.int .i32)⟩]) (λenv _=>[Cc 1 (env 9)]) 0 (by simp) ?_ ?_)
 ·(with_reducible repeat'(first|(simp(disch:=omega)only[push_cast,↓zz,seval,pR,pF,pX,pT,hr,hfi,ho,hli,e0])|refine Aa ?_ ?_|(first|refine Ac ?_ ?_|refine Ab ?_ ?_)<;>intro hc<;>(try simp only[push_cast] at hc)|omega|intro _))
 intro k hk;have hlk:(Gn (out.take k) ((x.drop at_).take n)).length=k:=by simp[Gn];omega
 have pL:AY ((Gn (out.take k) ((x.drop at_).take n)).map (AV.int .i32))=true:=BK .i32 _;rcases Am k out.length with hkl|hkl
 ·have hVk:=hV _ (BA hkl)
  have e1:Gn (out.take (k+1)) ((x.drop at_).take n)=Gn (out.take k) ((x.drop at_).take n)++[IntKind.i32.wrap ((IH (nth out k) ((x.drop at_).take n)).getD 0)]:=by rw[Gn,take_at hkl,A9];rfl
  generalize hte:nth out k=t at *;have pP:=GR t.parts;generalize Gn (out.take k) ((x.drop at_).take n)=L at *;refine W_T ?_;(with_reducible repeat'(first|(simp(disch:=omega)only[push_cast,↓zz,seval,pR,pF,pX,pT,hr,hfi,ho,hli,hte,pP,hmw,hcat,pW,hdt])|refine Aa ?_ ?_|(first|refine Ac ?_ ?_|refine Ab ?_ ?_)<;>intro hc<;>(try simp only[push_cast] at hc)|refine eK hVk ?_|refine eQ hVk ?_|refine eG hVk ?_|((first|refine cK hVk ?_|refine cQ hVk ?_|refine cG hVk ?_);(simp(disch:=omega)only[push_cast,↓zz,seval,pR,pF,pX,pT,hr,hfi,ho,hli,hte,pP,hmw,hcat,pW,hdt]);(fail_if_success change False))|omega|intro _))
  all_goals
   refine⟨k+1,?_⟩;(with_reducible repeat'(first|(simp(disch:=omega)only[push_cast,↓zz,seval,e1,pL,pR,pF,pX,pT,hr,hfi,ho,hli])|refine Aa ?_ ?_|(first|refine Ac ?_ ?_|refine Ab ?_ ?_)<;>intro hc<;>(try simp only[push_cast] at hc)|omega|intro _))
 ·obtain rfl:k=out.length:=by omega
  have et:out.take out.length=out:=Ap (by omega);rw[et] at hlk pL ⊢;refine W_T ?_;(with_reducible repeat'(first|(simp(disch:=omega)only[push_cast,↓zz,seval,pR,pF,pX,pT,hr,hfi,ho,hli,pL,et,wl,wt])|refine Aa ?_ ?_|(first|refine Ac ?_ ?_|refine Ab ?_ ?_)<;>intro hc<;>(try simp only[push_cast] at hc)|omega|intro _))
  all_goals trace_state
def ltW:List Int->List Int->Bool
 |[],[]=>false
 |[],_::_=>true
 |_::_,[]=>false
 |a::l,b::m=>if a<b then true else if b<a then false else ltW l m
theorem GY:∀a,ltW a a=false
 |[]=>rfl
 |a::l=>by simp[ltW,GY l]
theorem IM:∀a b c,ltW a b=true->ltW b c=true->ltW a c=true
 |[],[],_,h,_=>by simp[ltW] at h
 |[],b::m,[],_,h=>by simp[ltW] at h
 |[],_::_,_::_,_,_=>rfl
 |_::_,[],_,h,_=>by simp[ltW] at h
 |_::_,_::_,[],_,h=>by simp[ltW] at h
 |a::l,b::m,c::n,h1,h2=>by
  simp only[ltW] at h1 h2 ⊢;split at h1
  ·split at h2
   ·rw[Ai (by omega)]
   ·split at h2
    ·cases h2
    ·rw[Ai (by omega)]
  ·split at h1
   ·cases h1
   ·split at h2
    ·rw[Ai (by omega)]
    ·split at h2
     ·cases h2
     ·rw[Ah (by omega),Ah (by omega)]
      exact IM l m n h1 h2
theorem IN:∀a b,ltW a b=false->ltW b a=false->a=b
 |[],[],_,_=>rfl
 |[],_::_,h,_=>by simp[ltW] at h
 |_::_,[],_,h=>by simp[ltW] at h
 |a::l,b::m,h1,h2=>by
  have e1:¬a<b:=λh=>by simp[ltW,h] at h1
  have e2:¬b<a:=λh=>by simp[ltW,h] at h2
  rw[ltW,Ah e1,Ah e2] at h1;rw[ltW,Ah e2,Ah e1] at h2;have:a=b:=by omega
  rw[this,IN l m h1 h2]
def NQ(l:List (List Int)):Prop:=l.Pairwise λa b=>ltW a b=true
theorem Qn:∀{l m:List (List Int)},NQ l->NQ m->(∀w,w∈l↔w∈m)->l=m
 |[],[],_,_,_=>rfl
 |[],b::m,_,_,h=>by have:=(h b).2 (by simp);cases this
 |a::l,[],_,_,h=>by have:=(h a).1 (by simp);cases this
 |a::l,b::m,h1,h2,h=>by
  rw[NQ,AR] at h1 h2
  have e:a=b:=by
   rcases Ag.1 ((h a).1 (by simp)) with e|ha
   ·exact e
   ·rcases Ag.1 ((h b).2 (by simp)) with e|hb
    ·exact e.symm
    ·have k1:=h1.1 b hb
     have k2:=h2.1 a ha;have:=IM _ _ _ k1 k2;rw[GY] at this;cases this
  subst e;have hna:a∉l:=λhm=>by have:=h1.1 a hm;rw[GY] at this;cases this
  have hnb:a∉m:=λhm=>by have:=h2.1 a hm;rw[GY] at this;cases this
  rw[Qn (l:=l) (m:=m) h1.2 h2.2 λw=>?_];constructor
  ·intro hw
   rcases Ag.1 ((h w).1 (by simp[hw])) with e|e
   ·subst e;exact absurd hw hna
   ·exact e
  ·intro hw
   rcases Ag.1 ((h w).2 (by simp[hw])) with e|e
   ·subst e;exact absurd hw hnb
   ·exact e
def insU(w:List Int):List (List Int)->List (List Int)
 |[]=>[w]
 |a::l=>if ltW w a=true then w::a::l else if ltW a w=true then a::insU w l else a::l
theorem Qo(w:List Int):∀(l:List (List Int))(v:List Int),v∈insU w l↔v=w\/v∈l
 |[],v=>by simp[insU]
 |a::l,v=>by
  simp only[insU];split
  ·simp
  ·split
   ·rw[Ag,Qo w l v,Ag]
    constructor
    ·rintro (h|h|h)
     ·exact .inr (.inl h)
     ·exact .inl h
     ·exact .inr (.inr h)
    ·rintro (h|h|h)
     ·exact .inr (.inl h)
     ·exact .inl h
     ·exact .inr (.inr h)
   ·rename_i h1 h2
    have e:w=a:=IN w a (by simpa using h1) (by simpa using h2);subst e;simp
theorem Sj(w:List Int):∀{l:List (List Int)},NQ l->NQ (insU w l)
 |[],_=>Ez _ _
 |a::l,h=>by
  have h':=h;rw[NQ,AR] at h';simp only[insU];split
  ·rename_i h1
   refine AR.2 ⟨λv hv=>?_,h⟩;rcases Ag.1 hv with rfl|hv
   ·exact h1
   ·exact IM _ _ _ h1 (h'.1 v hv)
  ·split
   ·rename_i h2
    refine AR.2 ⟨λv hv=>?_,Sj w h'.2⟩;rcases (Qo w l v).1 hv with rfl|hv
    ·exact h2
    ·exact h'.1 v hv
   ·exact h
def Jv(l:List (List Int)):List (List Int):=l.foldr insU []
theorem IP:∀(l:List (List Int))(v:List Int),v∈Jv l↔v∈l
 |[],v=>Iff.rfl
 |a::l,v=>by
  show v∈insU a (Jv l)↔_;rw[Qo,IP l v,Ag]
theorem Jp:∀(l:List (List Int)),NQ (Jv l)
 |[]=>List.Pairwise.nil
 |a::l=>Sj a (Jp l)
theorem VN{l m:List (List Int)}(h1:NQ m)(h2:∀w,w∈m↔w∈l):Jv l=m:=Qn (Jp l) h1 λw=>(IP l w).trans (h2 w).symm
theorem VO(w:List Int):∀l:List (List Int),(insU w l).length<=l.length+1
 |[]=>by simp[insU]
 |a::l=>by
  have:=VO w l;simp only[insU];repeat' split
  all_goals simp;try omega
theorem Sk:∀l:List (List Int),(Jv l).length<=l.length
 |[]=>Ae _
 |a::l=>by
  have:=Sk l;have h2:=VO a (Jv l);show (insU a (Jv l)).length<=_;simp;omega
theorem It{α:Type}:∀{l m:List α},l.Nodup->(∀w∈l,w∈m)->l.length<=m.length
 |[],m,_,_=>AI _
 |a::l,m,hn,h=>by
  obtain⟨s,t,rfl⟩:=List.append_of_mem (h a (by simp));rw[Cj] at hn
  have:=It (l:=l) (m:=s++t) hn.2 λw hw=>by
   have:=h w (by simp[hw]);simp only[Au,Ag] at this ⊢;rcases this with h1|h1|h1
   ·exact .inl h1
   ·subst h1;exact absurd hw hn.1
   ·exact .inr h1
  simp only[Ao,List.length_cons] at this ⊢;omega
def epsI(l:List Rule)(s:Int):List Nat:=(List.range l.length).filter λi=>DT (nth l i)&&decide ((nth l i).from_=s)
theorem Qp{l:List Rule}{s:Int}{i:Nat}:i∈epsI l s↔i<l.length/\DT (nth l i)=true/\(nth l i).from_=s:=by
 simp[epsI]
def okP(l:List Rule):Int->List Nat->Prop
 |_,[]=>True
 |s,i::p=>i∈epsI l s/\okP l (nth l i).to_ p
def endP(l:List Rule):Int->List Nat->Int
 |s,[]=>s
 |_,i::p=>endP l (nth l i).to_ p
theorem zie{l:List Rule}{on:Nat->Bool}{i j:Nat}(hi:i<l.length)(he:DT (nth l i)=true)(ho:on (nth l i).from_.toNat=true)(ht:(nth l i).to_=j):onF l on j=true:=by
 rw[onF,Cw];exact⟨nth l i,BA hi,by simp[he,ho,ht]⟩
theorem z9u{l:List Rule}{n:Nat}(hl:∀r∈l,(0<=r.from_/\r.from_<n)/\0<=r.to_/\r.to_<n):∀(p:List Nat)(k:Nat)(s:Int),0<=s->onK l k s.toNat=true->okP l s p->onK l (k+p.length) (endP l s p).toNat=true
 |[],k,s,_,ho,_=>ho
 |i::p,k,s,hs,ho,hp=>by
  obtain⟨h1,h2,h3⟩:=Qp.1 hp.1;have hr:=hl _ (BA h1);have ht:onK l (k+1) (nth l i).to_.toNat=true:=zie h1 h2 (by rw[h3];exact ho) (by omega);have:=z9u hl p (k+1) (nth l i).to_ hr.2.1 ht hp.2;rw[List.length_cons,show k+(p.length+1)=k+1+p.length by omega];exact this
theorem z1o{l:List Rule}{n:Nat}(hl:∀r∈l,(0<=r.from_/\r.from_<n)/\0<=r.to_/\r.to_<n)(hc:¬cycP l n){s:Int}(hs:0<=s){p:List Nat}(hp:okP l s p):p.length<=n+1:=by
 have hcr:¬cycR l n=true:=λh=>hc ((z6g hl).1 h)
 have:∃k,k<=n/\Xi l (onK l k)=false:=by
  refine AL λhh=>hcr ?_;rw[cycR,B0];intro k hk;refine AL λh2=>hh ⟨k,by simp at hk;omega,by simpa using h2⟩
 obtain⟨k,hk,hkf⟩:=this
 have hno:∀j,onK l (k+1) j=false:=λj=>by
  refine AL λhh=>?_;have h1:onF l (onK l k) j=true:=by simpa [onK] using hh
  rw[onF,Cw] at h1;obtain⟨r,hr,h2⟩:=h1;simp only[Ad] at h2
  have:Xi l (onK l k)=true:=by
   rw[Xi,Cw];exact⟨r,hr,by simp[h2.1,h2.2.1]⟩
  rw[hkf] at this;cases this
 refine AL λhlen=>?_;have h1:=z9u hl p 0 s hs rfl hp;rw[Bj] at h1
 have down:∀m j,onK l (k+1+m) j=true->onK l (k+1) j=true:=λm=>by
  induction m with
  |zero=>exact λj h=>h
  |succ m ih=>exact λj h=>ih j (PY l _ j h)
 have:=down (p.length-(k+1)) (endP l s p).toNat (by rw[show k+1+(p.length-(k+1))=p.length by omega];exact h1);rw[hno] at this;cases this
end Go.Proofs.YtbcjoeadpjfcfaaGreat
namespace Go.Proofs.YtbcjoeadpjfcfaaGreat
open Abs
theorem Me(l:List Rule):∀(s:Int)(p q:List Nat),endP l s (p++q)=endP l (endP l s p) q
 |s,[],q=>rfl
 |s,i::p,q=>Me l _ p q
theorem Qq(l:List Rule):∀(s:Int)(p q:List Nat),okP l s (p++q)↔okP l s p/\okP l (endP l s p) q
 |s,[],q=>by simp[okP,endP]
 |s,i::p,q=>by simp[okP,endP,Qq l _ p q,and_assoc]
def GK(x:List Int)(out:List Term)(gs:List (List Span))(at_:Nat):List Int:=Gn out ((x.drop at_).take gs.length)
inductive RelW(d:Desc)(x:List Int):Nat->Int->List Int->Prop
 |fin {at_:Nat} {s:Int} (f:FP):f∈d.finals->f.from_=s->f.guards.length+at_=x.length->goB x f.guards at_=true->RelW d x at_ s (GK x f.out f.guards at_)
 |step {at_:Nat} {s:Int} (r:Rule) (w:List Int):r∈d.rules->r.from_=s->goB x r.guards at_=true->RelW d x (at_+r.eat.toNat) r.to_ w->RelW d x at_ s (GK x r.out r.guards at_++w)
theorem VP{d:Desc}{x:List Int}{at_:Nat}{s:Int}{w:List Int}:RelW d x at_ s w ↔
 (∃f∈d.finals,f.from_=s/\(f.guards.length+at_=x.length/\goB x f.guards at_=true)/\w=GK x f.out f.guards at_) \/
 ∃r∈d.rules,r.from_=s/\goB x r.guards at_=true/\∃v,RelW d x (at_+r.eat.toNat) r.to_ v/\w=GK x r.out r.guards at_++v:=by
 constructor
 ·rintro (⟨f,h1,h2,h3,h4⟩|⟨r,v,h1,h2,h3,h4⟩)
  ·exact .inl ⟨f,h1,h2,⟨h3,h4⟩,rfl⟩
  ·exact .inr ⟨r,h1,h2,h3,v,h4,rfl⟩
 ·rintro (⟨f,h1,h2,⟨h3,h4⟩,rfl⟩|⟨r,h1,h2,h3,v,h4,rfl⟩)
  ·exact .fin f h1 h2 h3 h4
  ·exact .step r v h1 h2 h3 h4
def I2(d:Desc)(x:List Int)(at_:Nat)(s:Int)(L:List (List Int)):Prop:=NQ L/\∀w,w∈L↔RelW d x at_ s w
theorem z7u{d:Desc}{x:List Int}{at_:Nat}{s:Int}{L M:List (List Int)}(h1:I2 d x at_ s L)(h2:I2 d x at_ s M):L=M:=Qn h1.1 h2.1 λw=>(h1.2 w).trans (h2.2 w).symm
def outL(d:Desc)(x:List Int)(S:Nat->Int->List (List Int))(at_:Nat)(s:Int):List (List Int) :=
 ((d.finals.filter λf=>decide (f.from_=s)&&(decide (f.guards.length+at_=x.length)&&goB x f.guards at_)).map λf=>GK x f.out f.guards at_) ++
 (d.rules.filter λr=>decide (r.from_=s)&&goB x r.guards at_).flatMap λr=>(S (at_+r.eat.toNat) r.to_).map (GK x r.out r.guards at_++·)
theorem z7v{d:Desc}{x:List Int}{S:Nat->Int->List (List Int)}{at_:Nat}{s:Int}(h:∀r∈d.rules,r.from_=s->goB x r.guards at_=true->∀v,v∈S (at_+r.eat.toNat) r.to_↔RelW d x (at_+r.eat.toNat) r.to_ v)(w:List Int):w∈outL d x S at_ s↔RelW d x at_ s w:=by
 rw[VP,outL,Au,As,En];constructor
 ·rintro (⟨f,hf,rfl⟩|⟨r,hr,hw⟩)
  ·obtain⟨h1,h2⟩:=Bi.1 hf
   simp only[Ad,Ak] at h2;exact .inl ⟨f,h1,h2.1,h2.2,rfl⟩
  ·obtain⟨h1,h2⟩:=Bi.1 hr
   simp only[Ad,Ak] at h2;obtain⟨v,hv,rfl⟩:=As.1 hw;exact .inr ⟨r,h1,h2.1,h2.2,v,(h r h1 h2.1 h2.2 v).1 hv,rfl⟩
 ·rintro (⟨f,h1,h2,h3,rfl⟩|⟨r,h1,h2,h3,v,hv,rfl⟩)
  ·exact .inl ⟨f,Bi.2 ⟨h1,by simp[h2,h3.1,h3.2]⟩,rfl⟩
  ·exact .inr ⟨r,Bi.2 ⟨h1,by simp[h2,h3]⟩,As.2 ⟨v,(h r h1 h2 h3 v).2 hv,rfl⟩⟩
theorem VQ{d:Desc}{x:List Int}{S:Nat->Int->List (List Int)}{at_:Nat}{s:Int}(h:∀r∈d.rules,r.from_=s->goB x r.guards at_=true->I2 d x (at_+r.eat.toNat) r.to_ (S (at_+r.eat.toNat) r.to_)):I2 d x at_ s (Jv (outL d x S at_ s)) :=
 ⟨Jp _,λw=>(IP _ w).trans (z7v (λr h1 h2 h3 v=>(h r h1 h2 h3).2 v) w)⟩
structure Topo(l:List Rule)(n:Nat)(ord:List Nat):Prop where
 nodup:ord.Nodup
 all:∀s,s∈ord↔s<n
 eps:∀i,i<ord.length->∀r∈l,DT r=true->r.from_=(nth ord i:Nat)->∃t:Nat,r.to_=t/\t∈ord.take i
structure Goes(d:Desc)(n:Nat):Prop where
 r:∀r∈d.rules,(0<=r.from_/\r.from_<n)/\(0<=r.to_/\r.to_<n)/\r.eat.toNat<=r.guards.length/\(DT r=false->1<=r.eat.toNat)
theorem K3{x:List Int}{gs:List (List Span)}{at_:Nat}(h:goB x gs at_=true):gs.length+at_<=x.length:=by
 simp only[goB,Ad,Ak] at h;exact h.1
theorem z1p{d:Desc}{n:Nat}(hg:Goes d n){r:Rule}(hr:r∈d.rules)(he:DT r=true):r.eat.toNat=0:=by
 have h1:=(hg.r r hr).2.2.1;simp only[DT,Ak] at he;omega
theorem zif{d:Desc}{n:Nat}{x:List Int}{ord:List Nat}(hg:Goes d n)(ht:Topo d.rules n ord):∀(k at_:Nat),x.length-at_<k->at_<=x.length->∀s:Nat,s<n->∃L,I2 d x at_ s L:=by
 intro k
 induction k with
 |zero=>intro at_ h;omega
 |succ k ih =>
  intro at_ hk ha
  have key:∀i,i<=ord.length->∀s:Nat,s∈ord.take i->∃L,I2 d x at_ s L:=λi=>by
   induction i with
   |zero=>intro _ s hs;simp at hs
   |succ i ihi =>
    intro hi s hs;rw[take_at (by omega),Au,Av] at hs;rcases hs with hs|rfl
    ·exact ihi (by omega) s hs
    ·have hnx:∀r∈d.rules,r.from_=(nth ord i:Nat)->goB x r.guards at_=true->∃L,I2 d x (at_+r.eat.toNat) r.to_ L:=λr hr hf hgo=>by
      obtain⟨_,⟨t1,t2⟩,e1,e2⟩:=hg.r r hr;have hle:=K3 hgo;cases he:DT r with
      |true =>
       obtain⟨t,h1,h2⟩:=ht.eps i (by omega) r hr he hf;rw[z1p hg hr he,h1,Nat.add_zero];exact ihi (by omega) t h2
      |false =>
       have:=e2 he;have h3:=ih (at_+r.eat.toNat) (by omega) (by omega) r.to_.toNat (by omega)
       rwa [Bq t1] at h3
     classical
     exact⟨_,VQ (S:=λa t=>if h:∃L,I2 d x a t L then h.choose else []) λr hr hf hgo=>by
      have h:=hnx r hr hf hgo;simp only[dif_pos h]
      exact h.choose_spec⟩
  intro s hs;exact key ord.length (Ae _) s (by rw[AZ];exact (ht.all s).2 hs)
open Classical in
noncomputable def outW (d:Desc) (x:List Int) (at_:Nat) (s:Int):List (List Int):=if h:∃L,I2 d x at_ s L then h.choose else []
theorem Sl{d:Desc}{x:List Int}{at_:Nat}{s:Int}(h:∃L,I2 d x at_ s L):I2 d x at_ s (outW d x at_ s):=by
 rw[outW,dif_pos h];exact h.choose_spec
theorem zea{d:Desc}{x:List Int}{at_:Nat}{s:Int}{L:List (List Int)}(h:I2 d x at_ s L):outW d x at_ s=L:=z7u (Sl ⟨L,h⟩) h
inductive Ua(d:Desc)(x:List Int):Nat->Int->List Int->Nat->Int->Prop
 |here {at_:Nat} {s:Int}:Ua d x at_ s [] at_ s
 |step {at_:Nat} {s:Int} {u:List Int} {a:Nat} {t:Int} (r:Rule):Ua d x at_ s u a t->r∈d.rules->r.from_=t->goB x r.guards a=true->Ua d x at_ s (u++GK x r.out r.guards a) (a+r.eat.toNat) r.to_
theorem z7w{d:Desc}{x:List Int}{at_:Nat}{s:Int}{u:List Int}{a:Nat}{t:Int}(h:Ua d x at_ s u a t):∀{w:List Int},RelW d x a t w->RelW d x at_ s (u++w):=by
 induction h with
 |here=>intro w hw;exact hw
 |step r _ h1 h2 h3 ih =>
  intro w hw;rw[AA];exact ih (.step r w h1 h2 h3 hw)
theorem VR{d:Desc}{x:List Int}{at_:Nat}{s:Int}{u:List Int}{a:Nat}{t:Int}(h:Ua d x at_ s u a t){L M:List (List Int)}(hL:I2 d x a t L)(hM:I2 d x at_ s M):L.length<=M.length:=by
 have h1:(L.map (u++·)).length<=M.length:=by
  refine It ?_ λw hw=>?_
  ·have hn:L.Nodup:=List.Pairwise.imp (λ{a b} hab (e:a=b)=>by subst e;rw[GY] at hab;cases hab) hL.1
   exact List.Pairwise.map _ (λa b hab (e:u++a=u++b)=>hab (List.append_cancel_left e)) hn
  ·obtain⟨v,hv,rfl⟩:=As.1 hw
   exact (hM.2 _).2 (z7w h ((hL.2 v).1 hv))
 simpa using h1
section
variable {α:Type}(w:Nat)(e:α->AV)
def gG(v:Nat)(l:List α):Grp:=⟨w,v,l.isEmpty,l.map e⟩
def fF(n:Nat)(V:Nat->Nat)(D:Nat->List α):List Grp:=(List.range n).map λi=>gG w e (V i) (D i)
def fT(o n:Nat)(V:Nat->Nat)(D:Nat->List α):List AV:=(List.range n).map λi=>AV.ref (i+o) (V i) 0 (D i).length
def fD(n:Nat)(D:Nat->List α):List AV:=(List.range n).map λi=>AV.lst w ((D i).map e)
def setD(D:Nat->List α)(i:Nat)(l:List α)(p:Nat):List α:=if p=i then l else D p
variable {w e}{n o i:Nat}{V:Nat->Nat}{D:Nat->List α}
theorem OR:(fF w e n V D).length=n:=by simp[fF]
theorem z9v:(fT o n V D).length=n:=by simp[fT]
theorem VS:(fD w e n D).length=n:=by simp[fD]
theorem z7x(h:i<n):(fF w e n V D).getD i default=gG w e (V i) (D i):=Ct h
theorem zig{z:AV}(h:i<n):(fT o n V D).getD i z=.ref (i+o) (V i) 0 (D i).length:=Ct h
theorem z7y{z:AV}(h:i<n):(fD w e n D).getD i z=.lst w ((D i).map e):=Ct h
theorem VT(h:i<n):(fD w e n D)[i]? = some (.lst w ((D i).map e)):=by simp[fD,h]
theorem EJ(he:∀x,(e x).pure=true)(l:List α):AY (l.map e)=true:=Cf.2 λx hx=>by
 obtain⟨y,_,rfl⟩:=As.1 hx;exact he y
theorem FZ(he:∀x,(e x).pure=true):AY (fD w e n D)=true:=Cf.2 λx hx=>by
 obtain⟨i,_,rfl⟩:=As.1 hx;exact EJ he _
theorem z9w{l:List α}(h:i<n):(fT o n V D).set i (.ref (i+o) (V i+1) 0 l.length)=fT o n (setV V i (V i+1)) (setD D i l):=by
 rw[fT,DK h,fT];refine AB λj _=>?_;by_cases hj:j=i
 ·subst hj;simp[setV,setD]
 ·simp[setV,setD,hj]
theorem z9x{l:List α}(hl:l≠[])(h:i<n):(fF w e n V D).set i ⟨w,V i+1,false,l.map e⟩=fF w e n (setV V i (V i+1)) (setD D i l):=by
 rw[fF,DK h,fF];refine AB λj _=>?_;by_cases hj:j=i
 ·subst hj
  cases l with
  |nil=>exact absurd rfl hl
  |cons a l=>simp[setV,setD,gG]
 ·simp[setV,setD,hj,gG]
theorem zeb(l:List α):(!l.isEmpty||(l.map e).isEmpty)=true:=by cases l<;>rfl
theorem z9y{F R:List Grp}(hF:F.length=n)(h:i<n):(F++R).getD i default=F.getD i default:=by
 rw[Aq,A8 (by omega),<-Aq]
theorem zec{F R:List Grp}(hF:F.length=n)(k:Nat):(F++R).getD (n+k) default=R.getD k default:=by
 rw[Aq,AD (by omega),<-Aq];congr 1;omega
theorem Mf{F R:List Grp}(hF:F.length=n):(F++R).getD n default=R.getD 0 default:=by
 have:=zec (R:=R) hF 0;simpa using this
theorem Ub{G:Grp}:∀{F R:List Grp}{i:Nat},i<F.length->setQ (F++R) i G=some (F.set i G++R)
 |[],_,_,h=>by simp at h
 |a::F,R,0,h=>rfl
 |a::F,R,i+1,h=>by rw[List.cons_append,setQ,Ub (by simpa using h)];rfl
theorem VU{G:Grp}:∀(F R:List Grp){n:Nat}(k:Nat),F.length=n->setQ (F++R) (n+k) G=(setQ R k G).map (F++·)
 |[],R,n,k,h=>by
  obtain rfl:n=0:=by simpa using h.symm
  rw[Bj,List.nil_append];cases setQ R k G<;>rfl
 |a::F,R,n,k,h=>by
  obtain⟨m,rfl⟩:∃m,n=m+1:=⟨n-1,by simp at h;omega⟩;rw[show m+1+k=m+k+1 by omega,List.cons_append,setQ,VU F R k (by simpa using h)];cases setQ R k G<;>rfl
theorem Sm{G:Grp}(F R:List Grp){n:Nat}(h:F.length=n):setQ (F++R) n G=(setQ R 0 G).map (F++·):=by
 have:=VU (G:=G) F R 0 h;simpa using this
theorem VV{ks:List Nat}{F R:List Grp}{G:Grp}{p i:Nat}(hi:i<F.length)(h:p+i∈ks):Dd p ks (F++R) (F.set i G++R):=by
 rw[<-DY _ _ hi];exact Ip h
theorem zih:fF w e n (λ_=>1) (λ_=>[])=(List.replicate n w).map HB:=by
 rw[C4];refine BF (by simp[fF]) λi h1 h2=>?_;simp only[fF,Em,D2,List.getElem_replicate];rfl
theorem zed{l:List Grp}{o n:Nat}(hw:0<w)(h:∀i,i<n->l.getD (i+o) default=HB w/\i+o<l.length):leSL l (List.replicate n .nilS) (fT o n (λ_=>1) λ_=>([]:List α)):=by
 have key:∀idx:List Nat,(∀i∈idx,i<n)->leSL l (List.replicate idx.length .nilS) (idx.map λi=>AV.ref (i+o) 1 0 0):=λidx=>by
  induction idx with
  |nil=>exact λ_=>rfl
  |cons i idx ih =>
   intro hi;obtain⟨h1,h2⟩:=h i (hi i (by simp));refine⟨?_,ih λj hj=>hi j (by simp[hj])⟩;show 0=0/\0=0/\(l.getD (i+o) default).ver=1/\0<(l.getD (i+o) default).w/\(l.getD (i+o) default).xs=[]/\(l.getD (i+o) default).exact=true/\i+o<l.length;rw[h1];exact⟨rfl,rfl,rfl,hw,rfl,rfl,h2⟩
 have:=key (List.range n) λi hi=>by simpa using hi
 rwa [CJ] at this
theorem z9z{m o:Nat}(h:n+o<=m):ltL m (fT o n V D):=by
 have key:∀(l:List Nat),(∀i∈l,i<n)->ltL m (l.map λi=>AV.ref (i+o) (V i) 0 (D i).length):=λl=>by
  induction l with
  |nil=>exact λ_=>trivial
  |cons i l ih =>
   intro h';exact⟨by have:=h' i (by simp);show i+o<_;omega,ih λj hj=>h' j (by simp[hj])⟩
 exact key _ λi hi=>by simpa using hi
theorem za0{m:Nat}(he:∀x,(e x).pure=true):∀G∈fF w e n V D,ltL m G.xs:=λG hG=>by
 obtain⟨i,_,rfl⟩:=As.1 hG;exact Dc _ _ (EJ he _)
theorem OT(l0:List Grp){G':Grp}:∀{l:List Grp}{t:Nat},t<l.length->Zd l0 (l.getD t default) G'->H9 l0 l (l.set t G')
 |[],_,h,_=>by simp at h
 |a::l,0,_,h=>⟨h,Iq l0 l⟩
 |a::l,t+1,hl,h=>⟨⟨rfl,rfl,id,BY _ _⟩,OT l0 (by simpa using hl) (by simpa using h)⟩
theorem z1q{m b t v:Nat}{env:Env}{l:List Grp}{ex:Bool}(hw:0<w)(ht:t<l.length)(hg:l.getD t default=⟨1,v,ex,List.replicate n .nilS⟩):
 Ent m b env (Abs.hl l) env (Abs.hl (l.set t ⟨1,v,ex,fT l.length n (λ_=>1) λ_=>([]:List α)⟩++fF w e n (λ_=>1) λ_=>[])):=by
 refine (P8 (List.replicate n w) (λx hx=>by have:=(List.mem_replicate.1 hx).2;omega)).trans (Vx ?_ λi _=>Jg _ _);rw[zih,<-DY _ _ ht];refine OT _ (by simp;omega) ?_;rw[Aq,A8 ht,<-Aq,hg];refine⟨rfl,rfl,id,zed hw λi hi=>⟨?_,by simp;omega⟩⟩;rw[Aq,AD (by omega),C4];simp[hi]
def fKs(t o n:Nat):List Nat:=t::(List.range n).map (·+o)
theorem z1r{t i:Nat}(h:i<n):i+o∈fKs t o n:=Ag.2 (.inr (As.2 ⟨i,Bm.2 h,rfl⟩))
theorem JR{t g:Nat}(h:g≠t)(h2:g<o\/o+n<=g):g∉fKs t o n:=λhh=>by
 rcases Ag.1 hh with hh|hh
 ·exact h hh
 ·obtain⟨i,hi,rfl⟩:=As.1 hh
  have:=Bm.1 hi;omega
theorem z1s{H:Aw}{t v:Nat}(hw:0<w)(he:∀x,(e x).pure=true)(h1:H.at_ t=⟨1,v,true,fT o n V D⟩)(h2:∀i,i<n->H.at_ (i+o)=gG w e (V i) (D i)):
 D9 2 (H.only (fKs t o n)) (.ref t v 0 n)/\frzV 2 (H.only (fKs t o n)) (.ref t v 0 n)=.lst 1 (fD w e n D):=by
 have hat1:(H.only (fKs t o n)).at_ t=⟨1,v,true,fT o n V D⟩:=by
  show (if t∈fKs t o n then H.at_ t else (H.at_ t).dead)=_;rw[Ai (by simp[fKs]),h1]
 have hat:∀i,i<n->(H.only (fKs t o n)).at_ (i+o)=gG w e (V i) (D i):=λi hi=>by
  show (if i+o∈fKs t o n then H.at_ (i+o) else (H.at_ (i+o)).dead)=_;rw[Ai (z1r hi),h2 i hi]
 have htl:(((fT o n V D).drop 0).take n)=fT o n V D:=by
  rw[Cr];exact Ap (by simp[fT])
 have hz:∀x,frzV 0 (H.only (fKs t o n)) x=x:=λx=>rfl;constructor
 ·refine⟨by rw[hat1],by rw[hat1];exact Nat.one_pos,by rw[hat1];simp[fT],λy hy=>?_⟩
  rw[hat1,htl] at hy;obtain⟨i,hi,rfl⟩:=As.1 hy;have hi':i<n:=by simpa using hi
  refine⟨by rw[hat i hi'];rfl,by rw[hat i hi'];exact hw,by rw[hat i hi'];simp[gG],λz hz=>?_⟩;rw[hat i hi'] at hz;obtain⟨u,_,rfl⟩:=As.1 (BX (BJ hz));exact he u
 ·show AV.lst _ _=_
  rw[hat1,htl,fT,CM];congr 1;refine AB λi hi=>?_;have hi':i<n:=by simpa using hi
  show AV.lst _ _=_;rw[hat i hi']
  have e1:(((gG w e (V i) (D i)).xs.drop 0).take (D i).length).map (frzV 0 (H.only (fKs t o n)))=(D i).map e:=by
   rw[Cr,Ap (by simp[gG])];refine (AB λx hx=>?_).trans (EX _);exact hz x
  rw[e1];rfl
theorem z1t{F:List Grp}{t o:Nat}:∀{i:Nat},(∀j,j<F.length->i+j∈fKs t o n)->Fv i (fKs t o n) F=F.map Grp.dead:=by
 induction F with
 |nil=>intro i _;rfl
 |cons G F ih =>
  intro i h
  rw[Fv,Ai (by have:=h 0 (by simp);simpa using this),BP,ih λj hj=>by
   have:=h (j+1) (by simpa using hj)
   rwa [show i+1+j=i+(j+1) by omega]]
theorem Sn(ks:List Nat):∀(i:Nat)(l r:List Grp),Fv i ks (l++r)=Fv i ks l++Fv (i+l.length) ks r
 |i,[],r=>by simp[Fv]
 |i,G::l,r=>by
  rw[List.cons_append,Fv,Fv,Sn ks (i+1) l r,List.cons_append,List.length_cons,show i+1+l.length=i+(l.length+1) by omega]
end
def VW(m:Nat)(env:Env):List (Nat × AV)->Prop
 |[]=>True
 |(t,y)::r=>env t=y/\ltV m y/\VW m env r
theorem OU{m:Nat}{env:Env}:∀{L:List (Nat × AV)},VW m env L->∀p∈L,env p.1=p.2
 |[],_,p,hp=>by cases hp
 |(t,y)::r,h,p,hp=>by
  rcases Ag.1 hp with rfl|hp
  ·exact h.1
  ·exact OU h.2.2 p hp
theorem So{m:Nat}{env:Env}:∀{L:List (Nat × AV)},VW m env L->∀i,ltV m (Er L i)
 |[],_,i=>trivial
 |(t,y)::r,h,i=>by
  show ltV m (if i=t then y else Er r i);split
  ·exact h.2.1
  ·exact So h.2.2 i
theorem Gp{n b:Nat}{env:Env}{l l0 gar:List Grp}(L:List (Nat × AV))(hl':l=l0++gar)(hb:b<=l0.length)(hcl:∀G∈l0,ltL l0.length G.xs)(hL:VW l0.length env L):Ent n b env (Abs.hl l) (Er L) (Abs.hl l0):=by
 subst hl';exact (Ih L (OU hL)).trans (JI hb hcl λi _=>So hL i)
theorem Jq{P:Program}{f:Nat}{xs:List AV}{l:List Grp}{K:AV->Aw->Prop}(h:BN P f xs (Abs.hl l) (λy H'=>∃y' H'',Ent 1 l.length (λ_=>y) H' (λ_=>y') H''/\K y' H'')):BN P f xs (Abs.hl l) K :=
 ⟨h.1,λS cargs hS hx=>(h.2 S cargs hS hx).mono λe w' hh=>by
  obtain⟨v,S1,y,H',he,hw,ev,hS1,hv,y',H'',h1,h2⟩:=hh;have hn:S.n=l.length:=hS.n;obtain⟨S2,q1,q2,q3,q4⟩:=h1 S1 (λ_=>v) (by rw[<-hn];exact ev.n) hS1 (λi _=>hv);have hb:=(ev.down (b:=l.length) (by omega)).trans q2
  exact⟨v,S2,y',_,he,q1.trans hw,⟨hb.base,hb.os,hb.tape,hb.output,hb.size,hb.kept,hb.im,hb.keep,hb.fresh,by rw[hn];exact hb.n,λg hg=>hb.cur g (by omega),λg hg=>hb.same g (by omega)⟩,q3,q4 0 Nat.one_pos,h2⟩⟩
theorem VX{b:Nat}{y:AV}{l l0 gar:List Grp}(hl':l=l0++gar)(hb:b<=l0.length)(hcl:∀G∈l0,ltL l0.length G.xs)(hy:ltV l0.length y):Ent 1 b (λ_=>y) (Abs.hl l) (λ_=>y) (Abs.hl l0):=by
 subst hl';exact JI hb hcl λi _=>hy
theorem z1u{P:Program}{f:Nat}{xs:List AV}{l l0 extra:List Grp}{K0 K:AV->Aw->Prop}(hl':l=l0++extra)(h:BN P f xs (Abs.hl l0) K0)(hlt:ltL l0.length xs)(hltG:∀G∈l0,ltL l0.length G.xs)
 (hK:∀y H',K0 y H'->∃l',H'=Abs.hl l'/\l'.length=l0.length/\ltV l0.length y/\(∀G∈l',ltL l0.length G.xs)/\@nx y (Abs.hl (l'++extra)) ⟨K⟩):@Pu P f xs (Abs.hl l) ⟨K⟩:=by
 subst hl';exact z03 h hlt hltG hK
end Go.Proofs.YtbcjoeadpjfcfaaGreat
set_option maxRecDepth 100000
namespace Go.Proofs.YtbcjoeadpjfcfaaGreat
open Abs
abbrev e1(i:Nat):AV:=.int .i64 i
end Go.Proofs.YtbcjoeadpjfcfaaGreat
namespace Go.Proofs.YtbcjoeadpjfcfaaGreat.Abs
def Frz1(d:Nat)(H:Aw)(ks:List Nat)(x y:AV):Prop:=y=x\/(D9 d (H.only ks) x/\y=frzV d (H.only ks) x)
def FrzL(d:Nat)(H:Aw)(ks:List Nat):List AV->List AV->Prop
 |[],ys=>ys=[]
 |x::xs,ys=>∃y r,ys=y::r/\Frz1 d H ks x y/\FrzL d H ks xs r
def Frz2(d:Nat)(H:Aw)(ks:List Nat)(x y:AV):Prop:=Frz1 d H ks x y\/∃cs ds,x=.agg cs/\y=.agg ds/\FrzL d H ks cs ds
def FrzM(d:Nat)(H:Aw)(ks:List Nat):List AV->List AV->Prop
 |[],ys=>ys=[]
 |x::xs,ys=>∃y r,ys=y::r/\Frz2 d H ks x y/\FrzM d H ks xs r
theorem FrzM.len{d:Nat}{H:Aw}{ks:List Nat}:∀{xs ys:List AV},FrzM d H ks xs ys->ys.length=xs.length
 |[],_,h=>by rw[show _=[] from h]
 |x::xs,_,⟨y,r,rfl,_,h⟩=>by simp[FrzM.len h]
theorem Frz1.rel{d:Nat}{H:Aw}{ks:List Nat}{S:MS}(hS:SRel S H){x y:AV}{v:Value}(h:Frz1 d H ks x y)(hv:VRel S x v):VRel (S.kill H ks) y v:=by
 rcases h with rfl|⟨h1,rfl⟩
 ·exact VRel.mono (Hp ks hS) _ hv
 ·exact LY ks hS d h1 hv
theorem FrzL.rel{d:Nat}{H:Aw}{ks:List Nat}{S:MS}(hS:SRel S H):∀{xs ys:List AV}{vs:List Value},FrzL d H ks xs ys->AF S xs vs->AF (S.kill H ks) ys vs
 |[],_,_,h,hv=>by rw[show _=[] from h];exact hv
 |x::xs,_,_,⟨y,r,rfl,h1,h2⟩,⟨u,q,rfl,k1,k2⟩=>⟨u,q,rfl,h1.rel hS k1,FrzL.rel hS h2 k2⟩
theorem Frz2.rel{d:Nat}{H:Aw}{ks:List Nat}{S:MS}(hS:SRel S H){x y:AV}{v:Value}(h:Frz2 d H ks x y)(hv:VRel S x v):VRel (S.kill H ks) y v:=by
 rcases h with h|⟨cs,ds,rfl,rfl,h⟩
 ·exact h.rel hS hv
 ·obtain⟨vs,rfl,hvs⟩:=hv
  exact⟨vs,rfl,h.rel hS hvs⟩
theorem FrzM.rel{d:Nat}{H:Aw}{ks:List Nat}{S:MS}(hS:SRel S H):∀{xs ys:List AV}{vs:List Value},FrzM d H ks xs ys->AF S xs vs->AF (S.kill H ks) ys vs
 |[],_,_,h,hv=>by rw[show _=[] from h];exact hv
 |x::xs,_,_,⟨y,r,rfl,h1,h2⟩,⟨u,q,rfl,k1,k2⟩=>⟨u,q,rfl,h1.rel hS k1,FrzM.rel hS h2 k2⟩
theorem FrzM.refl{d:Nat}{H:Aw}{ks:List Nat}:∀(xs:List AV),FrzM d H ks xs xs
 |[]=>rfl
 |x::xs=>⟨x,xs,rfl,.inl (.inl rfl),FrzM.refl xs⟩
theorem FrzM.set{d:Nat}{H:Aw}{ks:List Nat}{y:AV}:∀{xs:List AV}{i:Nat},i<xs.length->Frz2 d H ks (xs.getD i .any) y->FrzM d H ks xs (xs.set i y)
 |[],_,h,_=>by simp at h
 |x::xs,0,_,h=>⟨y,xs,rfl,h,FrzM.refl xs⟩
 |x::xs,i+1,hi,h=>⟨x,_,rfl,.inl (.inl rfl),FrzM.set (by simpa using hi) (by simpa using h)⟩
theorem N2{n b:Nat}{env:Env}{l l':List Grp}{g w v d:Nat}{ex:Bool}{xs ys:List AV}(ks:List Nat)(hw:0<w)(hlt:g<l.length)(hg:l.getD g default=⟨w,v,ex,xs⟩)(hk:g∉ks)
 (hxy:FrzM d (hl l) ks xs ys) (hl':(Fv 0 ks l).set g ⟨w,v,ex,ys⟩=l'):Ent n b env (hl l) env (hl l'):=λS val hb hS hv=>by
 subst hl';have hS1:=LX ks hS;have he:=Hp ks hS;refine⟨S.kill (hl l) ks,rfl,he.down hb,?_,λi hi=>VRel.mono he _ (hv i hi)⟩;have hlk:g<(Fv 0 ks l).length:=by rw[Hf];exact hlt
 have hat0:∀j,j<l.length->((hl l).kill ks).at_ j=(Fv 0 ks l).getD j default:=λj hj=>by
  rw[Ke 0 ks l j hj,Bj];rfl
 have hn:(hl ((Fv 0 ks l).set g ⟨w,v,ex,ys⟩)).n=((hl l).kill ks).n:=by simp[hl,Aw.kill,Hf]
 have hlen:((hl l).kill ks).n=l.length:=rfl
 have hat:∀j,j<l.length->(hl ((Fv 0 ks l).set g ⟨w,v,ex,ys⟩)).at_ j=if j=g then ⟨w,v,ex,ys⟩ else ((hl l).kill ks).at_ j:=λj hj=>by
  rw[Dt];by_cases e:j=g
  ·subst e;rw[Ai rfl];exact Ic _ hlk
  ·rw[Ah e,hat0 j hj];exact Ga _ (Aj e)
 have hgk:((hl l).kill ks).at_ g=⟨w,v,ex,xs⟩:=by
  show (if g∈ks then _ else _)=_;rw[Ah hk,Dt,hg]
 have h1:GRel (S.kill (hl l) ks) ⟨w,v,ex,xs⟩ g:=by have:=hS1.grp g (by rw[hlen];exact hlt);rwa [hgk] at this
 have h0:GRel S ⟨w,v,ex,xs⟩ g:=by have:=hS.grp g hlt;rwa [Dt,hg] at this
 have hly:=hxy.len
 have hG:GRel (S.kill (hl l) ks) ⟨w,v,ex,ys⟩ g:=by
  refine⟨h1.ver,h1.wid,λ_ hc=>?_,λhh=>by show ys.length<=_;rw[hly];exact h1.len hh,λhh he=>by show ys.length=_;rw[hly];exact h1.full hh he,λhh=>by simp only at hh;omega⟩;obtain⟨⟨cells,TT,vs,a1,a2,a3,a4⟩,_⟩:=h0.live hw hc;exact⟨⟨cells,TT,vs,a1,a2,hxy.rel hS a3,a4⟩,(h1.live hw hc).2⟩
 have hhas:∀j,j<l.length->((hl ((Fv 0 ks l).set g ⟨w,v,ex,ys⟩)).at_ j).has ((S.kill (hl l) ks).cap j)->(((hl l).kill ks).at_ j).has ((S.kill (hl l) ks).cap j):=λj hj h=>by
  rw[hat j hj] at h;by_cases e:j=g
  ·subst e;rw[Ai rfl] at h;rw[hgk];exact h
  ·rw[Ah e] at h;exact h
 refine⟨hS1.n.trans hn.symm,λj hj=>?_,λj j' a c hne p q=>hS1.apart j j' (by rwa [hn] at a) (by rwa [hn] at c) hne (hhas j (by rwa [hn] at a) p) (hhas j' (by rwa [hn] at c) q),hS1.im⟩;rw[hn] at hj;rw[hat j hj];by_cases e:j=g
 ·subst e;rw[Ai rfl];exact hG
 ·rw[Ah e];exact hS1.grp j hj
end Go.Proofs.YtbcjoeadpjfcfaaGreat.Abs
set_option maxRecDepth 100000
namespace Go.Proofs.YtbcjoeadpjfcfaaGreat
open Abs
def ruI(l:List Rule)(s:Nat):List Nat:=(List.range l.length).filter λi=>decide ((nth l i).from_=(s:Int))
theorem H5{l:List Rule}{s i:Nat}:i∈ruI l s↔i<l.length/\(nth l i).from_=s:=by simp[ruI]
theorem Uc(l:List Rule)(s:Nat):(ruI l s).length<=l.length:=by
 have:=Bt (λi=>decide ((nth l i).from_=(s:Int))) (List.range l.length)
 rwa [CJ] at this
def Ud(l:List Rule)(a b:Int):Prop:=∃i p,okP l a (i::p)/\endP l a (i::p)=b
theorem z7z{l:List Rule}{i:Nat}(h:i<l.length)(he:DT (nth l i)=true):Ud l (nth l i).from_ (nth l i).to_ :=
 ⟨i,[],⟨Qp.2 ⟨h,he,rfl⟩,trivial⟩,rfl⟩
theorem XU{l:List Rule}{a b c:Int}(h:Ud l a b)(k:Ud l b c):Ud l a c:=by
 obtain⟨i,p,h1,h2⟩:=h;obtain⟨j,q,k1,k2⟩:=k;refine⟨i,p++j::q,?_,?_⟩
 ·rw[<-List.cons_append,Qq,h2];exact⟨h1,k1⟩
 ·rw[<-List.cons_append,Me,h2];exact k2
theorem z1v{l:List Rule}{n:Nat}(hl:∀r∈l,(0<=r.from_/\r.from_<n)/\0<=r.to_/\r.to_<n)(hc:¬cycP l n){a:Int}(ha:0<=a):¬Ud l a a:=by
 rintro⟨i,p,h1,h2⟩
 have key:∀k:Nat,∃q,okP l a q/\endP l a q=a/\k<=q.length:=λk=>by
  induction k with
  |zero=>exact⟨[],trivial,rfl,Ae _⟩
  |succ k ih =>
   obtain⟨q,q1,q2,q3⟩:=ih;refine⟨q++i::p,?_,?_,by simp;omega⟩
   ·rw[Qq,q2];exact⟨q1,h1⟩
   ·rw[Me,q2];exact h2
 obtain⟨q,q1,_,q3⟩:=key (n+2);have:=z1o hl hc ha q1;omega
def Ue(l:List Rule)(ord:List Nat):Prop:=∀i,i<ord.length->∀r∈l,DT r=true->r.from_=(nth ord i:Nat)->∃t:Nat,r.to_=t/\t∈ord.take i
theorem Sp{l:List Rule}{ord:List Nat}{s:Nat}(h:Ue l ord)(hs:∀r∈l,DT r=true->r.from_=(s:Int)->∃t:Nat,r.to_=t/\t∈ord):Ue l (ord++[s]):=λi hi r hr he hf=>by
 rw[Ao,List.length_singleton] at hi;rcases Am i ord.length with h1|h1
 ·have e:nth (ord++[s]) i=nth ord i:=by simp[nth,List.getD,A8 h1]
  rw[e] at hf;obtain⟨t,t1,t2⟩:=h i h1 r hr he hf;exact⟨t,t1,by rw[C7 (by omega)];exact t2⟩
 ·obtain rfl:i=ord.length:=by omega
  have e:nth (ord++[s]) ord.length=s:=by simp[nth,List.getD]
  rw[e] at hf;obtain⟨t,t1,t2⟩:=hs r hr he hf;exact⟨t,t1,by rw[C7 (Ae _),AZ];exact t2⟩
structure OV(l:List Rule)(n:Nat)(dn:Nat->Bool)(ord:List Nat)(s:Nat):Prop where
 p1:∀a∈ord,dn a=true
 p2:∀a,a<n->dn a=true->a∈ord\/Ud l a s
 p3:Ue l ord
 p4:ord.Nodup/\∀a∈ord,a<n
structure Qr(l:List Rule)(n:Nat)(dn:Nat->Bool)(ord:List Nat)(s:Nat)(dn':Nat->Bool)(new:List Nat):Prop where
 q2:s∈ord++new
 q3:∀a,a<n->(dn' a=true↔dn a=true\/a∈new)
 q4:Ue l (ord++new)
 q5:(ord++new).Nodup/\∀a∈ord++new,a<n
 q6:∀a∈new,dn a=false
def IQ(dn:Nat->Bool):Nat->Nat
 |0=>0
 |k+1=>IQ dn k+(if dn k=true then 0 else 1)
theorem Sq{dn dn':Nat->Bool}:∀{n:Nat},(∀a,a<n->dn a=true->dn' a=true)->IQ dn' n<=IQ dn n
 |0,_=>Ae _
 |n+1,h=>by
  have ih:=Sq (n:=n) λa ha=>h a (by omega);simp only[IQ];cases h1:dn n with
  |true=>rw[h n (by omega) h1];simp;exact ih
  |false=>simp;split<;>omega
theorem Sr{dn dn':Nat->Bool}{s:Nat}(h1:dn s=false)(h2:dn' s=true):∀{n:Nat},s<n->(∀a,a<n->dn a=true->dn' a=true)->IQ dn' n<IQ dn n
 |0,hs,_=>by omega
 |n+1,hs,h=>by
  simp only[IQ];by_cases e:s=n
  ·subst e
   have:=Sq (n:=s) λa ha=>h a (by omega);simp[h1,h2];omega
  ·have ih:=Sr h1 h2 (n:=n) (by omega) λa ha=>h a (by omega)
   cases h3:dn n with
   |true=>rw[h n (by omega) h3];simp;exact ih
   |false=>simp;split<;>omega
structure N3(l:List Rule)(n:Nat)(dn:Nat->Bool)(ord:List Nat)(s:Nat)(dk:Nat->Bool)(new:List Nat)(k:Nat):Prop where
 m3:∀a,a<n->(dk a=true↔dn a=true\/a=s\/a∈new)
 m4:Ue l (ord++new)
 m5:(ord++new).Nodup/\∀a∈ord++new,a<n
 m6:∀a∈new,dn a=false/\a≠s
 m7:∀j,j<k->DT (nth l (nth (ruI l s) j))=true->∃t:Nat,(nth l (nth (ruI l s) j)).to_=t/\t∈ord++new
theorem zee{l:List Rule}{n:Nat}{dn:Nat->Bool}{ord:List Nat}{s:Nat}{dk:Nat->Bool}{new:List Nat}{k i:Nat}(hm:N3 l n dn ord s dk new k)(hp:OV l n dn ord s)(hi:i∈ruI l s)(he:DT (nth l i)=true)(j:Nat)(hj:(nth l i).to_=j):OV l n dk (ord++new) j:=by
 obtain⟨i1,i2⟩:=H5.1 hi;have hone:Ud l s j:=by have:=z7z i1 he;rwa [i2,hj] at this
 refine⟨λa ha=>?_,λa ha h=>?_,hm.m4,hm.m5⟩
 ·have han:=hm.m5.2 a ha
  rcases Au.1 ha with h|h
  ·exact (hm.m3 a han).2 (.inl (hp.p1 a h))
  ·exact (hm.m3 a han).2 (.inr (.inr h))
 ·rcases (hm.m3 a ha).1 h with h|rfl|h
  ·rcases hp.p2 a ha h with h|h
   ·exact .inl (Da _ h)
   ·exact .inr (XU h hone)
  ·exact .inr hone
  ·exact .inl (DI _ h)
theorem z80{l:List Rule}{n:Nat}{dn:Nat->Bool}{ord:List Nat}{s:Nat}{dk:Nat->Bool}{new:List Nat}{k i:Nat}(hm:N3 l n dn ord s dk new k)(hk:k<(ruI l s).length)(hi:i=nth (ruI l s) k)(he:DT (nth l i)=false):N3 l n dn ord s dk new (k+1) :=
 ⟨hm.m3,hm.m4,hm.m5,hm.m6,λj hj h=>by
  rcases Am j k with h1|h1
  ·exact hm.m7 j h1 h
  ·obtain rfl:j=k:=by omega
   rw[<-hi,he] at h;cases h⟩
theorem z81{l:List Rule}{n:Nat}{dn:Nat->Bool}{ord:List Nat}{s:Nat}{dk:Nat->Bool}{new:List Nat}{k i:Nat}{dn2:Nat->Bool}{new2:List Nat}(hm:N3 l n dn ord s dk new k)(hp:OV l n dn ord s)(hk:k<(ruI l s).length)(hi:i=nth (ruI l s) k)
 (h:DT (nth l i)=true/\∃j:Nat,(nth l i).to_=j/\Qr l n dk (ord++new) j dn2 new2):N3 l n dn ord s dn2 (new++new2) (k+1):=by
 obtain⟨he,j,hj,hq⟩:=h;have hsn:s<n->dk s=true:=λhs=>(hm.m3 s hs).2 (.inr (.inl rfl));refine⟨λa ha=>?_,by rw[<-AA];exact hq.q4,by rw[<-AA];exact hq.q5,λa ha=>?_,λm hmk h=>?_⟩
 ·rw[hq.q3 a ha,hm.m3 a ha,Au]
  constructor
  ·rintro ((h|h|h)|h)
   ·exact .inl h
   ·exact .inr (.inl h)
   ·exact .inr (.inr (.inl h))
   ·exact .inr (.inr (.inr h))
  ·rintro (h|h|h|h)
   ·exact .inl (.inl h)
   ·exact .inl (.inr (.inl h))
   ·exact .inl (.inr (.inr h))
   ·exact .inr h
 ·rcases Au.1 ha with h|h
  ·exact hm.m6 a h
  ·have han:a<n:=hq.q5.2 a (DI _ h)
   have h6:=hq.q6 a h;refine⟨?_,λe=>?_⟩
   ·cases hd:dn a with
    |false=>rfl
    |true=>rw[(hm.m3 a han).2 (.inl hd)] at h6;cases h6
   ·subst e;rw[hsn han] at h6;cases h6
 ·rw[<-AA]
  rcases Am m k with h1|h1
  ·obtain⟨t,t1,t2⟩:=hm.m7 m h1 h
   exact⟨t,t1,Da _ t2⟩
  ·obtain rfl:m=k:=by omega
   rw[<-hi];exact⟨j,hj,hq.q2⟩
theorem zef{l:List Rule}{n:Nat}{dn:Nat->Bool}{ord:List Nat}{s:Nat}{dk:Nat->Bool}{new:List Nat}(hm:N3 l n dn ord s dk new (ruI l s).length)(hp:OV l n dn ord s)(hs:s<n)(hsno:s∉ord)(hd:dn s=false):Qr l n dn ord s dk (new++[s]):=by
 have hsnew:s∉new:=λh=>(hm.m6 s h).2 rfl;refine⟨by simp,λa ha=>?_,?_,⟨?_,λa ha=>?_⟩,λa ha=>?_⟩
 ·rw[hm.m3 a ha,Au,Av]
  constructor
  ·rintro (h|h|h)
   ·exact .inl h
   ·exact .inr (.inr h)
   ·exact .inr (.inl h)
  ·rintro (h|h|h)
   ·exact .inl h
   ·exact .inr (.inr h)
   ·exact .inr (.inl h)
 ·rw[<-AA]
  refine Sp hm.m4 λr hr he hf=>?_;obtain⟨i,hi,rfl⟩:=B8 hr;have e:nth l i=l[i]:=GF hi;have hmem:i∈ruI l s:=H5.2 ⟨hi,by rw[e];exact hf⟩;obtain⟨j,hj,hje⟩:=B8 hmem;have e2:nth (ruI l s) j=i:=by rw[GF hj];exact hje
  have:=hm.m7 j hj (by rw[e2,e];exact he);rw[e2,e] at this;exact this
 ·rw[<-AA]
  refine DO.2 ⟨hm.m5.1,Cj.2 ⟨by simp,Dn⟩,λa ha b hb=>?_⟩;rw[Av.1 hb];rintro rfl;rcases Au.1 ha with h|h
  ·exact hsno h
  ·exact hsnew h
 ·rw[<-AA] at ha
  rcases Au.1 ha with h|h
  ·exact hm.m5.2 a h
  ·rw[Av.1 h];exact hs
 ·rcases Au.1 ha with h|h
  ·exact (hm.m6 a h).1
  ·rw[Av.1 h];exact hd
def rnB(d:Desc)(x:List Int)(RU FI od li:AV):AV:=.agg [.int .i64 d.in_,.int .i64 d.out,.int .i64 d.states,.int .i64 d.start,F2 d.rules,FN d.finals,AX x,RU,FI,od,li]
def ruV(l:List Rule)(n:Nat):AV:=.lst 1 (fD 1 e1 n (ruI l))
def srtL(d:Desc)(x:List Int)(n:Nat)(FI:AV)(v:Nat)(dn:Nat->Bool)(ord:List Nat):List Grp :=
 [⟨11,1,true,[rnB d x (ruV d.rules n) FI (.ref 2 v 0 ord.length) .nilS]⟩,⟨1,1,true,spB n dn⟩,gG 1 e1 v ord]
theorem FC(d:Desc)(x:List Int)(n:Nat)(FI:AV)(hFI:FI.pure=true)(v:Nat)(dn:Nat->Bool)(ord:List Nat):∀G∈srtL d x n FI v dn ord,ltL 3 G.xs:=λG hG=>by
 have h1:ltV 3 (F2 d.rules):=Cz _ _ (BS _);have h2:ltV 3 (FN d.finals):=Cz _ _ (BI _);have h3:ltV 3 (AX x):=Cz _ _ (BK .i32 _);have h4:ltV 3 (ruV d.rules n):=Cz _ _ (FZ λ_=>rfl);have h5:ltV 3 FI:=Cz _ _ hFI;simp only[srtL,Ag,Al,Ay] at hG;rcases hG with rfl|rfl|rfl
 ·exact⟨⟨trivial,trivial,trivial,trivial,h1,h2,h3,h4,h5,(show 2<3 by omega),trivial,trivial⟩,trivial⟩
 ·exact Dc _ _ (Cf.2 λy hy=>by obtain⟨i,_,rfl⟩:=As.1 hy;rfl)
 ·exact Dc _ _ (EJ (λ_=>rfl) _)
theorem z82(d:Desc)(x:List Int){n:Nat}(hn:n<=1024)(hrl:d.rules.length<=4096)(hl:∀r∈d.rules,(0<=r.from_/\r.from_<n)/\0<=r.to_/\r.to_<n)(hc:¬cycP d.rules n)(FI:AV)(hFI:FI.pure=true):
 ∀(u:Nat)(s:Nat)(v:Nat)(dn:Nat->Bool)(ord:List Nat),IQ dn n<=u->s<n->OV d.rules n dn ord s ->
 BN Tryz.prog 101 [.ptr 0 1 0 0,.int .i64 s,.ref 1 1 0 n] (Abs.hl (srtL d x n FI v dn ord)) λy H'=>∃v' dn' new,y=.tup [] /\
  H'=Abs.hl (srtL d x n FI v' dn' (ord++new))/\Qr d.rules n dn ord s dn' new:=by
 intro u
 induction u using Nat.strongRecOn with
 |ind u ih =>
 intro s v dn ord hu hs hp;have hs0:(0:Int)<=s:=by omega
 have pR:=BS d.rules;have pFi:=BI d.finals;have pX:AY (x.map (AV.int .i32))=true:=BK .i32 _;have pRU:AY (fD 1 e1 n (ruI d.rules))=true:=FZ λ_=>rfl;have lB:∀on,(spB n on).length=n:=λon=>by simp[spB]
 have aB:(spB n dn).getD s .any=.bool (dn s):=Ct hs;have pB:∀on,AY (spB n on)=true:=λon=>Cf.2 λy hy=>by obtain⟨i,_,rfl⟩:=As.1 hy;rfl
 refine Jq (Mr KT (W_T ?_));unfold HJ;cases hd:dn s with
 |true =>
  rw[hd] at aB;have hso:s∈ord:=(hp.p2 s hs hd).resolve_right (z1v hl hc hs0);rw[srtL];unfold rnB;(with_reducible repeat'(first|(simp(disch:=omega)only[push_cast,↓zz,seval,pR,pFi,pX,hFI,lB,aB,pB])|refine Aa ?_ ?_|(first|refine Ac ?_ ?_|refine Ab ?_ ?_)<;>intro hc<;>(try simp only[push_cast] at hc)|omega|intro _))
  all_goals exact⟨_,_,Ent.refl,v,dn,[],rfl,by rw[AH];rfl,⟨by simpa using hso,λa _=>by simp,by rw[AH];exact hp.p3,by rw[AH];exact hp.p4,λa ha=>by cases ha⟩⟩
 |false =>
  rw[hd] at aB;have hset:=z1e (on:=dn) hs;have lRU:(fD 1 e1 n (ruI d.rules)).length=n:=VS;have aR:(fD 1 e1 n (ruI d.rules)).getD s .any=.lst 1 ((ruI d.rules s).map e1):=z7y hs;have aR2:(fD 1 e1 n (ruI d.rules))[s]? = some (.lst 1 ((ruI d.rules s).map e1)):=VT hs;have pI:AY ((ruI d.rules s).map e1)=true:=EJ (λ_=>rfl) _;have hIl:=Uc d.rules s;have hsno:s∉ord:=λh=>by have:=hp.p1 s h;rw[hd] at this;cases this
  have hlt:∀dn',(∀a,a<n->dn a=true->dn' a=true)->dn' s=true->IQ dn' n<u:=λdn' h1 h2=>AT (Sr hd h2 hs h1) hu;rw[srtL];unfold rnB ruV;generalize hRe:fD 1 e1 n (ruI d.rules)=RU at *;(with_reducible repeat'(first|(simp(disch:=omega)only[push_cast,↓zz,seval,pR,pFi,pX,hFI,lB,aB,pB,hset,lRU,aR,aR2,pI])|refine Aa ?_ ?_|(first|refine Ac ?_ ?_|refine Ab ?_ ?_)<;>intro hc<;>(try simp only[push_cast] at hc)|omega|intro _))
  refine Bu (I9 (λ(q:Nat × Nat × (Nat->Bool) × List Nat)=>q.1<=(ruI d.rules s).length/\Hold (N3 d.rules n dn ord s q.2.2.1 q.2.2.2 q.1)) (λq=>(ruI d.rules s).length-q.1)
   (λq=>Er [(0,.ptr 0 1 0 0),(1,.int .i64 s),(2,.ref 1 1 0 n),(22,.lst 1 ((ruI d.rules s).map e1)),(23,.int .i64 (ruI d.rules s).length),(24,.int .i64 q.1)])
   (λq=>Abs.hl (srtL d x n FI q.2.1 q.2.2.1 (ord++q.2.2.2))) (0,v,setB dn s,[]) ⟨AI _,⟨?_⟩⟩ ?_ ?_)
  ·refine⟨λa _=>?_,by rw[AH];exact hp.p3,by rw[AH];exact hp.p4,λa ha=>(by cases ha),λj hj=>absurd hj (Ba _)⟩
   simp only[setB];by_cases e:a=s<;>simp[e]
  ·refine Gp (gar:=[]) _ ?_ (by simp[srtL,hl_n]) (FC d x n FI hFI _ _ _) ?_
   ·rw[AH,AH,srtL]
    unfold rnB ruV;rw[hRe]
   ·have hI:ltV 3 (.lst 1 ((ruI d.rules s).map e1)):=Cz _ _ pI
    exact⟨rfl,(show 0<3 by omega),rfl,trivial,rfl,(show 1<3 by omega),rfl,hI,rfl,trivial,rfl,trivial,trivial⟩
  rintro⟨k,v1,dk,new⟩ ⟨hk,⟨hm⟩⟩;simp only at hk hm ⊢;have hI:ltV 3 (.lst 1 ((ruI d.rules s).map e1)):=Cz _ _ pI;rcases Am k (ruI d.rules s).length with hkl|hkl
  ·obtain⟨i,hi⟩:∃i,i=nth (ruI d.rules s) k:=⟨_,rfl⟩
   have him:i∈ruI d.rules s:=by rw[hi];exact BA hkl
   obtain⟨i1,i2⟩:=H5.1 him;have aI:((ruI d.rules s).map e1).getD k .any=.int .i64 i:=by rw[hi];simp[nth,List.getD,hkl]
   have hto:=(hl _ (BA i1)).2;have hmid:=λdn2 new2 h=>z81 (dn:=dn) (ord:=ord) (s:=s) (dk:=dk) (new:=new) (dn2:=dn2) (new2:=new2) hm hp hkl hi h;have hskip:=z80 (dn:=dn) (ord:=ord) (s:=s) (dk:=dk) (new:=new) hm hkl hi;have hpre:=λh=>zee (dn:=dn) (ord:=ord) (s:=s) (dk:=dk) (new:=new) (i:=i) hm hp him h;generalize hre:nth d.rules i=r at *;have hgr:=AO r.guards;have hot:=Co r.out;obtain⟨j,hj⟩:∃j:Nat,r.to_=j:=⟨r.to_.toNat,by omega⟩;have hjn:j<n:=by omega
   rw[srtL];unfold rnB ruV;rw[hRe];refine W_T ?_;cases he:DT r with
   |true =>
    have he0:(r.guards.length:Int)=0:=by simpa [DT] using he
    have hIH:=ih (IQ dk n) (hlt dk (λa ha h=>(hm.m3 a ha).2 (.inl h)) ((hm.m3 s hs).2 (.inr (.inl rfl)))) j v1 dk (ord++new) (Ae _) hjn (hpre he j hj);(with_reducible repeat'(first|(simp(disch:=omega)only[push_cast,↓zz,seval,pR,pFi,pX,hFI,lB,pB,pI,aI,hre,hgr,hot,hj,i1,he0])|refine Aa ?_ ?_|(first|refine Ac ?_ ?_|refine Ab ?_ ?_)<;>intro hc<;>(try simp only[push_cast] at hc)|omega|intro _));refine z1u (l0:=srtL d x n FI v1 dk (ord++new)) (extra:=[_]) (by rw[srtL];unfold rnB ruV;rw[hRe,Ao];rfl) hIH ?_ (FC d x n FI hFI _ _ _) ?_
    ·exact⟨(show 0<3 by omega),trivial,(show 1<3 by omega),trivial⟩
    rintro y H' ⟨v2,dn2,new2,rfl,rfl,hpost⟩;refine⟨_,rfl,rfl,trivial,FC d x n FI hFI _ _ _,?_⟩;have hM:=hmid dn2 new2 ⟨he,j,hj,hpost⟩;rw[AA];(with_reducible repeat'(first|(simp(disch:=omega)only[push_cast,↓zz,seval])|refine Aa ?_ ?_|(first|refine Ac ?_ ?_|refine Ab ?_ ?_)<;>intro hc<;>(try simp only[push_cast] at hc)|omega|intro _));refine⟨(k+1,v2,dn2,new++new2),Gp (gar:=[_]) _ rfl (by simp[srtL,hl_n]) (FC d x n FI hFI _ _ _) ?_,⟨by omega,⟨hM⟩⟩,by simp only;omega⟩;exact⟨rfl,(show 0<3 by omega),rfl,trivial,rfl,(show 1<3 by omega),rfl,hI,rfl,trivial,rfl,trivial,trivial⟩
   |false =>
    have he0:¬(r.guards.length:Int)=0:=by simpa [DT] using he
    (with_reducible repeat'(first|(simp(disch:=omega)only[push_cast,↓zz,seval,pR,pFi,pX,hFI,lB,pB,pI,aI,hre,hgr,hot,hj,i1,he0])|refine Aa ?_ ?_|(first|refine Ac ?_ ?_|refine Ab ?_ ?_)<;>intro hc<;>(try simp only[push_cast] at hc)|omega|intro _));refine⟨(k+1,v1,dk,new),Gp (gar:=[⟨5,1,true,[.agg [.int .i64 r.from_,.int .i64 j,Bg r.guards,.int .i64 r.eat,E5 r.out]]⟩]) _ ?_ (by simp[srtL,hl_n]) (FC d x n FI hFI _ _ _) ?_,⟨by omega,⟨hskip he⟩⟩,by simp only;omega⟩
    ·simp only
     rw[srtL];unfold rnB ruV;rw[hRe,Ao];rfl
    ·exact⟨rfl,(show 0<3 by omega),rfl,trivial,rfl,(show 1<3 by omega),rfl,hI,rfl,trivial,rfl,trivial,trivial⟩
  ·obtain rfl:k=(ruI d.rules s).length:=by omega
   have hend:=zef hm hp hs hsno hd
   have hol:(ord++new).length<=n:=by
    have:=It (l:=ord++new) (m:=List.range n) hm.m5.1 λa ha=>Bm.2 (hm.m5.2 a ha);simpa using this
   have hEx:=zeb (e:=e1) (ord++new);have pO:AY ((ord++new).map e1)=true:=EJ (λ_=>rfl) _;have eO:(ord++(new++[s])).map e1=(ord++new).map e1++[.int .i64 (s:Int)]:=by simp
   have eL:(ord++(new++[s])).length=(ord++new).length+1:=by simp;omega
   have hfin:∀v1,srtL d x n FI (v1+1) dk (ord++(new++[s]))=[⟨11,1,true,[rnB d x (ruV d.rules n) FI (.ref 2 (v1+1) 0 ((ord++new).length+1)) .nilS]⟩,⟨1,1,true,spB n dk⟩,⟨1,v1+1,false,(ord++new).map e1++[.int .i64 (s:Int)]⟩]:=λv1=>by
    have he:(ord++(new++[s])).isEmpty=false:=by simp
    rw[srtL,gG,eO,eL,he]
   rw[srtL,gG];generalize ord++new=on at *;unfold rnB ruV;rw[hRe];refine W_T ?_;(with_reducible repeat'(first|(simp(disch:=omega)only[push_cast,↓zz,seval,pR,pFi,pX,hFI,lB,pB,pI,hEx,pO])|refine Aa ?_ ?_|(first|refine Ac ?_ ?_|refine Ab ?_ ?_)<;>intro hc<;>(try simp only[push_cast] at hc)|omega|intro _));refine⟨_,_,VX (l0:=srtL d x n FI (v1+1) dk (ord++(new++[s]))) (gar:=[⟨1,1,true,[.int .i64 (s:Int)]⟩]) ?_ (by simp[srtL,hl_n]) (FC d x n FI hFI _ _ _) trivial,v1+1,dk,new++[s],rfl,rfl,hend⟩;rw[hfin];unfold rnB ruV;rw[hRe];rfl
def lvB(n m:Nat)(L:Nat->Nat->Bool):List AV:=(List.range m).map λp=>AV.bool (L (p / n) (p % n))
def setP{β:Type}(L:Nat->Nat->β)(a t:Nat)(v:β):Nat->Nat->β:=λb u=>if b=a/\u=t then v else L b u
section
variable {n m a t:Nat}{L:Nat->Nat->Bool}
theorem K4(h:t<n):(a * n+t) / n=a:=by
 rw[CU,Nat.mul_add_div (by omega),Nat.div_eq_of_lt h,Nat.add_zero]
theorem K5(h:t<n):(a * n+t) % n=t:=by
 rw[CU,Nat.mul_add_mod,EV h]
theorem VY{p:Nat}(h:t<n)(hp:p / n=a/\p % n=t):p=a * n+t:=by
 have:=FW p n;rw[hp.1,hp.2,CU] at this;exact this.symm
theorem GQ{k:Nat}(h:t<n)(ha:a<=k):a * n+t<(k+1) * n:=by
 have h1:a * n<=k * n:=AQ n ha;have h2:(k+1) * n=k * n+n:=FT k n;omega
theorem JS:(lvB n m L).length=m:=by simp[lvB]
theorem Mg:AY (lvB n m L)=true:=Cf.2 λx hx=>by
 obtain⟨i,_,rfl⟩:=As.1 hx;rfl
theorem za1{z:AV}(ht:t<n)(hp:a * n+t<m):(lvB n m L).getD (a * n+t) z=.bool (L a t):=by
 rw[lvB,Ct hp,K4 ht,K5 ht]
theorem z1w{v:Bool}(ht:t<n)(hp:a * n+t<m):(lvB n m L).set (a * n+t) (.bool v)=lvB n m (setP L a t v):=by
 rw[lvB,DK hp,lvB];refine AB λp _=>?_;simp only[setP];by_cases e:p=a * n+t
 ·subst e;rw[Ai rfl,K4 ht,K5 ht,Ai ⟨rfl,rfl⟩]
 ·rw[Ah e,Ah λh=>e (VY ht h)]
theorem z83:List.replicate m (AV.bool false)=lvB n m λ_ _=>false:=by
 refine BF (by simp[lvB]) λi h1 h2=>?_;simp[lvB]
end
structure Liv(d:Desc)(x:List Int)(n:Nat)(ord:List Nat)(at_ j:Nat)(L:Nat->Nat->Bool):Prop where
 start:L 0 d.start.toNat=true
 lead:∀a t,L a t=true->t<n/\a<=x.length/\∃u,Ua d x 0 d.start u a t
 clos:∀a t,(a<at_\/(a=at_/\t∈ord.drop (n-j)))->L a t=true->∀r∈d.rules,r.from_=(t:Nat)->goB x r.guards a=true->L (a+r.eat.toNat) r.to_.toNat=true
structure LivS(d:Desc)(x:List Int)(n:Nat)(ord:List Nat)(at_ j s k:Nat)(L:Nat->Nat->Bool):Prop where
 liv:Liv d x n ord at_ j L
 on:L at_ s=true
 some_:∀i,i<k->goB x (nth d.rules (nth (ruI d.rules s) i)).guards at_=true->L (at_+(nth d.rules (nth (ruI d.rules s) i)).eat.toNat) (nth d.rules (nth (ruI d.rules s) i)).to_.toNat=true
structure LivE(d:Desc)(x:List Int)(n:Nat)(L:Nat->Nat->Bool):Prop where
 start:L 0 d.start.toNat=true
 lead:∀a t,L a t=true->t<n/\a<=x.length/\∃u,Ua d x 0 d.start u a t
 clos:∀a t,L a t=true->∀r∈d.rules,r.from_=(t:Nat)->goB x r.guards a=true->L (a+r.eat.toNat) r.to_.toNat=true
section
variable {d:Desc}{x:List Int}{n:Nat}{ord:List Nat}{at_ j s k:Nat}{L:Nat->Nat->Bool}
theorem EW(ht:Topo d.rules n ord):ord.length=n:=by
 have h1:=It (l:=ord) (m:=List.range n) ht.nodup λa ha=>Bm.2 ((ht.all a).1 ha);have h2:=It (l:=List.range n) (m:=ord) Eo λa ha=>(ht.all a).2 (Bm.1 ha);simp at h1 h2;omega
theorem z84(hs:0<=d.start/\d.start<n)(hol:ord.length=n):Liv d x n ord 0 0 (setP (λ_ _=>false) 0 d.start.toNat true):=by
 refine⟨by simp[setP],λa t h=>?_,λa t h hL=>?_⟩
 ·simp only[setP] at h
  split at h
  ·rename_i e
   obtain⟨rfl,rfl⟩:=e;refine⟨by omega,AI _,[],?_⟩;rw[Bq hs.1];exact .here
  ·cases h
 ·rcases h with h|⟨_,h⟩
  ·omega
  ·rw[Az (by omega)] at h;cases h
theorem z1x(h:Liv d x n ord at_ j L)(ho:L at_ s=true):LivS d x n ord at_ j s 0 L:=⟨h,ho,λi hi=>absurd hi (Ba _)⟩
theorem zeg(h:LivS d x n ord at_ j s k L)(hno:goB x (nth d.rules (nth (ruI d.rules s) k)).guards at_=false):LivS d x n ord at_ j s (k+1) L:=by
 refine⟨h.liv,h.on,λi hi hg=>?_⟩;rcases Am i k with h1|h1
 ·exact h.some_ i h1 hg
 ·obtain rfl:i=k:=by omega
  rw[hno] at hg;cases hg
theorem z85(h:LivS d x n ord at_ j s k L)(hg:Goes d n)(ht:Topo d.rules n ord)(hj:j<n)(hs:s=nth ord (n-1-j))(hk:k<(ruI d.rules s).length)(hgo:goB x (nth d.rules (nth (ruI d.rules s) k)).guards at_=true):
 LivS d x n ord at_ j s (k+1) (setP L (at_+(nth d.rules (nth (ruI d.rules s) k)).eat.toNat) (nth d.rules (nth (ruI d.rules s) k)).to_.toNat true):=by
 obtain⟨i1,i2⟩:=H5.1 (BA hk);have hr:=BA i1;generalize hre:nth d.rules (nth (ruI d.rules s) k)=r at *;obtain⟨hf,htt,he1,he2⟩:=hg.r r hr;have hle:=K3 hgo
 have mono:∀a t,L a t=true->setP L (at_+r.eat.toNat) r.to_.toNat true a t=true:=λa t hl=>by
  simp only[setP];split
  ·rfl
  ·exact hl
 have hol:=EW ht;refine⟨⟨mono _ _ h.liv.start,λa t hl=>?_,λa t hp hl q hq hqf hqg=>mono _ _ ?_⟩,mono _ _ h.on,λi hi hgi=>?_⟩
 ·simp only[setP] at hl
  split at hl
  ·rename_i e
   obtain⟨rfl,rfl⟩:=e;obtain⟨_,_,u,hu⟩:=h.liv.lead _ _ h.on;refine⟨by omega,by omega,u++GK x r.out r.guards at_,?_⟩;have:=hu.step r hr i2 hgo
   rwa [Bq htt.1]
  ·exact h.liv.lead a t hl
 ·refine h.liv.clos a t hp ?_ q hq hqf hqg
  simp only[setP] at hl;split at hl
  ·rename_i e
   exfalso;obtain⟨rfl,rfl⟩:=e;rcases hp with hp|⟨hp,hm⟩
   ·omega
   ·have e0:r.eat.toNat=0:=by omega
    have heps:DT r=true:=by
     cases hh:DT r with
     |true=>rfl
     |false=>have:=he2 hh;omega
    obtain⟨t,t1,t2⟩:=ht.eps (n-1-j) (by omega) r hr heps (by rw[<-hs];exact i2);have e3:r.to_.toNat=t:=by omega
    rw[e3] at hm;have hm2:t∈ord.drop (n-1-j):=BX (i:=1) (by rw[List.drop_drop,show n-1-j+1=n-j by omega];exact hm);have hnd:=ht.nodup;rw[<-DJ (n-1-j) ord,DO] at hnd;exact hnd.2.2 t t2 t hm2 rfl
  ·exact hl
 ·rcases Am i k with h1|h1
  ·exact mono _ _ (h.some_ i h1 hgi)
  ·obtain rfl:i=k:=by omega
   rw[hre];simp[setP]
theorem LG{l:List Nat}{i t:Nat}(hi:i<l.length)(h:t∈l.drop i):t=nth l i\/t∈l.drop (i+1):=by
 rw[drop_at hi,Ag] at h;exact h
theorem z86(h:LivS d x n ord at_ j s (ruI d.rules s).length L)(ht:Topo d.rules n ord)(hj:j<n)(hs:s=nth ord (n-1-j)):Liv d x n ord at_ (j+1) L:=by
 have hol:=EW ht;refine⟨h.liv.start,h.liv.lead,λa t hp hl q hq hqf hqg=>?_⟩;rcases hp with hp|⟨rfl,hm⟩
 ·exact h.liv.clos a t (.inl hp) hl q hq hqf hqg
 ·rw[show n-(j+1)=n-1-j by omega] at hm
  rcases LG (by omega) hm with h1|h1
  ·rw[<-hs] at h1
   subst h1;obtain⟨i,hi,rfl⟩:=B8 hq;have e:nth d.rules i=d.rules[i]:=GF hi;obtain⟨p,hp,hpe⟩:=B8 (H5.2 ⟨hi,by rw[e];exact hqf⟩);have e2:nth (ruI d.rules t) p=i:=by rw[GF hp];exact hpe
   have:=h.some_ p hp (by rw[e2,e];exact hqg)
   rwa [e2,e] at this
  ·exact h.liv.clos a t (.inr ⟨rfl,by rwa [show n-j=n-1-j+1 by omega]⟩) hl q hq hqf hqg
theorem z87(h:Liv d x n ord at_ j L)(ht:Topo d.rules n ord)(hj:j<n)(hs:s=nth ord (n-1-j))(ho:L at_ s=false):Liv d x n ord at_ (j+1) L:=by
 have hol:=EW ht;refine⟨h.start,h.lead,λa t hp hl q hq hqf hqg=>?_⟩;rcases hp with hp|⟨rfl,hm⟩
 ·exact h.clos a t (.inl hp) hl q hq hqf hqg
 ·rw[show n-(j+1)=n-1-j by omega] at hm
  rcases LG (by omega) hm with h1|h1
  ·rw[<-hs] at h1
   subst h1;rw[ho] at hl;cases hl
  ·exact h.clos a t (.inr ⟨rfl,by rwa [show n-j=n-1-j+1 by omega]⟩) hl q hq hqf hqg
theorem zeh(h:Liv d x n ord at_ n L)(ht:Topo d.rules n ord):Liv d x n ord (at_+1) 0 L:=by
 have hol:=EW ht;refine⟨h.start,h.lead,λa t hp hl q hq hqf hqg=>?_⟩;rcases hp with hp|⟨_,hm⟩
 ·rcases Am a at_ with h1|h1
  ·exact h.clos a t (.inl h1) hl q hq hqf hqg
  ·refine h.clos a t (.inr ⟨by omega,?_⟩) hl q hq hqf hqg
   rw[Nat.sub_self,Cr];exact (ht.all t).2 (h.lead a t hl).1
 ·rw[Nat.sub_zero,Az (by omega)] at hm;cases hm
theorem zei(h:Liv d x n ord (x.length+1) 0 L):LivE d x n L :=
 ⟨h.start,h.lead,λa t hl q hq hqf hqg=>h.clos a t (.inl (by have:=(h.lead a t hl).2.1;omega)) hl q hq hqf hqg⟩
structure OW(l:List Rule)(n k:Nat)(dn:Nat->Bool)(ord:List Nat):Prop where
 a1:∀a,a<n->(dn a=true↔a∈ord)
 a2:Ue l ord
 a3:ord.Nodup/\∀a∈ord,a<n
 a4:∀a,a<k->a∈ord
theorem Uf(l:List Rule)(n:Nat):OW l n 0 (λ_=>false) [] :=
 ⟨λa _=>by simp,λi hi=>absurd hi (Ba _),⟨Dn,λa h=>by cases h⟩,λa h=>absurd h (Ba _)⟩
theorem XV{l:List Rule}{dn:Nat->Bool}(h:OW l n k dn ord):OV l n dn ord k :=
 ⟨λa ha=>(h.a1 a (h.a3.2 a ha)).2 ha,λa ha hd=>.inl ((h.a1 a ha).1 hd),h.a2,h.a3⟩
theorem Ug{l:List Rule}{dn dn':Nat->Bool}{new:List Nat}(h:OW l n k dn ord)(hp:Qr l n dn ord k dn' new):OW l n (k+1) dn' (ord++new):=by
 refine⟨λa ha=>?_,hp.q4,hp.q5,λa ha=>?_⟩
 ·rw[hp.q3 a ha,h.a1 a ha,Au]
 ·rcases Am a k with h1|h1
  ·exact Da _ (h.a4 a h1)
  ·obtain rfl:a=k:=by omega
   exact hp.q2
theorem Uh{l:List Rule}{dn:Nat->Bool}(h:OW l n n dn ord):Topo l n ord :=
 ⟨h.a3.1,λs=>⟨h.a3.2 s,h.a4 s⟩,h.a2⟩
end
section
variable {d:Desc}{x:List Int}{n:Nat}{ord:List Nat}{L:Nat->Nat->Bool}
def Past(ord:List Nat)(at_ j a t:Nat):Prop:=at_<a\/(a=at_/\t∈ord.take j)
theorem z88{at_ a t:Nat}(hol:ord.length=n)(ht:t∈ord)(h:Past ord at_ 0 a t):Past ord (at_+1) n a t:=by
 rcases h with h|⟨_,h⟩
 ·rcases Am (at_+1) a with h1|h1
  ·exact .inl h1
  ·exact .inr ⟨by omega,by rw[Ap (by omega)];exact ht⟩
 ·simp at h
theorem Ss{at_ j a t:Nat}(hj:j<ord.length)(h:Past ord at_ (j+1) a t):Past ord at_ j a t\/(a=at_/\t=nth ord j):=by
 rcases h with h|⟨h1,h⟩
 ·exact .inl (.inl h)
 ·rw[take_at hj,Au,Av] at h
  rcases h with h|h
  ·exact .inl (.inr ⟨h1,h⟩)
  ·exact .inr ⟨h1,h⟩
theorem Ui(hg:Goes d n)(ht:Topo d.rules n ord){at_ j:Nat}(hj:j<n){r:Rule}(hr:r∈d.rules)(hf:r.from_=(nth ord j:Nat)):Past ord at_ j (at_+r.eat.toNat) r.to_.toNat:=by
 obtain⟨_,htt,he1,he2⟩:=hg.r r hr;cases he:DT r with
 |true =>
  have e0:=z1p hg hr he;obtain⟨t,t1,t2⟩:=ht.eps j (by rw[EW ht];exact hj) r hr he hf;refine .inr ⟨by omega,?_⟩;rw[show r.to_.toNat=t by omega];exact t2
 |false=>exact .inl (by have:=he2 he;omega)
theorem zej(hg:Goes d n)(ht:Topo d.rules n ord)(ho:(∀r∈d.rules,r.out.length<=64)/\∀f∈d.finals,f.out.length<=64):∀(k at_:Nat),x.length-at_<k->at_<=x.length->∀i,i<=n->∀s∈ord.take i,∀w,RelW d x at_ (s:Nat) w->w.length<=64 * ((x.length-at_) * n+i):=by
 have hl:∀(out:List Term) gs a,(GK x out gs a).length=out.length:=λout gs a=>by simp[GK,Gn]
 have hol:=EW ht;intro k
 induction k with
 |zero=>intro at_ h;omega
 |succ k ih =>
  intro at_ hk ha i
  induction i with
  |zero=>intro _ s hs;simp at hs
  |succ i ihi =>
   intro hi s hs w hw;rw[take_at (by omega),Au,Av] at hs;rcases hs with hs|rfl
   ·have:=ihi (by omega) s hs w hw
    omega
   ·rcases VP.1 hw with⟨f,hf,_,_,rfl⟩|⟨r,hr,hf,hgo,v,hv,rfl⟩
    ·rw[hl]
     have:=ho.2 f hf;have:64 * ((x.length-at_) * n+i+1)≥64:=by omega
     omega
    ·rw[Ao,hl]
     have h64:=ho.1 r hr;obtain⟨_,htt,e1,e2⟩:=hg.r r hr;have hle:=K3 hgo;have hv2:RelW d x (at_+r.eat.toNat) (r.to_.toNat:Nat) v:=by rw[Bq htt.1];exact hv
     have key:v.length<=64 * ((x.length-at_) * n+i):=by
      rcases Ui (at_:=at_) hg ht (by omega:i<n) hr hf with hp|⟨hp,hm⟩
      ·have h1:=ih (at_+r.eat.toNat) (by omega) (by omega) n (Ae _) r.to_.toNat (by rw[Ap (by omega)];exact (ht.all _).2 (by omega)) v hv2
       have h2:(x.length-(at_+r.eat.toNat)) * n+n<=(x.length-at_) * n:=by
        rw[<-FT];exact AQ n (by omega)
       omega
      ·rw[hp] at hv2
       exact ihi (by omega) _ hm v hv2
     omega
theorem Qs(hg:Goes d n)(ht:Topo d.rules n ord)(ho:(∀r∈d.rules,r.out.length<=64)/\∀f∈d.finals,f.out.length<=64)(hn:n<=1024)(hx:x.length<=1024){at_ s:Nat}(ha:at_<=x.length)(hs:s<n){w:List Int}(hw:RelW d x at_ s w):w.length<=100000000:=by
 have h1:=zej hg ht ho (x.length-at_+1) at_ (by omega) ha n (Ae _) s (by rw[Ap (by rw[EW ht];omega)];exact (ht.all s).2 hs) w hw;have h2:(x.length-at_) * n<=1024 * 1024:=C8 (by omega) hn;omega
structure OutI(d:Desc)(x:List Int)(L:Nat->Nat->Bool)(ord:List Nat)(most:Nat)(at_ j:Nat)(S:Nat->Nat->List (List Int))(many:Bool):Prop where
 no:many=false->∀a t,a<=x.length->L a t=true->Past ord at_ j a t->S a t=outW d x a t/\(S a t).length<=most
 yes:many=true->∃a t,L a t=true/\most<(outW d x a t).length
variable {most at_ j:Nat}{S:Nat->Nat->List (List Int)}{many:Bool}
theorem z1y(ho:ord.length=n):OutI d x L ord most x.length 0 (λ_ _=>[]) false:=by
 refine⟨λ_ a t ha _ hp=>?_,λh=>by cases h⟩;rcases hp with h|⟨_,h⟩
 ·omega
 ·simp at h
theorem z1z(h:OutI d x L ord most at_ j S true)(at2 j2:Nat):OutI d x L ord most at2 j2 S true:=⟨λh=>(by cases h),h.yes⟩
theorem z2a(h:OutI d x L ord most at_ j S many)(hj:j<ord.length)(ho:L at_ (nth ord j)=false):OutI d x L ord most at_ (j+1) S many:=by
 refine⟨λhm a t ha hl hp=>?_,h.yes⟩;rcases Ss hj hp with h1|⟨rfl,rfl⟩
 ·exact h.no hm a t ha hl h1
 ·rw[ho] at hl;cases hl
theorem z89(h:OutI d x L ord most (at_+1) n S many)(hl:LivE d x n L)(ht:Topo d.rules n ord):OutI d x L ord most at_ 0 S many:=⟨λhm a t ha hlt hp=>h.no hm a t ha hlt (z88 (EW ht) ((ht.all t).2 (hl.lead a t hlt).1) hp),h.yes⟩
theorem LH(hg:Goes d n)(ht:Topo d.rules n ord){a t:Nat}(ha:a<=x.length)(hs:t<n):I2 d x a t (outW d x a t):=Sl (zif hg ht (x.length-a+1) a (by omega) ha t hs)
theorem zek(h:OutI d x L ord most at_ j S false)(hl:LivE d x n L)(hg:Goes d n)(ht:Topo d.rules n ord)(hj:j<n)(ha:at_<=x.length)(hlv:L at_ (nth ord j)=true):Jv (outL d x (λa t=>S a t.toNat) at_ (nth ord j:Nat))=outW d x at_ (nth ord j:Nat):=by
 refine (zea (VQ λr hr hf hgo=>?_)).symm;obtain⟨_,htt,e1,e2⟩:=hg.r r hr;have hle:=K3 hgo;have h1:=h.no rfl (at_+r.eat.toNat) r.to_.toNat (by omega) (hl.clos _ _ hlv r hr hf hgo) (Ui hg ht hj hr hf);have h2:=LH hg ht (x:=x) (a:=at_+r.eat.toNat) (t:=r.to_.toNat) (by omega) (by omega);rw[<-h1.1,Bq htt.1] at h2;exact h2
theorem z2b(h:OutI d x L ord most at_ j S false)(hl:LivE d x n L)(hg:Goes d n)(ht:Topo d.rules n ord)(hj:j<n)(ha:at_<=x.length)(hlv:L at_ (nth ord j)=true){M:List (List Int)}(hM:M=outW d x at_ (nth ord j:Nat)):OutI d x L ord most at_ (j+1) (setP S at_ (nth ord j) M) (decide (most<M.length)):=by
 refine⟨λhm a t hal hlt hp=>?_,λhm=>?_⟩
 ·simp only[Ck,Nat.not_lt] at hm
  simp only[setP];by_cases e:a=at_/\t=nth ord j
  ·rw[Ai e]
   obtain⟨rfl,rfl⟩:=e;exact⟨hM,hm⟩
  ·rw[Ah e]
   rcases Ss (by rw[EW ht];exact hj) hp with h1|h1
   ·exact h.no rfl a t hal hlt h1
   ·exact absurd h1 e
 ·simp only[Ak] at hm
  exact⟨at_,nth ord j,hlv,by rw[<-hM];exact hm⟩
theorem z8a(h:OutI d x L ord most 0 n S many)(hl:LivE d x n L)(hg:Goes d n)(ht:Topo d.rules n ord)(hs:0<=d.start/\d.start<n):many=decide (most<(outW d x 0 d.start).length)/\(many=false->S 0 d.start.toNat=outW d x 0 d.start):=by
 have hst:((d.start.toNat:Nat):Int)=d.start:=Bq hs.1;have hO:=LH hg ht (x:=x) (a:=0) (t:=d.start.toNat) (AI _) (by omega);rw[hst] at hO;cases many with
 |false =>
  have h1:=h.no rfl 0 d.start.toNat (AI _) hl.start (.inr ⟨rfl,by rw[Ap (by rw[EW ht];omega)];exact (ht.all _).2 (by omega)⟩);rw[hst] at h1;have h2:=h1.2;rw[h1.1] at h2;refine⟨?_,λ_=>h1.1⟩;rw[eq_comm,Ck];omega
 |true =>
  obtain⟨a,t,h1,h2⟩:=h.yes rfl;obtain⟨k1,k2,u,hu⟩:=hl.lead a t h1;have:=VR hu (LH hg ht k2 k1) hO;refine⟨?_,λh=>by cases h⟩;rw[eq_comm,Ak];omega
theorem z8b(hl:LivE d x n L)(hg:Goes d n)(ht:Topo d.rules n ord)(hs:0<=d.start/\d.start<n){a t:Nat}(h:L a t=true):(outW d x a t).length<=(outW d x 0 d.start).length:=by
 have hst:((d.start.toNat:Nat):Int)=d.start:=Bq hs.1;have hO:=LH hg ht (x:=x) (a:=0) (t:=d.start.toNat) (AI _) (by omega);rw[hst] at hO;obtain⟨k1,k2,u,hu⟩:=hl.lead a t h;exact VR hu (LH hg ht k2 k1) hO
end
set_option maxRecDepth 100000
theorem IR(n:Nat):AY (List.replicate n AV.nilS)=true:=Cf.2 λx hx=>by rw[Db hx];rfl
set_option maxRecDepth 100000
def Su(xs:List Nat):List (List AV):=(List.range xs.length).map λ(k:Nat)=>[AV.int .i64 ((xs.length:Int)-1-(k:Int)),e1 (nth xs (xs.length-1-k))]
theorem N4(xs:List Nat):(Su xs).length=xs.length:=by simp[Su]
theorem VZ{xs:List Nat}{k:Nat}(h:k<xs.length):(Su xs)[k]? = some [AV.int .i64 ((xs.length:Int)-1-k),e1 (nth xs (xs.length-1-k))]:=by
 simp[Su,h]
theorem z2c{xs:List Nat}{k:Nat}{row:List AV}(h:(Su xs)[k]? = some row):k<xs.length/\row=[AV.int .i64 ((xs.length:Int)-1-k),e1 (nth xs (xs.length-1-k))]:=by
 have hk:k<xs.length:=by rw[<-N4 xs];exact (Be.1 h).1
 rw[VZ hk] at h;exact⟨hk,(CY h).symm⟩
theorem XW(xs:List Nat):∀r∈Su xs,∀x∈r,Flat x:=λr hr x hx=>by
 obtain⟨k,_,rfl⟩:=As.1 hr;simp only[Ag,Al,Ay] at hx;rcases hx with rfl|rfl<;>exact λS=>rfl
theorem z2d(xs:List Nat):∀r∈Su xs,r.length=2:=λr hr=>by
 obtain⟨k,_,rfl⟩:=As.1 hr;rfl
theorem z2e(xs:List Nat)(hl:xs.length<=1000000000000):Rh Tryz.prog 134 [.cptr (.lst 1 (xs.map e1))] (Su xs):=by
 have pX:AY (xs.map e1)=true:=EJ (λ_=>rfl) _;refine ZL Hi λI hP hr=>?_;show TI I _ E2 _ _ _ _;unfold E2;refine Ht (TI_v hP (by rfl) ?_);(with_reducible repeat'(first|(simp(disch:=omega)only[push_cast,↓zz,seval,pX])|refine Aa ?_ ?_|(first|refine Ac ?_ ?_|refine Ab ?_ ?_)<;>intro hc<;>(try simp only[push_cast] at hc)|omega|intro _));refine (Il (T9 (λ(t:Nat) s env H=>t<=xs.length/\s=some t/\∀p∈[(0,AV.yld I.l),(1,AV.cptr (.lst 1 (xs.map e1))),(3,AV.int .i64 ((xs.length:Int)-1-t))],env p.1=p.2) (λt=>xs.length-t) 0 ?_ ?_):TI I 19 _ _ _ _ _)
 ·refine⟨AI _,rfl,?_⟩
  simp only[Ag,Al,Ay,Ce,CV];refine⟨rfl,rfl,?_⟩;show AV.int .i64 ((xs.length:Int)-1)=AV.int .i64 ((xs.length:Int)-1-((0:Nat):Int));simp
 rintro t s env H ⟨ht,rfl,hlv⟩;refine z08 (live:=[(0,AV.yld I.l),(1,AV.cptr (.lst 1 (xs.map e1))),(3,AV.int .i64 ((xs.length:Int)-1-t))]) (λp hp=>⟨hlv p hp,?_⟩) ?_
 ·simp only[Ag,Al,Ay] at hp
  rcases hp with rfl|rfl|rfl<;>first|rfl|exact pX
 refine Ht (TI_v hP (by rfl) ?_);(with_reducible repeat'(first|(simp(disch:=omega)only[push_cast,↓zz,seval])|refine Aa ?_ ?_|(first|refine Ac ?_ ?_|refine Ab ?_ ?_)<;>intro hc<;>(try simp only[push_cast] at hc)|omega|intro _))
 ·have htl:t<xs.length:=by omega
  have hrow:=VZ htl
  have aX:(xs.map e1).getD (xs.length-1-t) .any=.int .i64 (nth xs (xs.length-1-t):Nat):=by
   have:xs.length-1-t<xs.length:=by omega
   simp[nth,List.getD,this]
  have hcast:((xs.length:Int)-1-t).toNat=xs.length-1-t:=by omega
  have hnx:(xs.length:Int)-1-t-1=(xs.length:Int)-1-((t+1:Nat):Int):=by push_cast;omega
  rw[show e1 (nth xs (xs.length-1-t))=AV.int .i64 ((nth xs (xs.length-1-t):Nat):Int) from rfl] at hrow;generalize nth xs (xs.length-1-t)=z at *;refine (Ht (Il (Ht ?_)):TI I 19 _ _ _ _ _);refine Vz (pre:=[_,_,_,_,_,_]) (post:=[_]) rfl rfl ?_;rw[hP,<-KE];(with_reducible repeat'(first|(simp(disch:=omega)only[push_cast,↓zz,seval,pX,aX,hcast])|refine Aa ?_ ?_|(first|refine Ac ?_ ?_|refine Ab ?_ ?_)<;>intro hc<;>(try simp only[push_cast] at hc)|omega|intro _));refine⟨[AV.int .i64 ((xs.length:Int)-1-t),AV.int .i64 (z:Int)],rfl,?_,by rw[hr];exact hrow,?_,?_⟩
  ·intro x hx
   simp only[Ag,Al,Ay] at hx;rcases hx with rfl|rfl<;>exact λS v hv=>hv
  ·rw[<-KE]
   (with_reducible repeat'(first|(simp(disch:=omega)only[push_cast,↓zz,seval])|refine Aa ?_ ?_|(first|refine Ac ?_ ?_|refine Ab ?_ ?_)<;>intro hc<;>(try simp only[push_cast] at hc)|omega|intro _));refine (TI_v hP ?q1 ?_:TI I 19 _ _ _ _ _)
   case q1=>rfl
   (with_reducible repeat'(first|(simp(disch:=omega)only[push_cast,↓zz,seval])|refine Aa ?_ ?_|(first|refine Ac ?_ ?_|refine Ab ?_ ?_)<;>intro hc<;>(try simp only[push_cast] at hc)|omega|intro _));refine (TI_v hP ?q2 ?_:TI I 19 _ _ _ _ _)
   case q2=>rfl
   (with_reducible repeat'(first|(simp(disch:=omega)only[push_cast,↓zz,seval])|refine Aa ?_ ?_|(first|refine Ac ?_ ?_|refine Ab ?_ ?_)<;>intro hc<;>(try simp only[push_cast] at hc)|omega|intro _));refine⟨t+1,⟨by omega,rfl,rfl,rfl,?_⟩,by omega⟩;show AV.int .i64 ((xs.length:Int)-1-t-1)=AV.int .i64 ((xs.length:Int)-1-((t+1:Nat):Int));rw[hnx]
  ·rw[<-KE]
   (with_reducible repeat'(first|(simp(disch:=omega)only[push_cast,↓zz,seval])|refine Aa ?_ ?_|(first|refine Ac ?_ ?_|refine Ab ?_ ?_)<;>intro hc<;>(try simp only[push_cast] at hc)|omega|intro _));refine (TI_v hP ?q3 ?_:TI I 19 _ _ _ _ _)
   case q3=>rfl
   (with_reducible repeat'(first|(simp(disch:=omega)only[push_cast,↓zz,seval])|refine Aa ?_ ?_|(first|refine Ac ?_ ?_|refine Ab ?_ ?_)<;>intro hc<;>(try simp only[push_cast] at hc)|omega|intro _));exact⟨trivial,.inr rfl⟩
 ·refine⟨trivial,.inl ?_⟩
  rw[N4];congr 1;omega
theorem N5(xs:List Nat)(hl:xs.length<=1000000000000):PC Tryz.prog 102 [.lst 1 (xs.map e1)] (.fn 134 [.cptr (.lst 1 (xs.map e1))]):=by
 have pX:AY (xs.map e1)=true:=EJ (λ_=>rfl) _;refine BH Hx ?_;unfold FR;(with_reducible repeat'(first|(simp(disch:=omega)only[push_cast,↓zz,seval,pX])|refine Aa ?_ ?_|(first|refine Ac ?_ ?_|refine Ab ?_ ?_)<;>intro hc<;>(try simp only[push_cast] at hc)|omega|intro _))
 all_goals trace_state
end Go.Proofs.YtbcjoeadpjfcfaaGreat
