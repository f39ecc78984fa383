/-
  Parts of the proof that the law holds whatever the input; without conditions.
-/
import Derived.Shelf.SlSortCmp.Whole1
import Derived.Shelf.Small.Bits
import Derived.Ground.SlsfProg
import Derived.Ground.NamesProg
import Derived.Test.YtbcjoeadpjfcfaaGreatProg
import Derived.Test.YtbcjoeadpjfcfaaGreatRQ7
import Derived.Test.YtbcjoeadpjfcfaaGreatRQ6
import Derived.Test.YtbcjoeadpjfcfaaGreatRQ4
import Derived.Test.YtbcjoeadpjfcfaaGreatRQ5
set_option linter.unusedSimpArgs false
set_option linter.unusedVariables false
set_option linter.unusedSectionVars false
set_option maxRecDepth 100000
namespace Go.Proofs.YtbcjoeadpjfcfaaGreat
open Abs O1 O2 O3
def ruI(l:List Rule)(s:Nat):List Nat:=(List.range l.length).filter λi=>decide ((nth l i).from_=(s:Int))
theorem G1{l:List Rule}{s i:Nat}:i∈ruI l s↔i<l.length/\(nth l i).from_=s:=by simp[ruI]
theorem Pz(l:List Rule)(s:Nat):(ruI l s).length<=l.length:=by
 have:=Bz (λi=>decide ((nth l i).from_=(s:Int))) (List.range l.length)
 rwa [CG] at this
def Xr(l:List Rule)(a b:Int):Prop:=∃i p,okP l a (i::p)/\endP l a (i::p)=b
theorem zdi{l:List Rule}{i:Nat}(h:i<l.length)(he:Dr (nth l i)=true):Xr l (nth l i).from_ (nth l i).to_ :=
 ⟨i,[],⟨Tq.2 ⟨h,he,rfl⟩,trivial⟩,rfl⟩
theorem z1m{l:List Rule}{a b c:Int}(h:Xr l a b)(k:Xr l b c):Xr l a c:=by
 obtain⟨i,p,h1,h2⟩:=h;obtain⟨j,q,k1,k2⟩:=k;refine⟨i,p++j::q,?_,?_⟩
 ·rw[<-List.cons_append,Tr,h2];exact⟨h1,k1⟩
 ·rw[<-List.cons_append,N8,h2];exact k2
theorem z7t{l:List Rule}{n:Nat}(hl:∀r∈l,(0<=r.from_/\r.from_<n)/\0<=r.to_/\r.to_<n)(hc:¬cycP l n){a:Int}(ha:0<=a):¬Xr l a a:=by
 rintro⟨i,p,h1,h2⟩
 have key:∀k:Nat,∃q,okP l a q/\endP l a q=a/\k<=q.length:=λk=>by
  induction k with
  |zero=>exact⟨[],trivial,rfl,Af _⟩
  |succ k ih =>
   obtain⟨q,q1,q2,q3⟩:=ih;refine⟨q++i::p,?_,?_,by simp;omega⟩
   ·rw[Tr,q2];exact⟨q1,h1⟩
   ·rw[N8,q2];exact h2
 obtain⟨q,q1,_,q3⟩:=key (n+2);have:=z7m hl hc ha q1;omega
def Xs(l:List Rule)(ord:List Nat):Prop:=∀i,i<ord.length->∀r∈l,Dr r=true->r.from_=(nth ord i:Nat)->∃t:Nat,r.to_=t/\t∈ord.take i
theorem V9{l:List Rule}{ord:List Nat}{s:Nat}(h:Xs l ord)(hs:∀r∈l,Dr r=true->r.from_=(s:Int)->∃t:Nat,r.to_=t/\t∈ord):Xs l (ord++[s]):=λi hi r hr he hf=>by
 rw[An,List.length_singleton] at hi;rcases Ah i ord.length with h1|h1
 ·have e:nth (ord++[s]) i=nth ord i:=by simp[nth,List.getD,A8 h1]
  rw[e] at hf;obtain⟨t,t1,t2⟩:=h i h1 r hr he hf;exact⟨t,t1,by rw[CC (by omega)];exact t2⟩
 ·obtain rfl:i=ord.length:=by omega
  have e:nth (ord++[s]) ord.length=s:=by simp[nth,List.getD]
  rw[e] at hf;obtain⟨t,t1,t2⟩:=hs r hr he hf;exact⟨t,t1,by rw[CC (Af _),A3];exact t2⟩
structure Ru(l:List Rule)(n:Nat)(dn:Nat->Bool)(ord:List Nat)(s:Nat):Prop where
 p1:∀a∈ord,dn a=true
 p2:∀a,a<n->dn a=true->a∈ord\/Xr l a s
 p3:Xs l ord
 p4:ord.Nodup/\∀a∈ord,a<n
structure Tt(l:List Rule)(n:Nat)(dn:Nat->Bool)(ord:List Nat)(s:Nat)(dn':Nat->Bool)(new:List Nat):Prop where
 q2:s∈ord++new
 q3:∀a,a<n->(dn' a=true↔dn a=true\/a∈new)
 q4:Xs l (ord++new)
 q5:(ord++new).Nodup/\∀a∈ord++new,a<n
 q6:∀a∈new,dn a=false
def J3(dn:Nat->Bool):Nat->Nat
 |0=>0
 |k+1=>J3 dn k+(if dn k=true then 0 else 1)
theorem VA{dn dn':Nat->Bool}:∀{n:Nat},(∀a,a<n->dn a=true->dn' a=true)->J3 dn' n<=J3 dn n
 |0,_=>Af _
 |n+1,h=>by
  have ih:=VA (n:=n) λa ha=>h a (by omega);simp only[J3];cases h1:dn n with
  |true=>rw[h n (by omega) h1];simp;exact ih
  |false=>simp;split<;>omega
theorem VB{dn dn':Nat->Bool}{s:Nat}(h1:dn s=false)(h2:dn' s=true):∀{n:Nat},s<n->(∀a,a<n->dn a=true->dn' a=true)->J3 dn' n<J3 dn n
 |0,hs,_=>by omega
 |n+1,hs,h=>by
  simp only[J3];by_cases e:s=n
  ·subst e
   have:=VA (n:=s) λa ha=>h a (by omega);simp[h1,h2];omega
  ·have ih:=VB h1 h2 (n:=n) (by omega) λa ha=>h a (by omega)
   cases h3:dn n with
   |true=>rw[h n (by omega) h3];simp;exact ih
   |false=>simp;split<;>omega
structure P0(l:List Rule)(n:Nat)(dn:Nat->Bool)(ord:List Nat)(s:Nat)(dk:Nat->Bool)(new:List Nat)(k:Nat):Prop where
 m3:∀a,a<n->(dk a=true↔dn a=true\/a=s\/a∈new)
 m4:Xs l (ord++new)
 m5:(ord++new).Nodup/\∀a∈ord++new,a<n
 m6:∀a∈new,dn a=false/\a≠s
 m7:∀j,j<k->Dr (nth l (nth (ruI l s) j))=true->∃t:Nat,(nth l (nth (ruI l s) j)).to_=t/\t∈ord++new
theorem zkc{l:List Rule}{n:Nat}{dn:Nat->Bool}{ord:List Nat}{s:Nat}{dk:Nat->Bool}{new:List Nat}{k i:Nat}(hm:P0 l n dn ord s dk new k)(hp:Ru l n dn ord s)(hi:i∈ruI l s)(he:Dr (nth l i)=true)(j:Nat)(hj:(nth l i).to_=j):Ru l n dk (ord++new) j:=by
 obtain⟨i1,i2⟩:=G1.1 hi;have hone:Xr l s j:=by have:=zdi i1 he;rwa [i2,hj] at this
 refine⟨λa ha=>?_,λa ha h=>?_,hm.m4,hm.m5⟩
 ·have han:=hm.m5.2 a ha
  rcases Am.1 ha with h|h
  ·exact (hm.m3 a han).2 (.inl (hp.p1 a h))
  ·exact (hm.m3 a han).2 (.inr (.inr h))
 ·rcases (hm.m3 a ha).1 h with h|rfl|h
  ·rcases hp.p2 a ha h with h|h
   ·exact .inl (BE _ h)
   ·exact .inr (z1m h hone)
  ·exact .inr hone
  ·exact .inl (DC _ h)
theorem zdj{l:List Rule}{n:Nat}{dn:Nat->Bool}{ord:List Nat}{s:Nat}{dk:Nat->Bool}{new:List Nat}{k i:Nat}(hm:P0 l n dn ord s dk new k)(hk:k<(ruI l s).length)(hi:i=nth (ruI l s) k)(he:Dr (nth l i)=false):P0 l n dn ord s dk new (k+1) :=
 ⟨hm.m3,hm.m4,hm.m5,hm.m6,λj hj h=>by
  rcases Ah j k with h1|h1
  ·exact hm.m7 j h1 h
  ·obtain rfl:j=k:=by omega
   rw[<-hi,he] at h;cases h⟩
theorem zdk{l:List Rule}{n:Nat}{dn:Nat->Bool}{ord:List Nat}{s:Nat}{dk:Nat->Bool}{new:List Nat}{k i:Nat}{dn2:Nat->Bool}{new2:List Nat}(hm:P0 l n dn ord s dk new k)(hp:Ru l n dn ord s)(hk:k<(ruI l s).length)(hi:i=nth (ruI l s) k)
 (h:Dr (nth l i)=true/\∃j:Nat,(nth l i).to_=j/\Tt l n dk (ord++new) j dn2 new2):P0 l n dn ord s dn2 (new++new2) (k+1):=by
 obtain⟨he,j,hj,hq⟩:=h;have hsn:s<n->dk s=true:=λhs=>(hm.m3 s hs).2 (.inr (.inl rfl));refine⟨λa ha=>?_,by rw[<-Av];exact hq.q4,by rw[<-Av];exact hq.q5,λa ha=>?_,λm hmk h=>?_⟩
 ·rw[hq.q3 a ha,hm.m3 a ha,Am]
  constructor
  ·rintro ((h|h|h)|h)
   ·exact .inl h
   ·exact .inr (.inl h)
   ·exact .inr (.inr (.inl h))
   ·exact .inr (.inr (.inr h))
  ·rintro (h|h|h|h)
   ·exact .inl (.inl h)
   ·exact .inl (.inr (.inl h))
   ·exact .inl (.inr (.inr h))
   ·exact .inr h
 ·rcases Am.1 ha with h|h
  ·exact hm.m6 a h
  ·have han:a<n:=hq.q5.2 a (DC _ h)
   have h6:=hq.q6 a h;refine⟨?_,λe=>?_⟩
   ·cases hd:dn a with
    |false=>rfl
    |true=>rw[(hm.m3 a han).2 (.inl hd)] at h6;cases h6
   ·subst e;rw[hsn han] at h6;cases h6
 ·rw[<-Av]
  rcases Ah m k with h1|h1
  ·obtain⟨t,t1,t2⟩:=hm.m7 m h1 h
   exact⟨t,t1,BE _ t2⟩
  ·obtain rfl:m=k:=by omega
   rw[<-hi];exact⟨j,hj,hq.q2⟩
theorem zkd{l:List Rule}{n:Nat}{dn:Nat->Bool}{ord:List Nat}{s:Nat}{dk:Nat->Bool}{new:List Nat}(hm:P0 l n dn ord s dk new (ruI l s).length)(hp:Ru l n dn ord s)(hs:s<n)(hsno:s∉ord)(hd:dn s=false):Tt l n dn ord s dk (new++[s]):=by
 have hsnew:s∉new:=λh=>(hm.m6 s h).2 rfl;refine⟨by simp,λa ha=>?_,?_,⟨?_,λa ha=>?_⟩,λa ha=>?_⟩
 ·rw[hm.m3 a ha,Am,Ao]
  constructor
  ·rintro (h|h|h)
   ·exact .inl h
   ·exact .inr (.inr h)
   ·exact .inr (.inl h)
  ·rintro (h|h|h)
   ·exact .inl h
   ·exact .inr (.inr h)
   ·exact .inr (.inl h)
 ·rw[<-Av]
  refine V9 hm.m4 λr hr he hf=>?_;obtain⟨i,hi,rfl⟩:=Bm hr;have e:nth l i=l[i]:=Fq hi;have hmem:i∈ruI l s:=G1.2 ⟨hi,by rw[e];exact hf⟩;obtain⟨j,hj,hje⟩:=Bm hmem;have e2:nth (ruI l s) j=i:=by rw[Fq hj];exact hje
  have:=hm.m7 j hj (by rw[e2,e];exact he);rw[e2,e] at this;exact this
 ·rw[<-Av]
  refine CH.2 ⟨hm.m5.1,BO.2 ⟨by simp,De⟩,λa ha b hb=>?_⟩;rw[Ao.1 hb];rintro rfl;rcases Am.1 ha with h|h
  ·exact hsno h
  ·exact hsnew h
 ·rw[<-Av] at ha
  rcases Am.1 ha with h|h
  ·exact hm.m5.2 a h
  ·rw[Ao.1 h];exact hs
 ·rcases Am.1 ha with h|h
  ·exact (hm.m6 a h).1
  ·rw[Ao.1 h];exact hd
def rnB(d:Desc)(x:List Int)(RU FI od li:AV):AV:=.agg [.int .i64 d.in_,.int .i64 d.out,.int .i64 d.states,.int .i64 d.start,FV d.rules,GE d.finals,A4 x,RU,FI,od,li]
def ruV(l:List Rule)(n:Nat):AV:=.lst 1 (fD 1 e1 n (ruI l))
def srtL(d:Desc)(x:List Int)(n:Nat)(FI:AV)(v:Nat)(dn:Nat->Bool)(ord:List Nat):List Grp :=
 [⟨11,1,true,[rnB d x (ruV d.rules n) FI (.ref 2 v 0 ord.length) .nilS]⟩,⟨1,1,true,spB n dn⟩,gG 1 e1 v ord]
theorem FF(d:Desc)(x:List Int)(n:Nat)(FI:AV)(hFI:FI.pure=true)(v:Nat)(dn:Nat->Bool)(ord:List Nat):∀G∈srtL d x n FI v dn ord,ltL 3 G.xs:=λG hG=>by
 have h1:ltV 3 (FV d.rules):=CE _ _ (BF _);have h2:ltV 3 (GE d.finals):=CE _ _ (B9 _);have h3:ltV 3 (A4 x):=CE _ _ (AE .i32 _);have h4:ltV 3 (ruV d.rules n):=CE _ _ (Er λ_=>rfl);have h5:ltV 3 FI:=CE _ _ hFI;simp only[srtL,Ai,As,AH] at hG;rcases hG with rfl|rfl|rfl
 ·exact⟨⟨trivial,trivial,trivial,trivial,h1,h2,h3,h4,h5,(show 2<3 by omega),trivial,trivial⟩,trivial⟩
 ·exact C0 _ _ (BQ.2 λy hy=>by obtain⟨i,_,rfl⟩:=Ar.1 hy;rfl)
 ·exact C0 _ _ (CU (λ_=>rfl) _)
theorem zdl(d:Desc)(x:List Int){n:Nat}(hn:n<=1024)(hrl:d.rules.length<=4096)(hl:∀r∈d.rules,(0<=r.from_/\r.from_<n)/\0<=r.to_/\r.to_<n)(hc:¬cycP d.rules n)(FI:AV)(hFI:FI.pure=true):
 ∀(u:Nat)(s:Nat)(v:Nat)(dn:Nat->Bool)(ord:List Nat),J3 dn n<=u->s<n->Ru d.rules n dn ord s ->
 BB Tryz.prog 101 [.ptr 0 1 0 0,.int .i64 s,.ref 1 1 0 n] (Abs.hl (srtL d x n FI v dn ord)) λy H'=>∃v' dn' new,y=.tup [] /\
  H'=Abs.hl (srtL d x n FI v' dn' (ord++new))/\Tt d.rules n dn ord s dn' new:=by
 intro u
 induction u using Nat.strongRecOn with
 |ind u ih =>
 intro s v dn ord hu hs hp;have hs0:(0:Int)<=s:=by omega
 have pR:=BF d.rules;have pFi:=B9 d.finals;have pX:A6 (x.map (AV.int .i32))=true:=AE .i32 _;have pRU:A6 (fD 1 e1 n (ruI d.rules))=true:=Er λ_=>rfl;have lB:∀on,(spB n on).length=n:=λon=>by simp[spB]
 have aB:(spB n dn).getD s .any=.bool (dn s):=Cq hs;have pB:∀on,A6 (spB n on)=true:=λon=>BQ.2 λy hy=>by obtain⟨i,_,rfl⟩:=Ar.1 hy;rfl
 refine Hj (KX Mo (W_T ?_));unfold Ie;cases hd:dn s with
 |true =>
  rw[hd] at aB;have hso:s∈ord:=(hp.p2 s hs hd).resolve_right (z7t hl hc hs0);rw[srtL];unfold rnB;(with_reducible repeat'(first|simp (disch:=omega) only[push_cast,↓zz,seval,pR,pFi,pX,hFI,lB,aB,pB]|apply Aa|refine sp_ ?_ ?_<;>intro hc<;>push_cast at hc|omega|intro _))
  all_goals exact⟨_,_,Ent.refl,v,dn,[],rfl,by rw[A5];rfl,⟨by simpa using hso,λa _=>by simp,by rw[A5];exact hp.p3,by rw[A5];exact hp.p4,λa ha=>by cases ha⟩⟩
 |false =>
  rw[hd] at aB;have hset:=zjy (on:=dn) hs;have lRU:(fD 1 e1 n (ruI d.rules)).length=n:=Nl;have aR:(fD 1 e1 n (ruI d.rules)).getD s .any=.lst 1 ((ruI d.rules s).map e1):=V5 hs;have aR2:(fD 1 e1 n (ruI d.rules))[s]? = some (.lst 1 ((ruI d.rules s).map e1)):=Nm hs;have pI:A6 ((ruI d.rules s).map e1)=true:=CU (λ_=>rfl) _;have hIl:=Pz d.rules s;have hsno:s∉ord:=λh=>by have:=hp.p1 s h;rw[hd] at this;cases this
  have hlt:∀dn',(∀a,a<n->dn a=true->dn' a=true)->dn' s=true->J3 dn' n<u:=λdn' h1 h2=>AT (VB hd h2 hs h1) hu;rw[srtL];unfold rnB ruV;generalize hRe:fD 1 e1 n (ruI d.rules)=RU at *;(with_reducible repeat'(first|simp (disch:=omega) only[push_cast,↓zz,seval,pR,pFi,pX,hFI,lB,aB,pB,hset,lRU,aR,aR2,pI]|apply Aa|refine sp_ ?_ ?_<;>intro hc<;>push_cast at hc|omega|intro _))
  refine AQ (K5 (λ(q:Nat × Nat × (Nat->Bool) × List Nat)=>q.1<=(ruI d.rules s).length/\Hold (P0 d.rules n dn ord s q.2.2.1 q.2.2.2 q.1)) (λq=>(ruI d.rules s).length-q.1)
   (λq=>EI [(0,.ptr 0 1 0 0),(1,.int .i64 s),(2,.ref 1 1 0 n),(22,.lst 1 ((ruI d.rules s).map e1)),(23,.int .i64 (ruI d.rules s).length),(24,.int .i64 q.1)])
   (λq=>Abs.hl (srtL d x n FI q.2.1 q.2.2.1 (ord++q.2.2.2))) (0,v,setB dn s,[]) ⟨Aw _,⟨?_⟩⟩ ?_ ?_)
  ·refine⟨λa _=>?_,by rw[A5];exact hp.p3,by rw[A5];exact hp.p4,λa ha=>(by cases ha),λj hj=>absurd hj (AP _)⟩
   simp only[setB];by_cases e:a=s<;>simp[e]
  ·refine G0 (gar:=[]) _ ?_ (by simp[srtL,hl_n]) (FF d x n FI hFI _ _ _) ?_
   ·rw[A5,A5,srtL]
    unfold rnB ruV;rw[hRe]
   ·have hI:ltV 3 (.lst 1 ((ruI d.rules s).map e1)):=CE _ _ pI
    exact⟨rfl,(show 0<3 by omega),rfl,trivial,rfl,(show 1<3 by omega),rfl,hI,rfl,trivial,rfl,trivial,trivial⟩
  rintro⟨k,v1,dk,new⟩ ⟨hk,⟨hm⟩⟩;simp only at hk hm ⊢;have hI:ltV 3 (.lst 1 ((ruI d.rules s).map e1)):=CE _ _ pI;rcases Ah k (ruI d.rules s).length with hkl|hkl
  ·obtain⟨i,hi⟩:∃i,i=nth (ruI d.rules s) k:=⟨_,rfl⟩
   have him:i∈ruI d.rules s:=by rw[hi];exact AL hkl
   obtain⟨i1,i2⟩:=G1.1 him;have aI:((ruI d.rules s).map e1).getD k .any=.int .i64 i:=by rw[hi];simp[nth,List.getD,hkl]
   have hto:=(hl _ (AL i1)).2;have hmid:=λdn2 new2 h=>zdk (dn:=dn) (ord:=ord) (s:=s) (dk:=dk) (new:=new) (dn2:=dn2) (new2:=new2) hm hp hkl hi h;have hskip:=zdj (dn:=dn) (ord:=ord) (s:=s) (dk:=dk) (new:=new) hm hkl hi;have hpre:=λh=>zkc (dn:=dn) (ord:=ord) (s:=s) (dk:=dk) (new:=new) (i:=i) hm hp him h;generalize hre:nth d.rules i=r at *;have hgr:=Bs r.guards;have hot:=BP r.out;obtain⟨j,hj⟩:∃j:Nat,r.to_=j:=⟨r.to_.toNat,by omega⟩;have hjn:j<n:=by omega
   rw[srtL];unfold rnB ruV;rw[hRe];refine W_T ?_;cases he:Dr r with
   |true =>
    have he0:(r.guards.length:Int)=0:=by simpa [Dr] using he
    have hIH:=ih (J3 dk n) (hlt dk (λa ha h=>(hm.m3 a ha).2 (.inl h)) ((hm.m3 s hs).2 (.inr (.inl rfl)))) j v1 dk (ord++new) (Af _) hjn (hpre he j hj);(with_reducible repeat'(first|simp (disch:=omega) only[push_cast,↓zz,seval,pR,pFi,pX,hFI,lB,pB,pI,aI,hre,hgr,hot,hj,i1,he0]|apply Aa|refine sp_ ?_ ?_<;>intro hc<;>push_cast at hc|omega|intro _));refine z7s (l0:=srtL d x n FI v1 dk (ord++new)) (extra:=[_]) (by rw[srtL];unfold rnB ruV;rw[hRe,An];rfl) hIH ?_ (FF d x n FI hFI _ _ _) ?_
    ·exact⟨(show 0<3 by omega),trivial,(show 1<3 by omega),trivial⟩
    rintro y H' ⟨v2,dn2,new2,rfl,rfl,hpost⟩;refine⟨_,rfl,rfl,trivial,FF d x n FI hFI _ _ _,?_⟩;have hM:=hmid dn2 new2 ⟨he,j,hj,hpost⟩;rw[Av];(with_reducible repeat'(first|simp (disch:=omega) only[push_cast,↓zz,seval]|apply Aa|refine sp_ ?_ ?_<;>intro hc<;>push_cast at hc|omega|intro _));refine⟨(k+1,v2,dn2,new++new2),G0 (gar:=[_]) _ rfl (by simp[srtL,hl_n]) (FF d x n FI hFI _ _ _) ?_,⟨by omega,⟨hM⟩⟩,by simp only;omega⟩;exact⟨rfl,(show 0<3 by omega),rfl,trivial,rfl,(show 1<3 by omega),rfl,hI,rfl,trivial,rfl,trivial,trivial⟩
   |false =>
    have he0:¬(r.guards.length:Int)=0:=by simpa [Dr] using he
    (with_reducible repeat'(first|simp (disch:=omega) only[push_cast,↓zz,seval,pR,pFi,pX,hFI,lB,pB,pI,aI,hre,hgr,hot,hj,i1,he0]|apply Aa|refine sp_ ?_ ?_<;>intro hc<;>push_cast at hc|omega|intro _));refine⟨(k+1,v1,dk,new),G0 (gar:=[⟨5,1,true,[.agg [.int .i64 r.from_,.int .i64 j,Cv r.guards,.int .i64 r.eat,FU r.out]]⟩]) _ ?_ (by simp[srtL,hl_n]) (FF d x n FI hFI _ _ _) ?_,⟨by omega,⟨hskip he⟩⟩,by simp only;omega⟩
    ·simp only
     rw[srtL];unfold rnB ruV;rw[hRe,An];rfl
    ·exact⟨rfl,(show 0<3 by omega),rfl,trivial,rfl,(show 1<3 by omega),rfl,hI,rfl,trivial,rfl,trivial,trivial⟩
  ·obtain rfl:k=(ruI d.rules s).length:=by omega
   have hend:=zkd hm hp hs hsno hd
   have hol:(ord++new).length<=n:=by
    have:=IK (l:=ord++new) (m:=List.range n) hm.m5.1 λa ha=>Bf.2 (hm.m5.2 a ha);simpa using this
   have hEx:=zk9 (e:=e1) (ord++new);have pO:A6 ((ord++new).map e1)=true:=CU (λ_=>rfl) _;have eO:(ord++(new++[s])).map e1=(ord++new).map e1++[.int .i64 (s:Int)]:=by simp
   have eL:(ord++(new++[s])).length=(ord++new).length+1:=by simp;omega
   have hfin:∀v1,srtL d x n FI (v1+1) dk (ord++(new++[s]))=[⟨11,1,true,[rnB d x (ruV d.rules n) FI (.ref 2 (v1+1) 0 ((ord++new).length+1)) .nilS]⟩,⟨1,1,true,spB n dk⟩,⟨1,v1+1,false,(ord++new).map e1++[.int .i64 (s:Int)]⟩]:=λv1=>by
    have he:(ord++(new++[s])).isEmpty=false:=by simp
    rw[srtL,gG,eO,eL,he]
   rw[srtL,gG];generalize ord++new=on at *;unfold rnB ruV;rw[hRe];refine W_T ?_;(with_reducible repeat'(first|simp (disch:=omega) only[push_cast,↓zz,seval,pR,pFi,pX,hFI,lB,pB,pI,hEx,pO]|apply Aa|refine sp_ ?_ ?_<;>intro hc<;>push_cast at hc|omega|intro _));refine⟨_,_,NA (l0:=srtL d x n FI (v1+1) dk (ord++(new++[s]))) (gar:=[⟨1,1,true,[.int .i64 (s:Int)]⟩]) ?_ (by simp[srtL,hl_n]) (FF d x n FI hFI _ _ _) trivial,v1+1,dk,new++[s],rfl,rfl,hend⟩;rw[hfin];unfold rnB ruV;rw[hRe];rfl
def lvB(n m:Nat)(L:Nat->Nat->Bool):List AV:=(List.range m).map λp=>AV.bool (L (p / n) (p % n))
def setP{β:Type}(L:Nat->Nat->β)(a t:Nat)(v:β):Nat->Nat->β:=λb u=>if b=a/\u=t then v else L b u
section
variable {n m a t:Nat}{L:Nat->Nat->Bool}
theorem Gc(h:t<n):(a * n+t) / n=a:=by
 rw[CR,Nat.mul_add_div (by omega),Nat.div_eq_of_lt h,Nat.add_zero]
theorem Gd(h:t<n):(a * n+t) % n=t:=by
 rw[CR,Nat.mul_add_mod,EP h]
theorem LP{p:Nat}(h:t<n)(hp:p / n=a/\p % n=t):p=a * n+t:=by
 have:=Ff p n;rw[hp.1,hp.2,CR] at this;exact this.symm
theorem Et{k:Nat}(h:t<n)(ha:a<=k):a * n+t<(k+1) * n:=by
 have h1:a * n<=k * n:=AR n ha;have h2:(k+1) * n=k * n+n:=Gf k n;omega
theorem IL:(lvB n m L).length=m:=by simp[lvB]
theorem HE:A6 (lvB n m L)=true:=BQ.2 λx hx=>by
 obtain⟨i,_,rfl⟩:=Ar.1 hx;rfl
theorem zfx{z:AV}(ht:t<n)(hp:a * n+t<m):(lvB n m L).getD (a * n+t) z=.bool (L a t):=by
 rw[lvB,Cq hp,Gc ht,Gd ht]
theorem z7u{v:Bool}(ht:t<n)(hp:a * n+t<m):(lvB n m L).set (a * n+t) (.bool v)=lvB n m (setP L a t v):=by
 rw[lvB,CJ hp,lvB];refine AD λp _=>?_;simp only[setP];by_cases e:p=a * n+t
 ·subst e;rw[Ae rfl,Gc ht,Gd ht,Ae ⟨rfl,rfl⟩]
 ·rw[Ac e,Ac λh=>e (LP ht h)]
theorem zdm:List.replicate m (AV.bool false)=lvB n m λ_ _=>false:=by
 refine BI (by simp[lvB]) λi h1 h2=>?_;simp[lvB]
end
structure Liv(d:Desc)(x:List Int)(n:Nat)(ord:List Nat)(at_ j:Nat)(L:Nat->Nat->Bool):Prop where
 start:L 0 d.start.toNat=true
 lead:∀a t,L a t=true->t<n/\a<=x.length/\∃u,V4 d x 0 d.start u a t
 clos:∀a t,(a<at_\/(a=at_/\t∈ord.drop (n-j)))->L a t=true->∀r∈d.rules,r.from_=(t:Nat)->goB x r.guards a=true->L (a+r.eat.toNat) r.to_.toNat=true
structure LivS(d:Desc)(x:List Int)(n:Nat)(ord:List Nat)(at_ j s k:Nat)(L:Nat->Nat->Bool):Prop where
 liv:Liv d x n ord at_ j L
 on:L at_ s=true
 some_:∀i,i<k->goB x (nth d.rules (nth (ruI d.rules s) i)).guards at_=true->L (at_+(nth d.rules (nth (ruI d.rules s) i)).eat.toNat) (nth d.rules (nth (ruI d.rules s) i)).to_.toNat=true
structure LivE(d:Desc)(x:List Int)(n:Nat)(L:Nat->Nat->Bool):Prop where
 start:L 0 d.start.toNat=true
 lead:∀a t,L a t=true->t<n/\a<=x.length/\∃u,V4 d x 0 d.start u a t
 clos:∀a t,L a t=true->∀r∈d.rules,r.from_=(t:Nat)->goB x r.guards a=true->L (a+r.eat.toNat) r.to_.toNat=true
section
variable {d:Desc}{x:List Int}{n:Nat}{ord:List Nat}{at_ j s k:Nat}{L:Nat->Nat->Bool}
theorem C5(ht:Topo d.rules n ord):ord.length=n:=by
 have h1:=IK (l:=ord) (m:=List.range n) ht.nodup λa ha=>Bf.2 ((ht.all a).1 ha);have h2:=IK (l:=List.range n) (m:=ord) Dk λa ha=>(ht.all a).2 (Bf.1 ha);simp at h1 h2;omega
theorem zdn(hs:0<=d.start/\d.start<n)(hol:ord.length=n):Liv d x n ord 0 0 (setP (λ_ _=>false) 0 d.start.toNat true):=by
 refine⟨by simp[setP],λa t h=>?_,λa t h hL=>?_⟩
 ·simp only[setP] at h
  split at h
  ·rename_i e
   obtain⟨rfl,rfl⟩:=e;refine⟨by omega,Aw _,[],?_⟩;rw[Bl hs.1];exact .here
  ·cases h
 ·rcases h with h|⟨_,h⟩
  ·omega
  ·rw[Aj (by omega)] at h;cases h
theorem z7v(h:Liv d x n ord at_ j L)(ho:L at_ s=true):LivS d x n ord at_ j s 0 L:=⟨h,ho,λi hi=>absurd hi (AP _)⟩
theorem zke(h:LivS d x n ord at_ j s k L)(hno:goB x (nth d.rules (nth (ruI d.rules s) k)).guards at_=false):LivS d x n ord at_ j s (k+1) L:=by
 refine⟨h.liv,h.on,λi hi hg=>?_⟩;rcases Ah i k with h1|h1
 ·exact h.some_ i h1 hg
 ·obtain rfl:i=k:=by omega
  rw[hno] at hg;cases hg
theorem zdo(h:LivS d x n ord at_ j s k L)(hg:Goes d n)(ht:Topo d.rules n ord)(hj:j<n)(hs:s=nth ord (n-1-j))(hk:k<(ruI d.rules s).length)(hgo:goB x (nth d.rules (nth (ruI d.rules s) k)).guards at_=true):
 LivS d x n ord at_ j s (k+1) (setP L (at_+(nth d.rules (nth (ruI d.rules s) k)).eat.toNat) (nth d.rules (nth (ruI d.rules s) k)).to_.toNat true):=by
 obtain⟨i1,i2⟩:=G1.1 (AL hk);have hr:=AL i1;generalize hre:nth d.rules (nth (ruI d.rules s) k)=r at *;obtain⟨hf,htt,he1,he2⟩:=hg.r r hr;have hle:=FE hgo
 have mono:∀a t,L a t=true->setP L (at_+r.eat.toNat) r.to_.toNat true a t=true:=λa t hl=>by
  simp only[setP];split
  ·rfl
  ·exact hl
 have hol:=C5 ht;refine⟨⟨mono _ _ h.liv.start,λa t hl=>?_,λa t hp hl q hq hqf hqg=>mono _ _ ?_⟩,mono _ _ h.on,λi hi hgi=>?_⟩
 ·simp only[setP] at hl
  split at hl
  ·rename_i e
   obtain⟨rfl,rfl⟩:=e;obtain⟨_,_,u,hu⟩:=h.liv.lead _ _ h.on;refine⟨by omega,by omega,u++CM x r.out r.guards at_,?_⟩;have:=hu.step r hr i2 hgo
   rwa [Bl htt.1]
  ·exact h.liv.lead a t hl
 ·refine h.liv.clos a t hp ?_ q hq hqf hqg
  simp only[setP] at hl;split at hl
  ·rename_i e
   exfalso;obtain⟨rfl,rfl⟩:=e;rcases hp with hp|⟨hp,hm⟩
   ·omega
   ·have e0:r.eat.toNat=0:=by omega
    have heps:Dr r=true:=by
     cases hh:Dr r with
     |true=>rfl
     |false=>have:=he2 hh;omega
    obtain⟨t,t1,t2⟩:=ht.eps (n-1-j) (by omega) r hr heps (by rw[<-hs];exact i2);have e3:r.to_.toNat=t:=by omega
    rw[e3] at hm;have hm2:t∈ord.drop (n-1-j):=BJ (i:=1) (by rw[E5,show n-1-j+1=n-j by omega];exact hm);have hnd:=ht.nodup;rw[<-C6 (n-1-j) ord,CH] at hnd;exact hnd.2.2 t t2 t hm2 rfl
  ·exact hl
 ·rcases Ah i k with h1|h1
  ·exact mono _ _ (h.some_ i h1 hgi)
  ·obtain rfl:i=k:=by omega
   rw[hre];simp[setP]
theorem Nn{l:List Nat}{i t:Nat}(hi:i<l.length)(h:t∈l.drop i):t=nth l i\/t∈l.drop (i+1):=by
 rw[drop_at hi,Ai] at h;exact h
theorem zdp(h:LivS d x n ord at_ j s (ruI d.rules s).length L)(ht:Topo d.rules n ord)(hj:j<n)(hs:s=nth ord (n-1-j)):Liv d x n ord at_ (j+1) L:=by
 have hol:=C5 ht;refine⟨h.liv.start,h.liv.lead,λa t hp hl q hq hqf hqg=>?_⟩;rcases hp with hp|⟨rfl,hm⟩
 ·exact h.liv.clos a t (.inl hp) hl q hq hqf hqg
 ·rw[show n-(j+1)=n-1-j by omega] at hm
  rcases Nn (by omega) hm with h1|h1
  ·rw[<-hs] at h1
   subst h1;obtain⟨i,hi,rfl⟩:=Bm hq;have e:nth d.rules i=d.rules[i]:=Fq hi;obtain⟨p,hp,hpe⟩:=Bm (G1.2 ⟨hi,by rw[e];exact hqf⟩);have e2:nth (ruI d.rules t) p=i:=by rw[Fq hp];exact hpe
   have:=h.some_ p hp (by rw[e2,e];exact hqg)
   rwa [e2,e] at this
  ·exact h.liv.clos a t (.inr ⟨rfl,by rwa [show n-j=n-1-j+1 by omega]⟩) hl q hq hqf hqg
theorem zdq(h:Liv d x n ord at_ j L)(ht:Topo d.rules n ord)(hj:j<n)(hs:s=nth ord (n-1-j))(ho:L at_ s=false):Liv d x n ord at_ (j+1) L:=by
 have hol:=C5 ht;refine⟨h.start,h.lead,λa t hp hl q hq hqf hqg=>?_⟩;rcases hp with hp|⟨rfl,hm⟩
 ·exact h.clos a t (.inl hp) hl q hq hqf hqg
 ·rw[show n-(j+1)=n-1-j by omega] at hm
  rcases Nn (by omega) hm with h1|h1
  ·rw[<-hs] at h1
   subst h1;rw[ho] at hl;cases hl
  ·exact h.clos a t (.inr ⟨rfl,by rwa [show n-j=n-1-j+1 by omega]⟩) hl q hq hqf hqg
theorem zkf(h:Liv d x n ord at_ n L)(ht:Topo d.rules n ord):Liv d x n ord (at_+1) 0 L:=by
 have hol:=C5 ht;refine⟨h.start,h.lead,λa t hp hl q hq hqf hqg=>?_⟩;rcases hp with hp|⟨_,hm⟩
 ·rcases Ah a at_ with h1|h1
  ·exact h.clos a t (.inl h1) hl q hq hqf hqg
  ·refine h.clos a t (.inr ⟨by omega,?_⟩) hl q hq hqf hqg
   rw[Nat.sub_self,Cd];exact (ht.all t).2 (h.lead a t hl).1
 ·rw[Nat.sub_zero,Aj (by omega)] at hm;cases hm
theorem zkg(h:Liv d x n ord (x.length+1) 0 L):LivE d x n L :=
 ⟨h.start,h.lead,λa t hl q hq hqf hqg=>h.clos a t (.inl (by have:=(h.lead a t hl).2.1;omega)) hl q hq hqf hqg⟩
structure Rv(l:List Rule)(n k:Nat)(dn:Nat->Bool)(ord:List Nat):Prop where
 a1:∀a,a<n->(dn a=true↔a∈ord)
 a2:Xs l ord
 a3:ord.Nodup/\∀a∈ord,a<n
 a4:∀a,a<k->a∈ord
theorem Xt(l:List Rule)(n:Nat):Rv l n 0 (λ_=>false) [] :=
 ⟨λa _=>by simp,λi hi=>absurd hi (AP _),⟨De,λa h=>by cases h⟩,λa h=>absurd h (AP _)⟩
theorem z1n{l:List Rule}{dn:Nat->Bool}(h:Rv l n k dn ord):Ru l n dn ord k :=
 ⟨λa ha=>(h.a1 a (h.a3.2 a ha)).2 ha,λa ha hd=>.inl ((h.a1 a ha).1 hd),h.a2,h.a3⟩
theorem Xu{l:List Rule}{dn dn':Nat->Bool}{new:List Nat}(h:Rv l n k dn ord)(hp:Tt l n dn ord k dn' new):Rv l n (k+1) dn' (ord++new):=by
 refine⟨λa ha=>?_,hp.q4,hp.q5,λa ha=>?_⟩
 ·rw[hp.q3 a ha,h.a1 a ha,Am]
 ·rcases Ah a k with h1|h1
  ·exact BE _ (h.a4 a h1)
  ·obtain rfl:a=k:=by omega
   exact hp.q2
theorem Xv{l:List Rule}{dn:Nat->Bool}(h:Rv l n n dn ord):Topo l n ord :=
 ⟨h.a3.1,λs=>⟨h.a3.2 s,h.a4 s⟩,h.a2⟩
end
section
variable {d:Desc}{x:List Int}{n:Nat}{ord:List Nat}{L:Nat->Nat->Bool}
def Past(ord:List Nat)(at_ j a t:Nat):Prop:=at_<a\/(a=at_/\t∈ord.take j)
theorem NB{at_ a t:Nat}(hol:ord.length=n)(ht:t∈ord)(h:Past ord at_ 0 a t):Past ord (at_+1) n a t:=by
 rcases h with h|⟨_,h⟩
 ·rcases Ah (at_+1) a with h1|h1
  ·exact .inl h1
  ·exact .inr ⟨by omega,by rw[Al (by omega)];exact ht⟩
 ·simp at h
theorem GQ{at_ j a t:Nat}(hj:j<ord.length)(h:Past ord at_ (j+1) a t):Past ord at_ j a t\/(a=at_/\t=nth ord j):=by
 rcases h with h|⟨h1,h⟩
 ·exact .inl (.inl h)
 ·rw[take_at hj,Am,Ao] at h
  rcases h with h|h
  ·exact .inl (.inr ⟨h1,h⟩)
  ·exact .inr ⟨h1,h⟩
theorem IM(hg:Goes d n)(ht:Topo d.rules n ord){at_ j:Nat}(hj:j<n){r:Rule}(hr:r∈d.rules)(hf:r.from_=(nth ord j:Nat)):Past ord at_ j (at_+r.eat.toNat) r.to_.toNat:=by
 obtain⟨_,htt,he1,he2⟩:=hg.r r hr;cases he:Dr r with
 |true =>
  have e0:=z7n hg hr he;obtain⟨t,t1,t2⟩:=ht.eps j (by rw[C5 ht];exact hj) r hr he hf;refine .inr ⟨by omega,?_⟩;rw[show r.to_.toNat=t by omega];exact t2
 |false=>exact .inl (by have:=he2 he;omega)
theorem zkh(hg:Goes d n)(ht:Topo d.rules n ord)(ho:(∀r∈d.rules,r.out.length<=64)/\∀f∈d.finals,f.out.length<=64):∀(k at_:Nat),x.length-at_<k->at_<=x.length->∀i,i<=n->∀s∈ord.take i,∀w,RelW d x at_ (s:Nat) w->w.length<=64 * ((x.length-at_) * n+i):=by
 have hl:∀(out:List Term) gs a,(CM x out gs a).length=out.length:=λout gs a=>by simp[CM,C4]
 have hol:=C5 ht;intro k
 induction k with
 |zero=>intro at_ h;omega
 |succ k ih =>
  intro at_ hk ha i
  induction i with
  |zero=>intro _ s hs;simp at hs
  |succ i ihi =>
   intro hi s hs w hw;rw[take_at (by omega),Am,Ao] at hs;rcases hs with hs|rfl
   ·have:=ihi (by omega) s hs w hw
    omega
   ·rcases JV.1 hw with⟨f,hf,_,_,rfl⟩|⟨r,hr,hf,hgo,v,hv,rfl⟩
    ·rw[hl]
     have:=ho.2 f hf;have:64 * ((x.length-at_) * n+i+1)≥64:=by omega
     omega
    ·rw[An,hl]
     have h64:=ho.1 r hr;obtain⟨_,htt,e1,e2⟩:=hg.r r hr;have hle:=FE hgo;have hv2:RelW d x (at_+r.eat.toNat) (r.to_.toNat:Nat) v:=by rw[Bl htt.1];exact hv
     have key:v.length<=64 * ((x.length-at_) * n+i):=by
      rcases IM (at_:=at_) hg ht (by omega:i<n) hr hf with hp|⟨hp,hm⟩
      ·have h1:=ih (at_+r.eat.toNat) (by omega) (by omega) n (Af _) r.to_.toNat (by rw[Al (by omega)];exact (ht.all _).2 (by omega)) v hv2
       have h2:(x.length-(at_+r.eat.toNat)) * n+n<=(x.length-at_) * n:=by
        rw[<-Gf];exact AR n (by omega)
       omega
      ·rw[hp] at hv2
       exact ihi (by omega) _ hm v hv2
     omega
theorem LQ(hg:Goes d n)(ht:Topo d.rules n ord)(ho:(∀r∈d.rules,r.out.length<=64)/\∀f∈d.finals,f.out.length<=64)(hn:n<=1024)(hx:x.length<=1024){at_ s:Nat}(ha:at_<=x.length)(hs:s<n){w:List Int}(hw:RelW d x at_ s w):w.length<=100000000:=by
 have h1:=zkh hg ht ho (x.length-at_+1) at_ (by omega) ha n (Af _) s (by rw[Al (by rw[C5 ht];omega)];exact (ht.all s).2 hs) w hw;have h2:(x.length-at_) * n<=1024 * 1024:=B6 (by omega) hn;omega
structure OutI(d:Desc)(x:List Int)(L:Nat->Nat->Bool)(ord:List Nat)(most:Nat)(at_ j:Nat)(S:Nat->Nat->List (List Int))(many:Bool):Prop where
 no:many=false->∀a t,a<=x.length->L a t=true->Past ord at_ j a t->S a t=outW d x a t/\(S a t).length<=most
 yes:many=true->∃a t,L a t=true/\most<(outW d x a t).length
variable {most at_ j:Nat}{S:Nat->Nat->List (List Int)}{many:Bool}
theorem z7w(ho:ord.length=n):OutI d x L ord most x.length 0 (λ_ _=>[]) false:=by
 refine⟨λ_ a t ha _ hp=>?_,λh=>by cases h⟩;rcases hp with h|⟨_,h⟩
 ·omega
 ·simp at h
theorem z7x(h:OutI d x L ord most at_ j S true)(at2 j2:Nat):OutI d x L ord most at2 j2 S true:=⟨λh=>(by cases h),h.yes⟩
theorem z7y(h:OutI d x L ord most at_ j S many)(hj:j<ord.length)(ho:L at_ (nth ord j)=false):OutI d x L ord most at_ (j+1) S many:=by
 refine⟨λhm a t ha hl hp=>?_,h.yes⟩;rcases GQ hj hp with h1|⟨rfl,rfl⟩
 ·exact h.no hm a t ha hl h1
 ·rw[ho] at hl;cases hl
theorem zdr(h:OutI d x L ord most (at_+1) n S many)(hl:LivE d x n L)(ht:Topo d.rules n ord):OutI d x L ord most at_ 0 S many:=⟨λhm a t ha hlt hp=>h.no hm a t ha hlt (NB (C5 ht) ((ht.all t).2 (hl.lead a t hlt).1) hp),h.yes⟩
theorem Hy(hg:Goes d n)(ht:Topo d.rules n ord){a t:Nat}(ha:a<=x.length)(hs:t<n):Kb d x a t (outW d x a t):=V3 (zoh hg ht (x.length-a+1) a (by omega) ha t hs)
theorem zki(h:OutI d x L ord most at_ j S false)(hl:LivE d x n L)(hg:Goes d n)(ht:Topo d.rules n ord)(hj:j<n)(ha:at_<=x.length)(hlv:L at_ (nth ord j)=true):J1 (outL d x (λa t=>S a t.toNat) at_ (nth ord j:Nat))=outW d x at_ (nth ord j:Nat):=by
 refine (Xp (Ts λr hr hf hgo=>?_)).symm;obtain⟨_,htt,e1,e2⟩:=hg.r r hr;have hle:=FE hgo;have h1:=h.no rfl (at_+r.eat.toNat) r.to_.toNat (by omega) (hl.clos _ _ hlv r hr hf hgo) (IM hg ht hj hr hf);have h2:=Hy hg ht (x:=x) (a:=at_+r.eat.toNat) (t:=r.to_.toNat) (by omega) (by omega);rw[<-h1.1,Bl htt.1] at h2;exact h2
theorem z7z(h:OutI d x L ord most at_ j S false)(hl:LivE d x n L)(hg:Goes d n)(ht:Topo d.rules n ord)(hj:j<n)(ha:at_<=x.length)(hlv:L at_ (nth ord j)=true){M:List (List Int)}(hM:M=outW d x at_ (nth ord j:Nat)):OutI d x L ord most at_ (j+1) (setP S at_ (nth ord j) M) (decide (most<M.length)):=by
 refine⟨λhm a t hal hlt hp=>?_,λhm=>?_⟩
 ·simp only[B3,Nat.not_lt] at hm
  simp only[setP];by_cases e:a=at_/\t=nth ord j
  ·rw[Ae e]
   obtain⟨rfl,rfl⟩:=e;exact⟨hM,hm⟩
  ·rw[Ac e]
   rcases GQ (by rw[C5 ht];exact hj) hp with h1|h1
   ·exact h.no rfl a t hal hlt h1
   ·exact absurd h1 e
 ·simp only[Ad] at hm
  exact⟨at_,nth ord j,hlv,by rw[<-hM];exact hm⟩
theorem zds(h:OutI d x L ord most 0 n S many)(hl:LivE d x n L)(hg:Goes d n)(ht:Topo d.rules n ord)(hs:0<=d.start/\d.start<n):many=decide (most<(outW d x 0 d.start).length)/\(many=false->S 0 d.start.toNat=outW d x 0 d.start):=by
 have hst:((d.start.toNat:Nat):Int)=d.start:=Bl hs.1;have hO:=Hy hg ht (x:=x) (a:=0) (t:=d.start.toNat) (Aw _) (by omega);rw[hst] at hO;cases many with
 |false =>
  have h1:=h.no rfl 0 d.start.toNat (Aw _) hl.start (.inr ⟨rfl,by rw[Al (by rw[C5 ht];omega)];exact (ht.all _).2 (by omega)⟩);rw[hst] at h1;have h2:=h1.2;rw[h1.1] at h2;refine⟨?_,λ_=>h1.1⟩;rw[Gh,B3];omega
 |true =>
  obtain⟨a,t,h1,h2⟩:=h.yes rfl;obtain⟨k1,k2,u,hu⟩:=hl.lead a t h1;have:=Zo hu (Hy hg ht k2 k1) hO;refine⟨?_,λh=>by cases h⟩;rw[Gh,Ad];omega
theorem zdt(hl:LivE d x n L)(hg:Goes d n)(ht:Topo d.rules n ord)(hs:0<=d.start/\d.start<n){a t:Nat}(h:L a t=true):(outW d x a t).length<=(outW d x 0 d.start).length:=by
 have hst:((d.start.toNat:Nat):Int)=d.start:=Bl hs.1;have hO:=Hy hg ht (x:=x) (a:=0) (t:=d.start.toNat) (Aw _) (by omega);rw[hst] at hO;obtain⟨k1,k2,u,hu⟩:=hl.lead a t h;exact Zo hu (Hy hg ht k2 k1) hO
end
set_option maxRecDepth 100000
theorem J4(n:Nat):A6 (List.replicate n AV.nilS)=true:=BQ.2 λx hx=>by rw[CB hx];rfl
set_option maxRecDepth 100000
def VC(xs:List Nat):List (List AV):=(List.range xs.length).map λ(k:Nat)=>[AV.int .i64 ((xs.length:Int)-1-(k:Int)),e1 (nth xs (xs.length-1-k))]
theorem P2(xs:List Nat):(VC xs).length=xs.length:=by simp[VC]
theorem Zs{xs:List Nat}{k:Nat}(h:k<xs.length):(VC xs)[k]? = some [AV.int .i64 ((xs.length:Int)-1-k),e1 (nth xs (xs.length-1-k))]:=by
 simp[VC,h]
theorem z80{xs:List Nat}{k:Nat}{row:List AV}(h:(VC xs)[k]? = some row):k<xs.length/\row=[AV.int .i64 ((xs.length:Int)-1-k),e1 (nth xs (xs.length-1-k))]:=by
 have hk:k<xs.length:=by rw[<-P2 xs];exact (Bi.1 h).1
 rw[Zs hk] at h;exact⟨hk,(CX h).symm⟩
theorem z1o(xs:List Nat):∀r∈VC xs,∀x∈r,Flat x:=λr hr x hx=>by
 obtain⟨k,_,rfl⟩:=Ar.1 hr;simp only[Ai,As,AH] at hx;rcases hx with rfl|rfl<;>exact λS=>rfl
theorem z81(xs:List Nat):∀r∈VC xs,r.length=2:=λr hr=>by
 obtain⟨k,_,rfl⟩:=Ar.1 hr;rfl
theorem z82(xs:List Nat)(hl:xs.length<=1000000000000):Um Tryz.prog 134 [.cptr (.lst 1 (xs.map e1))] (VC xs):=by
 have pX:A6 (xs.map e1)=true:=CU (λ_=>rfl) _;refine z5g Hr λI hP hr=>?_;show TI I _ Eo _ _ _ _;unfold Eo;refine HA (TI_v hP (by rfl) ?_);(with_reducible repeat'(first|simp (disch:=omega) only[push_cast,↓zz,seval,pX]|apply Aa|refine sp_ ?_ ?_<;>intro hc<;>push_cast at hc|omega|intro _));refine (IB (WJ (λ(t:Nat) s env H=>t<=xs.length/\s=some t/\∀p∈[(0,AV.yld I.l),(1,AV.cptr (.lst 1 (xs.map e1))),(3,AV.int .i64 ((xs.length:Int)-1-t))],env p.1=p.2) (λt=>xs.length-t) 0 ?_ ?_):TI I 19 _ _ _ _ _)
 ·refine⟨Aw _,rfl,?_⟩
  simp only[Ai,As,AH,BD,Cy];refine⟨rfl,rfl,?_⟩;show AV.int .i64 ((xs.length:Int)-1)=AV.int .i64 ((xs.length:Int)-1-((0:Nat):Int));simp
 rintro t s env H ⟨ht,rfl,hlv⟩;refine z64 (live:=[(0,AV.yld I.l),(1,AV.cptr (.lst 1 (xs.map e1))),(3,AV.int .i64 ((xs.length:Int)-1-t))]) (λp hp=>⟨hlv p hp,?_⟩) ?_
 ·simp only[Ai,As,AH] at hp
  rcases hp with rfl|rfl|rfl<;>first|rfl|exact pX
 refine HA (TI_v hP (by rfl) ?_);(with_reducible repeat'(first|simp (disch:=omega) only[push_cast,↓zz,seval]|apply Aa|refine sp_ ?_ ?_<;>intro hc<;>push_cast at hc|omega|intro _))
 ·have htl:t<xs.length:=by omega
  have hrow:=Zs htl
  have aX:(xs.map e1).getD (xs.length-1-t) .any=.int .i64 (nth xs (xs.length-1-t):Nat):=by
   have:xs.length-1-t<xs.length:=by omega
   simp[nth,List.getD,this]
  have hcast:((xs.length:Int)-1-t).toNat=xs.length-1-t:=by omega
  have hnx:(xs.length:Int)-1-t-1=(xs.length:Int)-1-((t+1:Nat):Int):=by push_cast;omega
  rw[show e1 (nth xs (xs.length-1-t))=AV.int .i64 ((nth xs (xs.length-1-t):Nat):Int) from rfl] at hrow;generalize nth xs (xs.length-1-t)=z at *;refine (HA (IB (HA ?_)):TI I 19 _ _ _ _ _);refine Y6 (pre:=[_,_,_,_,_,_]) (post:=[_]) rfl rfl ?_;rw[hP,<-Md];(with_reducible repeat'(first|simp (disch:=omega) only[push_cast,↓zz,seval,pX,aX,hcast]|apply Aa|refine sp_ ?_ ?_<;>intro hc<;>push_cast at hc|omega|intro _));refine⟨[AV.int .i64 ((xs.length:Int)-1-t),AV.int .i64 (z:Int)],rfl,?_,by rw[hr];exact hrow,?_,?_⟩
  ·intro x hx
   simp only[Ai,As,AH] at hx;rcases hx with rfl|rfl<;>exact λS v hv=>hv
  ·rw[<-Md]
   (with_reducible repeat'(first|simp (disch:=omega) only[push_cast,↓zz,seval]|apply Aa|refine sp_ ?_ ?_<;>intro hc<;>push_cast at hc|omega|intro _));refine (TI_v hP ?q1 ?_:TI I 19 _ _ _ _ _)
   case q1=>rfl
   (with_reducible repeat'(first|simp (disch:=omega) only[push_cast,↓zz,seval]|apply Aa|refine sp_ ?_ ?_<;>intro hc<;>push_cast at hc|omega|intro _));refine (TI_v hP ?q2 ?_:TI I 19 _ _ _ _ _)
   case q2=>rfl
   (with_reducible repeat'(first|simp (disch:=omega) only[push_cast,↓zz,seval]|apply Aa|refine sp_ ?_ ?_<;>intro hc<;>push_cast at hc|omega|intro _));refine⟨t+1,⟨by omega,rfl,rfl,rfl,?_⟩,by omega⟩;show AV.int .i64 ((xs.length:Int)-1-t-1)=AV.int .i64 ((xs.length:Int)-1-((t+1:Nat):Int));rw[hnx]
  ·rw[<-Md]
   (with_reducible repeat'(first|simp (disch:=omega) only[push_cast,↓zz,seval]|apply Aa|refine sp_ ?_ ?_<;>intro hc<;>push_cast at hc|omega|intro _));refine (TI_v hP ?q3 ?_:TI I 19 _ _ _ _ _)
   case q3=>rfl
   (with_reducible repeat'(first|simp (disch:=omega) only[push_cast,↓zz,seval]|apply Aa|refine sp_ ?_ ?_<;>intro hc<;>push_cast at hc|omega|intro _));exact⟨trivial,.inr rfl⟩
 ·refine⟨trivial,.inl ?_⟩
  rw[P2];congr 1;omega
theorem P3(xs:List Nat)(hl:xs.length<=1000000000000):PC Tryz.prog 102 [.lst 1 (xs.map e1)] (.fn 134 [.cptr (.lst 1 (xs.map e1))]):=by
 have pX:A6 (xs.map e1)=true:=CU (λ_=>rfl) _;refine BA HL ?_;unfold FX;(with_reducible repeat'(first|simp (disch:=omega) only[push_cast,↓zz,seval,pX]|apply Aa|refine sp_ ?_ ?_<;>intro hc<;>push_cast at hc|omega|intro _))
 all_goals trace_state
set_option maxRecDepth 100000
def IN{β:Type}[Inhabited β](fr:β->Int)(l:List β)(k:Nat)(s:Nat):List Nat:=(List.range k).filter λi=>decide (fr (nth l i)=(s:Int))
section
variable {β:Type}[Inhabited β]{fr:β->Int}{l:List β}
theorem P4(k s:Nat):(IN fr l k s).length<=k:=by
 have:=Bz (λi=>decide (fr (nth l i)=(s:Int))) (List.range k);simpa [IN] using this
theorem Rw{k i:Nat}(hi:fr (nth l k)=i):IN fr l (k+1)=setD (IN fr l k) i (IN fr l k i++[k]):=by
 funext s;simp only[IN,D1,Cg,Ci,List.filter_nil,hi,Ad,setD];by_cases e:s=i
 ·subst e;simp
 ·rw[Ac (by omega),Ac e];simp
end
def fiI(l:List FS)(s:Nat):List Nat:=IN (·.from_) l l.length s
theorem zdu(l:List Rule):IN (·.from_) l l.length=ruI l:=rfl
def bgL(d:Desc)(x:List Int)(R F:AV)(n:Nat)(T1 T2:Grp):List Grp:=[⟨1,1,true,[.ptr 1 1 0 0]⟩,⟨11,1,true,[rnB d x R F .nilS .nilS]⟩,T1,T2,⟨6,1,true,[Cu d]⟩]
def bgR(d:Desc)(x:List Int)(n k:Nat)(V:Nat->Nat):List Grp:=bgL d x (.ref 2 1 0 n) (.ref 3 1 0 n) n ⟨1,1,true,fT 5 n V (IN (·.from_) d.rules k)⟩ ⟨1,1,true,List.replicate n .nilS⟩++fF 1 e1 n V (IN (·.from_) d.rules k)
def bgF(d:Desc)(x:List Int)(n k:Nat)(V:Nat->Nat):List Grp:=bgL d x (ruV d.rules n) (.ref 3 1 0 n) n ⟨0,2,false,[]⟩ ⟨1,1,true,fT 5 n V (IN (·.from_) d.finals k)⟩++fF 1 e1 n V (IN (·.from_) d.finals k)
theorem Xw(d:Desc)(x:List Int)(n k:Nat)(V:Nat->Nat):(bgR d x n k V).length=n+5:=by simp[bgR,bgL,Rr]
theorem Xx(d:Desc)(x:List Int)(n k:Nat)(V:Nat->Nat):(bgF d x n k V).length=n+5:=by simp[bgF,bgL,Rr]
theorem I0{d:Desc}{x:List Int}{R F:AV}{n m:Nat}{T1 T2:Grp}(hm:5<=m)(hR:ltV m R)(hF:ltV m F)(h1:ltL m T1.xs)(h2:ltL m T2.xs):∀G∈bgL d x R F n T1 T2,ltL m G.xs:=λG hG=>by
 have q1:ltV m (FV d.rules):=CE _ _ (BF _);have q2:ltV m (GE d.finals):=CE _ _ (B9 _);have q3:ltV m (A4 x):=CE _ _ (AE .i32 _);simp only[bgL,Ai,As,AH] at hG;rcases hG with rfl|rfl|rfl|rfl|rfl
 ·exact⟨(show 1<m by omega),trivial⟩
 ·exact⟨⟨trivial,trivial,trivial,trivial,q1,q2,q3,hR,hF,trivial,trivial,trivial⟩,trivial⟩
 ·exact h1
 ·exact h2
 ·exact C0 _ _ (by simp[A6,Gp])
theorem z1p(d:Desc)(x:List Int)(n k:Nat)(V:Nat->Nat):∀G∈bgR d x n k V,ltL (bgR d x n k V).length G.xs:=λG hG=>by
 rw[Xw];rcases Am.1 hG with hG|hG
 ·have a1:ltV (n+5) (.ref 2 1 0 n):=show 2<n+5 by omega
  have a2:ltV (n+5) (.ref 3 1 0 n):=show 3<n+5 by omega
  exact I0 (by omega) a1 a2 (zfv (by omega)) (C0 _ _ (J4 n)) G hG
 ·exact zfw (λ_=>rfl) G hG
theorem z1q(d:Desc)(x:List Int)(n k:Nat)(V:Nat->Nat):∀G∈bgF d x n k V,ltL (bgF d x n k V).length G.xs:=λG hG=>by
 rw[Xx];rcases Am.1 hG with hG|hG
 ·have a1:ltV (n+5) (ruV d.rules n):=CE _ _ (show A6 _=true from Er λ_=>rfl)
  have a2:ltV (n+5) (.ref 3 1 0 n):=show 3<n+5 by omega
  exact I0 (T1:=⟨0,2,false,[]⟩) (by omega) a1 a2 trivial (zfv (by omega)) G hG
 ·exact zfw (λ_=>rfl) G hG
theorem Zt{d:Desc}{x:List Int}{R F:AV}{n:Nat}{T1 T2:Grp}{Fm:List Grp}(hF:Fm.length=n)(t:Nat)(ht:t=2\/t=3):Fv 0 (fKs t 5 n) (bgL d x R F n T1 T2++Fm)=bgL d x R F n (if t=2 then T1.dead else T1) (if t=3 then T2.dead else T2)++Fm.map Grp.dead:=by
 have m0:(0:Nat)∉fKs t 5 n:=KH (by omega) (by omega);have m1:(1:Nat)∉fKs t 5 n:=KH (by omega) (by omega);have m4:(4:Nat)∉fKs t 5 n:=KH (by omega) (by omega)
 have hK:Fv 5 (fKs t 5 n) Fm=Fm.map Grp.dead:=z7r λj hj=>by
  rw[Cj];exact z7p (by omega)
 rw[V7];have e5:0+(bgL d x R F n T1 T2).length=5:=rfl;rw[e5,hK,bgL,HX,HX,HX,HX,HX,Yb,Ac m0,Ac m1,Ac m4];rcases ht with rfl|rfl
 ·rw[Ae (show (0+1+1:Nat)∈fKs 2 5 n by simp[fKs]),Ac (show (0+1+1+1:Nat)∉fKs 2 5 n from KH (by omega) (by omega))]
  rfl
 ·rw[Ac (show (0+1+1:Nat)∉fKs 3 5 n from KH (by omega) (by omega)),Ae (show (0+1+1+1:Nat)∈fKs 3 5 n by simp[fKs])]
  rfl
theorem z1r{m b:Nat}{env:Env}(d:Desc)(x:List Int)(n:Nat)(V:Nat->Nat):Ent m b env (Abs.hl (bgR d x n d.rules.length V)) env (Abs.hl (bgL d x (ruV d.rules n) (.ref 3 1 0 n) n ⟨0,2,false,[]⟩ ⟨1,1,true,List.replicate n .nilS⟩++(fF 1 e1 n V (ruI d.rules)).map Grp.dead)):=by
 have h1:(Abs.hl (bgR d x n d.rules.length V)).at_ 2=⟨1,1,true,fT 5 n V (ruI d.rules)⟩:=rfl
 have h2:∀i,i<n->(Abs.hl (bgR d x n d.rules.length V)).at_ (i+5)=gG 1 e1 (V i) (ruI d.rules i):=λi hi=>by
  rw[bgR,DL,bgL];simp only[List.cons_append,List.nil_append,Eh];exact zdh hi
 obtain⟨f1,f2⟩:=z7q (w:=1) (e:=e1) (by decide) (λ_=>rfl) h1 h2;refine LO (g:=1) (w:=11) (v:=1) (d:=2) (ex:=true) (xs:=[rnB d x (.ref 2 1 0 n) (.ref 3 1 0 n) .nilS .nilS]) (ys:=[rnB d x (ruV d.rules n) (.ref 3 1 0 n) .nilS .nilS]) (fKs 2 5 n) (by decide) (by rw[Xw];omega) rfl (KH (by decide) (by omega)) ?_ ?_
 ·refine⟨_,[],rfl,.inr ⟨_,_,rfl,rfl,?_⟩,rfl⟩
  refine⟨_,_,rfl,.inl rfl,_,_,rfl,.inl rfl,_,_,rfl,.inl rfl,_,_,rfl,.inl rfl,_,_,rfl,.inl rfl,_,_,rfl,.inl rfl,_,_,rfl,.inl rfl,_,_,rfl,.inr ⟨f1,f2.symm⟩,_,_,rfl,.inl rfl,_,_,rfl,.inl rfl,_,_,rfl,.inl rfl,rfl⟩
 ·rw[bgR,Zt Rr 2 (.inl rfl),zdu]
  rfl
theorem z1s{m b:Nat}{env:Env}(d:Desc)(x:List Int)(n:Nat)(V:Nat->Nat):Ent m b env (Abs.hl (bgF d x n d.finals.length V)) env (Abs.hl (bgL d x (ruV d.rules n) (.lst 1 (fD 1 e1 n (fiI d.finals))) n ⟨0,2,false,[]⟩ ⟨0,2,false,[]⟩++(fF 1 e1 n V (fiI d.finals)).map Grp.dead)):=by
 have h1:(Abs.hl (bgF d x n d.finals.length V)).at_ 3=⟨1,1,true,fT 5 n V (fiI d.finals)⟩:=rfl
 have h2:∀i,i<n->(Abs.hl (bgF d x n d.finals.length V)).at_ (i+5)=gG 1 e1 (V i) (fiI d.finals i):=λi hi=>by
  rw[bgF,DL,bgL];simp only[List.cons_append,List.nil_append,Eh];exact zdh hi
 obtain⟨f1,f2⟩:=z7q (w:=1) (e:=e1) (by decide) (λ_=>rfl) h1 h2;refine LO (g:=1) (w:=11) (v:=1) (d:=2) (ex:=true) (xs:=[rnB d x (ruV d.rules n) (.ref 3 1 0 n) .nilS .nilS]) (ys:=[rnB d x (ruV d.rules n) (.lst 1 (fD 1 e1 n (fiI d.finals))) .nilS .nilS]) (fKs 3 5 n) (by decide) (by rw[Xx];omega) rfl (KH (by decide) (by omega)) ?_ ?_
 ·refine⟨_,[],rfl,.inr ⟨_,_,rfl,rfl,?_⟩,rfl⟩
  refine⟨_,_,rfl,.inl rfl,_,_,rfl,.inl rfl,_,_,rfl,.inl rfl,_,_,rfl,.inl rfl,_,_,rfl,.inl rfl,_,_,rfl,.inl rfl,_,_,rfl,.inl rfl,_,_,rfl,.inl rfl,_,_,rfl,.inr ⟨f1,f2.symm⟩,_,_,rfl,.inl rfl,_,_,rfl,.inl rfl,rfl⟩
 ·rw[bgF,Zt Rr 3 (.inr rfl)]
  rfl
theorem zfy(d:Desc)(x:List Int)(n k:Nat)(V:Nat->Nat):bgR d x n k V=⟨1,1,true,[.ptr 1 1 0 0]⟩::⟨11,1,true,[rnB d x (.ref 2 1 0 n) (.ref 3 1 0 n) .nilS .nilS]⟩::⟨1,1,true,fT 5 n V (IN (·.from_) d.rules k)⟩::⟨1,1,true,List.replicate n .nilS⟩::⟨6,1,true,[Cu d]⟩::fF 1 e1 n V (IN (·.from_) d.rules k):=rfl
theorem zfz(d:Desc)(x:List Int)(n k:Nat)(V:Nat->Nat):bgF d x n k V=⟨1,1,true,[.ptr 1 1 0 0]⟩::⟨11,1,true,[rnB d x (ruV d.rules n) (.ref 3 1 0 n) .nilS .nilS]⟩::⟨0,2,false,[]⟩::⟨1,1,true,fT 5 n V (IN (·.from_) d.finals k)⟩::⟨6,1,true,[Cu d]⟩::fF 1 e1 n V (IN (·.from_) d.finals k):=rfl
def fiV(l:List FS)(n:Nat):AV:=.lst 1 (fD 1 e1 n (fiI l))
theorem zok(n:Nat):List.replicate n (AV.bool false)=spB n λ_=>false:=by
 refine BI (by simp[spB]) λi h1 h2=>?_;simp[spB]
theorem zdv{H:Ax}{g v:Nat}{l:List Nat}(h:H.at_ g=gG 1 e1 v l):Dv 2 (H.only [g]) (.ref g v 0 l.length)/\frzV 2 (H.only [g]) (.ref g v 0 l.length)=.lst 1 (l.map e1):=by
 have hat:(H.only [g]).at_ g=gG 1 e1 v l:=by
  show (if g∈[g] then H.at_ g else (H.at_ g).dead)=_;rw[Ae (by simp),h]
 have htl:(((gG 1 e1 v l).xs.drop 0).take l.length)=l.map e1:=by
  rw[Cd];exact Al (by simp[gG])
 have hp:A6 (l.map e1)=true:=CU (λ_=>rfl) _;constructor
 ·refine⟨by rw[hat];rfl,by rw[hat];exact Nat.one_pos,by rw[hat];simp[gG],?_⟩
  rw[hat,htl];exact (GN _ 1 hp).1
 ·show AV.lst _ _=_
  rw[hat,htl];congr 1;exact (GN _ 1 hp).2
def bgS(d:Desc)(x:List Int)(n v:Nat)(dn:Nat->Bool)(ord:List Nat):List Grp:=srtL d x n (fiV d.finals n) v dn ord++[⟨1,1,true,[.ptr 0 1 0 0]⟩,⟨6,1,true,[Cu d]⟩]
theorem z1t(d:Desc)(x:List Int)(n v:Nat)(dn:Nat->Bool)(ord:List Nat):∀G∈bgS d x n v dn ord,ltL 5 G.xs:=λG hG=>by
 rcases Am.1 hG with hG|hG
 ·have h1:ltV 5 (FV d.rules):=CE _ _ (BF _)
  have h2:ltV 5 (GE d.finals):=CE _ _ (B9 _);have h3:ltV 5 (A4 x):=CE _ _ (AE .i32 _);have h4:ltV 5 (ruV d.rules n):=CE _ _ (Er λ_=>rfl);have h5:ltV 5 (fiV d.finals n):=CE _ _ (Er λ_=>rfl);simp only[srtL,Ai,As,AH] at hG;rcases hG with rfl|rfl|rfl
  ·exact⟨⟨trivial,trivial,trivial,trivial,h1,h2,h3,h4,h5,(show 2<5 by omega),trivial,trivial⟩,trivial⟩
  ·exact C0 _ _ (BQ.2 λy hy=>by obtain⟨i,_,rfl⟩:=Ar.1 hy;rfl)
  ·exact C0 _ _ (CU (λ_=>rfl) _)
 ·simp only[Ai,As,AH] at hG
  rcases hG with rfl|rfl
  ·exact⟨(show 0<5 by omega),trivial⟩
  ·exact C0 _ _ (by simp[A6,Gp])
theorem z1u{m b:Nat}{env:Env}(d:Desc)(x:List Int)(n v:Nat)(dn:Nat->Bool)(ord:List Nat):Ent m b env (Abs.hl (bgS d x n v dn ord)) env (Abs.hl [⟨11,1,true,[rnB d x (ruV d.rules n) (fiV d.finals n) (.lst 1 (ord.map e1)) .nilS]⟩,⟨1,1,true,spB n dn⟩,(gG 1 e1 v ord).dead,⟨1,1,true,[.ptr 0 1 0 0]⟩,⟨6,1,true,[Cu d]⟩]):=by
 have h1:(Abs.hl (bgS d x n v dn ord)).at_ 2=gG 1 e1 v ord:=rfl;obtain⟨f1,f2⟩:=zdv h1;refine LO (g:=0) (w:=11) (v:=1) (d:=2) (ex:=true) (xs:=[rnB d x (ruV d.rules n) (fiV d.finals n) (.ref 2 v 0 ord.length) .nilS]) (ys:=[rnB d x (ruV d.rules n) (fiV d.finals n) (.lst 1 (ord.map e1)) .nilS]) [2] (by decide) (by simp[bgS,srtL]) rfl (by decide) ?_ rfl;refine⟨_,[],rfl,.inr ⟨_,_,rfl,rfl,?_⟩,rfl⟩;exact⟨_,_,rfl,.inl rfl,_,_,rfl,.inl rfl,_,_,rfl,.inl rfl,_,_,rfl,.inl rfl,_,_,rfl,.inl rfl,_,_,rfl,.inl rfl,_,_,rfl,.inl rfl,_,_,rfl,.inl rfl,_,_,rfl,.inl rfl,_,_,rfl,.inr ⟨f1,f2.symm⟩,_,_,rfl,.inl rfl,rfl⟩
theorem zdw{y:AV}{l:List Grp}(d:Nat)(ks:List Nat)(hok:Dv d ((Abs.hl l).only ks) y){z:AV}(hz:frzV d ((Abs.hl l).only ks) y=z)(hp:z.pure=true):Ent 1 0 (λ_=>y) (Abs.hl l) (λ_=>z) (Abs.hl []):=by
 refine (z5d 0 d ks hok).trans ((Vv (H':=Abs.hl ([]++Fv 0 ks l)) ?_ ?_).trans ((Om (Aw _) (λG hG=>by cases hG) λi hi=>?_).trans (z5c trivial λi hi=>?_)))
 ·simp[Abs.hl,Ax.kill,Hp]
 ·intro g hg
  show (Fv 0 ks l).getD g default=if g∈ks then (l.getD g default).dead else l.getD g default
  rw[KY 0 ks l g hg,Ba]
 ·obtain rfl:i=0:=by omega
  show ltV 0 (if (0:Nat)=0 then frzV d ((Abs.hl l).only ks) y else y);rw[Ae rfl,hz];exact CE _ _ hp
 ·obtain rfl:i=0:=by omega
  show leS [] (if (0:Nat)=0 then frzV d ((Abs.hl l).only ks) y else y) z;rw[Ae rfl,hz];exact CS _ _
def bgV(d:Desc)(x:List Int)(n m:Nat)(ord:List Nat)(at_:Nat)(L:Nat->Nat->Bool):List Grp:=[⟨11,1,true,[rnB d x (ruV d.rules n) (fiV d.finals n) (.lst 1 (ord.map e1)) (.ref 3 1 0 m)]⟩,⟨1,1,true,[.ptr 0 1 0 0]⟩,⟨6,1,true,[Cu d]⟩,⟨1,1,true,lvB n m L⟩,⟨1,1,true,[.int .i64 at_]⟩]
theorem z83(d:Desc)(x:List Int){n:Nat}(hdn:d.states=n)(hn:n<=1024)(hrl:d.rules.length<=4096)(hfl:d.finals.length<=4096)(hs:0<=d.start/\d.start<n)(hgo:Goes d n)(hcy:¬cycP d.rules n)(hlf:∀r∈d.finals,0<=r.from_/\r.from_<n)(hxl:x.length<=1024)(h32:∀v∈x,-2147483648<=v/\v<=2147483647)
 (hgb:∀r∈d.rules,(r.guards.length<=1000000/\∀g∈r.guards,g.length<=1000000)/\0<=r.eat/\r.eat<=1000000) :
 BB Tryz.prog 60 [Cu d,A4 x] (Abs.hl []) λy H'=>H'=Abs.hl []/\∃ord L,y=Ct d x (ruV d.rules n) (fiV d.finals n) (.lst 1 (ord.map e1)) (.lst 1 (lvB n ((x.length+1) * n) L))/\Topo d.rules n ord/\LivE d x n L:=by
 have pR:=BF d.rules;have pFi:=B9 d.finals;have pX:A6 (x.map (AV.int .i32))=true:=AE .i32 _;have pN:=J4 n;have hl:∀r∈d.rules,0<=r.from_/\r.from_<n:=λr hr=>(hgo.r r hr).1;have hl2:∀r∈d.rules,(0<=r.from_/\r.from_<n)/\0<=r.to_/\r.to_<n:=λr hr=>⟨(hgo.r r hr).1,(hgo.r r hr).2.1⟩;refine Hj (KX Wv (W_T ?_));unfold Ou;(with_reducible repeat'(first|simp (disch:=omega) only[push_cast,↓zz,seval,pR,pFi,hdn]|apply Aa|refine sp_ ?_ ?_<;>intro hc<;>push_cast at hc|omega|intro _));refine Ws [1,2,3,4] [1,1,11,1] [none,none,none,none,some 1,none,none,some 2,none,some 3,some 4] (by simp) (by decide) ?_;(with_reducible repeat'(first|simp (disch:=omega) only[push_cast,↓zz,seval,yy,Ai,As,AH,Cp,Dl,B4,D5,D4,pR,pFi,pX,hdn]|apply Aa|refine sp_ ?_ ?_<;>intro hc<;>push_cast at hc|omega|intro _))
 refine AQ (Qv (srcs:=[.grp 4,.grp 3,.grp 1,.grp 2,.grp 0]) (live:=[(1,A4 x),(2,.ptr 4 1 0 0),(5,.ptr 0 1 0 0),(29,FV d.rules),(30,.int .i64 d.rules.length),(31,.int .i64 0)])
  (heap:=bgL d x (.ref 2 1 0 n) (.ref 3 1 0 n) n ⟨1,1,true,List.replicate n .nilS⟩ ⟨1,1,true,List.replicate n .nilS⟩) ?_ (U3 (z7o (α:=Nat) (w:=1) (e:=e1) (n:=n) (t:=2) (by decide) (by simp[bgL]) rfl) ?_))
 ·unfold bgL rnB
  (with_reducible repeat'(first|simp (disch:=omega) only[push_cast,↓zz,seval,pR,pFi,pX,hdn,pN]|apply Aa|refine sp_ ?_ ?_<;>intro hc<;>push_cast at hc|omega|intro _))
 refine K5 (λ(q:Nat × (Nat->Nat))=>q.1<=d.rules.length) (λq=>d.rules.length-q.1)
  (λq=>EI [(1,A4 x),(2,.ptr 4 1 0 0),(5,.ptr 0 1 0 0),(29,FV d.rules),(30,.int .i64 d.rules.length),(31,.int .i64 q.1)]) (λq=>Abs.hl (bgR d x n q.1 q.2)) (0,λ_=>1) (by simp) Ent.refl ?_
 rintro⟨k,V⟩ hk;simp only at hk ⊢;rcases Ah k d.rules.length with hkl|hkl
 ·have hr:=hl _ (AL hkl)
  have hsu:=λi=>Rw (fr:=λ(r:Rule)=>r.from_) (l:=d.rules) (k:=k) (i:=i);generalize hre:nth d.rules k=r at *;have hgr:=Bs r.guards;have hot:=BP r.out;obtain⟨i,hi⟩:∃i:Nat,r.from_=i:=⟨r.from_.toNat,by omega⟩;have hin:i<n:=by omega
  obtain⟨D,hD⟩:∃D,D=IN (λ(r:Rule)=>r.from_) d.rules k:=⟨_,rfl⟩;have hFl:(fF 1 e1 n V D).length=n:=Rr;have hTl:(fT 5 n V D).length=n:=zfr;have gI:∀G,(fF 1 e1 n V D++[G]).getD i default=gG 1 e1 (V i) (D i):=λG=>by rw[zfu hFl hin];exact zdh hin
  have gR:∀G,(fF 1 e1 n V D++[G]).getD n default=G:=λG=>by rw[N9 hFl];rfl
  have sR:∀G G',setQ (fF 1 e1 n V D++[G]) n G'=some (fF 1 e1 n V D++[G']):=λG G'=>by rw[V6 _ _ hFl];rfl
  have tI:(fT 5 n V D).getD i .any=.ref (i+5) (V i) 0 (D i).length:=zoi hin;have sI:∀G G',setQ (fF 1 e1 n V D++[G]) i G'=some ((fF 1 e1 n V D).set i G'++[G]):=λG G'=>Xq (by omega);have gR2:∀G G',((fF 1 e1 n V D).set i G'++[G]).getD n default=G:=λG G'=>by rw[N9 (by rw[El];exact hFl)];rfl
  have hSB:∀R G,Dg 5 [i+5] (fF 1 e1 n V D++[R]) ((fF 1 e1 n V D).set i G++[R]):=λR G=>Zq (by omega) (by simp;omega);have hEx:=zk9 (e:=e1) (D i);have hel:(D i).length<=k:=by rw[hD];exact P4 k i
  have eT:(fT 5 n V D).set i (.ref (i+5) (V i+1) 0 ((D i).length+1))=fT 5 n (setV V i (V i+1)) (setD D i (D i++[k])):=by
   have:=zfs (o:=5) (V:=V) (D:=D) (l:=D i++[k]) hin
   rwa [An] at this
  have eF:(fF 1 e1 n V D).set i ⟨1,V i+1,false,(D i).map e1++[.int .i64 k]⟩=fF 1 e1 n (setV V i (V i+1)) (setD D i (D i++[k])):=by
   have:=zft (V:=V) (D:=D) (w:=1) (e:=e1) (l:=D i++[k]) (by simp) hin;rw[Az] at this;exact this
  have hsu:=hsu i hi;rw[<-hD] at hsu;rw[zfy,<-hD];unfold rnB;have hni:¬n=i:=by omega
  simp only[gG] at gI;refine W_T ?_;(with_reducible repeat'(first|simp (disch:=omega) only[push_cast,↓zz,seval,xx,Ai,As,AH,Cp,Dl,B4,D5,D4,pR,pFi,pX,hdn,hre,hi,hgr,hot,hFl,hTl,gI,gR,sR,tI,sI,gR2,hEx,hni]|apply Aa|refine sp_ ?_ ?_<;>intro hc<;>push_cast at hc|refine Jd [i+5] ?_|omega|intro _))
  ·exact hSB _ _
  refine⟨(k+1,setV V i (V i+1)),G0 (gar:=[⟨5,1,true,[.agg [.int .i64 i,.int .i64 r.to_,Cv r.guards,.int .i64 r.eat,FU r.out]]⟩]) _ ?_ (Aw _) (z1p _ _ _ _ _) ?_,by simp only;omega,by simp only;omega⟩
  ·rw[zfy,hsu,<-eT,<-eF]
   unfold rnB;rw[hdn];rfl
  ·have hRv:ltV (n+5) (FV d.rules):=CE _ _ pR
   have hXv:ltV (n+5) (A4 x):=CE _ _ pX;rw[Xw];exact⟨rfl,hXv,rfl,(show 4<n+5 by omega),rfl,(show 0<n+5 by omega),rfl,hRv,rfl,trivial,rfl,trivial,trivial⟩
 obtain rfl:k=d.rules.length:=by omega
 have cl1:∀G∈bgL d x (ruV d.rules n) (.ref 3 1 0 n) n ⟨0,2,false,[]⟩ ⟨1,1,true,List.replicate n .nilS⟩,ltL 5 G.xs:=I0 (by omega) (CE _ _ (show A6 _=true from Er λ_=>rfl)) (show 3<5 by omega) trivial (C0 _ _ pN);refine U3 ((z1r d x n V).trans (G0 (l0:=bgL d x (ruV d.rules n) (.ref 3 1 0 n) n ⟨0,2,false,[]⟩ ⟨1,1,true,List.replicate n .nilS⟩) [(1,A4 x),(2,.ptr 4 1 0 0),(5,.ptr 0 1 0 0),(29,FV d.rules),(30,.int .i64 d.rules.length),(31,.int .i64 d.rules.length)] rfl (Aw _) cl1 ?_)) ?_
 ·have hRv:ltV 5 (FV d.rules):=CE _ _ pR
  have hXv:ltV 5 (A4 x):=CE _ _ pX;exact⟨rfl,hXv,rfl,(show 4<5 by omega),rfl,(show 0<5 by omega),rfl,hRv,rfl,trivial,rfl,trivial,trivial⟩
 clear cl1 V;unfold bgL rnB;refine W_T ?_;(with_reducible repeat'(first|simp (disch:=omega) only[push_cast,↓zz,seval,pR,pFi,pX,hdn]|apply Aa|refine sp_ ?_ ?_<;>intro hc<;>push_cast at hc|omega|intro _));have cl2:∀G∈bgL d x (ruV d.rules n) (.ref 3 1 0 n) n ⟨0,2,false,[]⟩ ⟨1,1,true,List.replicate n .nilS⟩,ltL 5 G.xs:=I0 (by omega) (CE _ _ (show A6 _=true from Er λ_=>rfl)) (show 3<5 by omega) trivial (C0 _ _ pN);refine AQ (U3 ((G0 (l0:=bgL d x (ruV d.rules n) (.ref 3 1 0 n) n ⟨0,2,false,[]⟩ ⟨1,1,true,List.replicate n .nilS⟩) (gar:=[]) [(1,A4 x),(2,.ptr 4 1 0 0),(5,.ptr 0 1 0 0),(56,GE d.finals),(57,.int .i64 d.finals.length),(58,.int .i64 0)] ?_ (Aw _) cl2 ?_).trans (z7o (α:=Nat) (w:=1) (e:=e1) (n:=n) (t:=3) (by decide) (by simp[bgL]) rfl)) ?_)
 ·unfold bgL rnB
  rw[hdn];rfl
 ·have hFv:ltV 5 (GE d.finals):=CE _ _ pFi
  have hXv:ltV 5 (A4 x):=CE _ _ pX;exact⟨rfl,hXv,rfl,(show 4<5 by omega),rfl,(show 0<5 by omega),rfl,hFv,rfl,trivial,rfl,trivial,trivial⟩
 clear cl2
 refine K5 (λ(q:Nat × (Nat->Nat))=>q.1<=d.finals.length) (λq=>d.finals.length-q.1)
  (λq=>EI [(1,A4 x),(2,.ptr 4 1 0 0),(5,.ptr 0 1 0 0),(56,GE d.finals),(57,.int .i64 d.finals.length),(58,.int .i64 q.1)]) (λq=>Abs.hl (bgF d x n q.1 q.2)) (0,λ_=>1) (by simp) Ent.refl ?_
 rintro⟨k,V⟩ hk;simp only at hk ⊢;rcases Ah k d.finals.length with hkl|hkl
 ·have hr:=hlf _ (AL hkl)
  have hsu:=λi=>Rw (fr:=λ(r:FS)=>r.from_) (l:=d.finals) (k:=k) (i:=i);generalize hre:nth d.finals k=r at *;have hgr:=Bs r.guards;have hot:=BP r.out;obtain⟨i,hi⟩:∃i:Nat,r.from_=i:=⟨r.from_.toNat,by omega⟩;have hin:i<n:=by omega
  obtain⟨D,hD⟩:∃D,D=IN (λ(r:FS)=>r.from_) d.finals k:=⟨_,rfl⟩;have hFl:(fF 1 e1 n V D).length=n:=Rr;have hTl:(fT 5 n V D).length=n:=zfr;have gI:∀G,(fF 1 e1 n V D++[G]).getD i default=gG 1 e1 (V i) (D i):=λG=>by rw[zfu hFl hin];exact zdh hin
  have gR:∀G,(fF 1 e1 n V D++[G]).getD n default=G:=λG=>by rw[N9 hFl];rfl
  have sR:∀G G',setQ (fF 1 e1 n V D++[G]) n G'=some (fF 1 e1 n V D++[G']):=λG G'=>by rw[V6 _ _ hFl];rfl
  have tI:(fT 5 n V D).getD i .any=.ref (i+5) (V i) 0 (D i).length:=zoi hin;have sI:∀G G',setQ (fF 1 e1 n V D++[G]) i G'=some ((fF 1 e1 n V D).set i G'++[G]):=λG G'=>Xq (by omega);have gR2:∀G G',((fF 1 e1 n V D).set i G'++[G]).getD n default=G:=λG G'=>by rw[N9 (by rw[El];exact hFl)];rfl
  have hSB:∀R G,Dg 5 [i+5] (fF 1 e1 n V D++[R]) ((fF 1 e1 n V D).set i G++[R]):=λR G=>Zq (by omega) (by simp;omega);have hEx:=zk9 (e:=e1) (D i);have hel:(D i).length<=k:=by rw[hD];exact P4 k i
  have eT:(fT 5 n V D).set i (.ref (i+5) (V i+1) 0 ((D i).length+1))=fT 5 n (setV V i (V i+1)) (setD D i (D i++[k])):=by
   have:=zfs (o:=5) (V:=V) (D:=D) (l:=D i++[k]) hin
   rwa [An] at this
  have eF:(fF 1 e1 n V D).set i ⟨1,V i+1,false,(D i).map e1++[.int .i64 k]⟩=fF 1 e1 n (setV V i (V i+1)) (setD D i (D i++[k])):=by
   have:=zft (V:=V) (D:=D) (w:=1) (e:=e1) (l:=D i++[k]) (by simp) hin;rw[Az] at this;exact this
  have hsu:=hsu i hi;rw[<-hD] at hsu;rw[zfz,<-hD];unfold rnB;have hni:¬n=i:=by omega
  simp only[gG] at gI;refine W_T ?_;(with_reducible repeat'(first|simp (disch:=omega) only[push_cast,↓zz,seval,xx,Ai,As,AH,Cp,Dl,B4,D5,D4,pR,pFi,pX,hdn,hre,hi,hgr,hot,hFl,hTl,gI,gR,sR,tI,sI,gR2,hEx,hni]|apply Aa|refine sp_ ?_ ?_<;>intro hc<;>push_cast at hc|refine Jd [i+5] ?_|omega|intro _))
  ·exact hSB _ _
  refine⟨(k+1,setV V i (V i+1)),G0 (gar:=[⟨3,1,true,[.agg [.int .i64 i,Cv r.guards,FU r.out]]⟩]) _ ?_ (Aw _) (z1q _ _ _ _ _) ?_,by simp only;omega,by simp only;omega⟩
  ·rw[zfz,hsu,<-eT,<-eF]
   unfold rnB;rw[hdn];rfl
  ·have hFv:ltV (n+5) (GE d.finals):=CE _ _ pFi
   have hXv:ltV (n+5) (A4 x):=CE _ _ pX;rw[Xx];exact⟨rfl,hXv,rfl,(show 4<n+5 by omega),rfl,(show 0<n+5 by omega),rfl,hFv,rfl,trivial,rfl,trivial,trivial⟩
 obtain rfl:k=d.finals.length:=by omega
 have cl1:∀G∈bgL d x (ruV d.rules n) (fiV d.finals n) n ⟨0,2,false,[]⟩ ⟨0,2,false,[]⟩,ltL 5 G.xs:=I0 (by omega) (CE _ _ (show A6 _=true from Er λ_=>rfl)) (CE _ _ (show A6 _=true from Er λ_=>rfl)) trivial trivial;refine U3 ((z1s d x n V).trans (G0 (l0:=bgL d x (ruV d.rules n) (fiV d.finals n) n ⟨0,2,false,[]⟩ ⟨0,2,false,[]⟩) [(1,A4 x),(2,.ptr 4 1 0 0),(5,.ptr 0 1 0 0),(56,GE d.finals),(57,.int .i64 d.finals.length),(58,.int .i64 d.finals.length)] rfl (Aw _) cl1 ?_)) ?_
 ·have hFv:ltV 5 (GE d.finals):=CE _ _ pFi
  have hXv:ltV 5 (A4 x):=CE _ _ pX;exact⟨rfl,hXv,rfl,(show 4<5 by omega),rfl,(show 0<5 by omega),rfl,hFv,rfl,trivial,rfl,trivial,trivial⟩
 clear cl1 V;unfold bgL rnB;have pB:∀on,A6 (spB n on)=true:=λon=>BQ.2 λy hy=>by obtain⟨i,_,rfl⟩:=Ar.1 hy;rfl
 have pRU:A6 (fD 1 e1 n (ruI d.rules))=true:=Er λ_=>rfl;have pFI:A6 (fD 1 e1 n (fiI d.finals))=true:=Er λ_=>rfl;have pFIv:(fiV d.finals n).pure=true:=pFI;refine W_T ?_;(with_reducible repeat'(first|simp (disch:=omega) only[push_cast,↓zz,seval,pR,pFi,pX,hdn]|apply Aa|refine sp_ ?_ ?_<;>intro hc<;>push_cast at hc|omega|intro _))
 refine AQ (Qv (srcs:=[.grp 1,.grp 5,.virt 1,.grp 0,.grp 4]) (live:=[(1,A4 x),(2,.ptr 4 1 0 0),(5,.ptr 3 1 0 0),(10,.ref 1 1 0 n),(86,.int .i64 n),(87,.int .i64 0)])
  (heap:=bgS d x n 1 (λ_=>false) []) ?_ ?_)
 ·unfold bgS srtL rnB ruV fiV gG
  (with_reducible repeat'(first|simp (disch:=omega) only[push_cast,↓zz,seval,pR,pFi,pX,hdn,pB,zok,pRU,pFI,List.length_nil,Bt]|apply Aa|refine sp_ ?_ ?_<;>intro hc<;>push_cast at hc|omega|intro _))
 refine K5 (λ(q:Nat × Nat × (Nat->Bool) × List Nat)=>q.1<=n/\Hold (Rv d.rules n q.1 q.2.2.1 q.2.2.2)) (λq=>n-q.1)
  (λq=>EI [(1,A4 x),(2,.ptr 4 1 0 0),(5,.ptr 3 1 0 0),(10,.ref 1 1 0 n),(86,.int .i64 n),(87,.int .i64 q.1)]) (λq=>Abs.hl (bgS d x n q.2.1 q.2.2.1 q.2.2.2)) (0,1,(λ_=>false),[]) ⟨Aw _,⟨Xt _ _⟩⟩ Ent.refl ?_
 rintro⟨k,v,dn,ord⟩ ⟨hk,⟨hA⟩⟩;simp only at hk hA ⊢;have hXv:ltV 5 (A4 x):=CE _ _ pX;rcases Ah k n with hkn|hkn
 ·have hS:=zdl d x hn hrl hl2 hcy (fiV d.finals n) pFIv (J3 dn n) k v dn ord (Af _) hkn (z1n hA)
  rw[bgS,srtL];refine W_T ?_;(with_reducible repeat'(first|simp (disch:=omega) only[push_cast,↓zz,seval]|apply Aa|refine sp_ ?_ ?_<;>intro hc<;>push_cast at hc|omega|intro _));refine z7s (l0:=srtL d x n (fiV d.finals n) v dn ord) (extra:=[⟨1,1,true,[.ptr 0 1 0 0]⟩,⟨6,1,true,[Cu d]⟩]) rfl hS ?_ (FF d x n _ pFIv _ _ _) ?_
  ·exact⟨(show 0<3 by omega),trivial,(show 1<3 by omega),trivial⟩
  rintro y H' ⟨v2,dn2,new,rfl,rfl,hpost⟩;refine⟨_,rfl,rfl,trivial,FF d x n _ pFIv _ _ _,?_⟩;have hA2:=Xu hA hpost;(with_reducible repeat'(first|simp (disch:=omega) only[push_cast,↓zz,seval]|apply Aa|refine sp_ ?_ ?_<;>intro hc<;>push_cast at hc|omega|intro _));refine⟨(k+1,v2,dn2,ord++new),G0 (gar:=[]) _ (A5 _).symm (Aw _) (z1t d x n _ _ _) ?_,⟨by omega,⟨hA2⟩⟩,by simp only;omega⟩;exact⟨rfl,hXv,rfl,(show 4<5 by omega),rfl,(show 3<5 by omega),rfl,(show 1<5 by omega),rfl,trivial,rfl,trivial,trivial⟩
 obtain rfl:k=n:=by omega
 have hT:=Xv hA
 refine U3 (z1u d x k v dn ord) (Qv (srcs:=[.grp 0,.grp 3,.grp 4]) (live:=[(1,A4 x),(2,.ptr 2 1 0 0),(5,.ptr 1 1 0 0),(86,.int .i64 k),(87,.int .i64 k)])
  (heap:=[⟨11,1,true,[rnB d x (ruV d.rules k) (fiV d.finals k) (.lst 1 (ord.map e1)) .nilS]⟩,⟨1,1,true,[.ptr 0 1 0 0]⟩,⟨6,1,true,[Cu d]⟩]) ?_ ?_)
 ·have pO:A6 (ord.map e1)=true:=CU (λ_=>rfl) _
  unfold rnB ruV fiV;(with_reducible repeat'(first|simp (disch:=omega) only[push_cast,↓zz,seval,pR,pFi,pX,hdn,pRU,pFI,pO]|apply Aa|refine sp_ ?_ ?_<;>intro hc<;>push_cast at hc|omega|intro _))
 have pO:A6 (ord.map e1)=true:=CU (λ_=>rfl) _;have hmx:(x.length+1) * k<=1025 * 1024:=B6 (by omega) hn;obtain⟨m,hm⟩:∃m,m=(x.length+1) * k:=⟨_,rfl⟩;have hmi:((x.length:Int)+1) * (k:Int)=(m:Int):=by rw[hm];norm_cast
 rw[<-hm] at hmx;obtain⟨s0,hs0⟩:∃s0:Nat,d.start=s0:=⟨d.start.toNat,by omega⟩
 have hsm:s0<m:=by
  have:=Et (a:=0) (k:=x.length) (t:=s0) (n:=k) (by omega) (Aw _);rw[hm];omega
 have hst:(List.replicate m (AV.bool false)).set s0 (.bool true)=lvB k m (setP (λ_ _=>false) 0 s0 true):=by
  have:=z7u (n:=k) (m:=m) (a:=0) (t:=s0) (L:=λ_ _=>false) (v:=true) (by omega) (by omega);rw[Dp,Ba,<-zdm] at this;exact this
 have pLv:∀L,A6 (lvB k m L)=true:=λL=>HE;unfold rnB;refine W_T ?_;(with_reducible repeat'(first|simp (disch:=omega) only[push_cast,↓zz,seval,pR,pFi,pX,hdn,hmi,hs0,hst,pLv,List.length_replicate]|apply Aa|refine sp_ ?_ ?_<;>intro hc<;>push_cast at hc|omega|intro _));have hstn:d.start.toNat=s0:=by omega
 refine AQ (AX (λ(q:Nat × (Nat->Nat->Bool))=>q.1<=x.length+1/\Hold (Liv d x k ord q.1 0 q.2)) (λq=>x.length+1-q.1)
  (λq=>[(1,A4 x),(2,.ptr 2 1 0 0),(5,.ptr 1 1 0 0),(12,.ptr 4 1 0 0)]) (λq=>bgV d x k m ord q.1 q.2) (λenv _=>[.grp 0,.grp 1,.grp 2,.grp 3,Cf 1 (env 12)]) (0,setP (λ_ _=>false) 0 d.start.toNat true) ⟨Aw _,⟨zdn hs (C5 hT)⟩⟩ ?_ ?_)
 ·unfold bgV rnB ruV fiV
  (with_reducible repeat'(first|simp (disch:=omega) only[push_cast,↓zz,seval,pR,pFi,pX,hdn,hs0,hstn,pLv,pRU,pFI,pO,Int.toNat_natCast]|apply Aa|refine sp_ ?_ ?_<;>intro hc<;>push_cast at hc|omega|intro _))
 rintro⟨at_,L⟩ ⟨ha,⟨hI⟩⟩;simp only at ha hI ⊢;have hol:=C5 hT;rcases Ah at_ (x.length+1) with hal|hal
 ·have hB:=P3 ord (by omega)
  have hit:=z82 ord (by omega);unfold bgV rnB ruV fiV;refine W_T ?_;(with_reducible repeat'(first|simp (disch:=omega) only[push_cast,↓zz,seval,pR,pFi,pX,hdn,pLv,pRU,pFI,pO]|apply Aa|refine sp_ ?_ ?_<;>intro hc<;>push_cast at hc|refine ee hB ?_|(refine cc hB ?_;(simp(disch:=omega)only[push_cast,↓zz,seval,pR,pFi,pX,hdn,pLv,pRU,pFI,pO]);(fail_if_success change False))|omega|intro _))
  refine RV (Yg (σ:=Nat->Nat->Bool) (λj L=>Hold (Liv d x k ord at_ j L)) [(1,A4 x),(2,.ptr 2 1 0 0),(5,.ptr 1 1 0 0),(12,.ptr 4 1 0 0),(122,.fn 134 [.cptr (.lst 1 (ord.map e1))])] (λL=>bgV d x k m ord at_ L)
   [.grp 0,.grp 1,.grp 2,.grp 3,.grp 4] 5 L hit ?_ (λ_=>rfl) rfl ?_ rfl rfl (z1o _) (z81 _) (by simp) ⟨hI⟩ ?_ ?_)
  ·unfold bgV rnB ruV fiV
   (with_reducible repeat'(first|simp (disch:=omega) only[push_cast,↓zz,seval,pR,pFi,pX,hdn,pLv,pRU,pFI,pO]|apply Aa|refine sp_ ?_ ?_<;>intro hc<;>push_cast at hc|omega|intro _))
  ·(with_reducible repeat'(first|simp (disch:=omega) only[push_cast,↓zz,seval,pO]|apply Aa|refine sp_ ?_ ?_<;>intro hc<;>push_cast at hc|omega|intro _))
  ·rintro j row L hrow ⟨hI⟩
   obtain⟨hj,rfl⟩:=z80 hrow;clear hrow hit;have hjk:j<k:=by omega
   obtain⟨s,hse⟩:∃s,s=nth ord (k-1-j):=⟨_,rfl⟩;have hsn:s<k:=(hT.all _).1 (by rw[hse];exact AL (by omega));rw[hol,<-hse,show e1 s=AV.int .i64 ((s:Nat):Int) from rfl];have hat:at_<=x.length:=by omega
   have hpm:=Et hsn hat;rw[<-hm] at hpm;have aL:∀L,(lvB k m L).getD (at_ * k+s) .any=.bool (L at_ s):=λL=>zfx hsn hpm;have lL:∀L,(lvB k m L).length=m:=λL=>IL;have hmul:(at_:Int) * (k:Int)=((at_ * k:Nat):Int):=by norm_cast
   have hmulb:at_ * k<=1024 * 1024:=B6 (by omega) hn
   have hset:∀L e t,at_+e<=x.length->t<k->(lvB k m L).set ((at_+e) * k+t) (.bool true)=lvB k m (setP L (at_+e) t true)/\(at_+e) * k+t<m:=λL e t he htk=>by
    have:=Et htk he;rw[<-hm] at this;exact⟨z7u htk this,this⟩
   generalize hpe:at_ * k+s=p at *;generalize at_ * k=an at *;have hpi:(an:Int)+(s:Int)=(p:Int):=by omega
   have aLv:=aL L;have aR:(fD 1 e1 k (ruI d.rules)).getD s .any=.lst 1 ((ruI d.rules s).map e1):=V5 hsn;have aR2:(fD 1 e1 k (ruI d.rules))[s]? = some (.lst 1 ((ruI d.rules s).map e1)):=Nm hsn;have lRU:(fD 1 e1 k (ruI d.rules)).length=k:=Nl;have pRI:A6 ((ruI d.rules s).map e1)=true:=CU (λ_=>rfl) _;refine W_T ?_;(with_reducible repeat'(first|simp (disch:=omega) only[push_cast,↓zz,seval]|apply Aa|refine sp_ ?_ ?_<;>intro hc<;>push_cast at hc|omega|intro _));unfold bgV rnB ruV fiV;refine W_T ?_;cases hLs:L at_ s with
   |false =>
    rw[hLs] at aLv;(with_reducible repeat'(first|simp (disch:=omega) only[push_cast,↓zz,seval,pR,pFi,pX,hdn,pLv,lL,pRU,pFI,pO,hmul,hpi,aLv,aR,aR2,lRU,pRI]|apply Aa|refine sp_ ?_ ?_<;>intro hc<;>push_cast at hc|omega|intro _));exact⟨L,Bc _ _,⟨zdq hI hT hjk hse hLs⟩⟩
   |true =>
    rw[hLs] at aLv;(with_reducible repeat'(first|simp (disch:=omega) only[push_cast,↓zz,seval,pR,pFi,pX,hdn,pLv,lL,pRU,pFI,pO,hmul,hpi,aLv,aR,aR2,lRU,pRI]|apply Aa|refine sp_ ?_ ?_<;>intro hc<;>push_cast at hc|omega|intro _))
    refine AQ (AX (λ(q:Nat × (Nat->Nat->Bool))=>q.1<=(ruI d.rules s).length/\Hold (LivS d x k ord at_ j s q.1 q.2)) (λq=>(ruI d.rules s).length-q.1)
     (λq=>[(1,A4 x),(2,.ptr 2 1 0 0),(5,.ptr 1 1 0 0),(12,.ptr 4 1 0 0),(144,.lst 1 ((ruI d.rules s).map e1)),(145,.int .i64 (ruI d.rules s).length),(146,.int .i64 q.1)]) (λq=>bgV d x k m ord at_ q.2) (λ_ _=>[]) (0,L) ⟨Aw _,⟨z7v hI hLs⟩⟩ ?_ ?_)
    ·unfold bgV rnB ruV fiV
     (with_reducible repeat'(first|simp (disch:=omega) only[push_cast,↓zz,seval,pR,pFi,pX,hdn,pLv,pRU,pFI,pO,pRI]|apply Aa|refine sp_ ?_ ?_<;>intro hc<;>push_cast at hc|omega|intro _))
    rintro⟨i0,L2⟩ ⟨hi0,⟨hI2⟩⟩;simp only at hi0 hI2 ⊢;unfold bgV rnB ruV fiV;have hIl:=Pz d.rules s;rcases Ah i0 (ruI d.rules s).length with hil|hil
    ·obtain⟨i,hi⟩:∃i,i=nth (ruI d.rules s) i0:=⟨_,rfl⟩
     have him:i∈ruI d.rules s:=by rw[hi];exact AL hil
     obtain⟨i1,i2⟩:=G1.1 him;have aI:((ruI d.rules s).map e1).getD i0 .any=.int .i64 i:=by rw[hi];simp[nth,List.getD,hil]
     have hr:=AL i1;obtain⟨hg1,hg2⟩:=hgb _ hr;obtain⟨_,htt,_,_⟩:=hgo.r _ hr;have hF:=LN d x (.lst 1 (fD 1 e1 k (ruI d.rules))) (.lst 1 (fD 1 e1 k (fiI d.finals))) (.lst 1 (ord.map e1)) (.lst 1 (lvB k m L2)) (nth d.rules i).guards at_ pRU pFI pO (pLv L2) (by omega) h32 hg1.2 hg1.1 (by omega);simp only[Ct,hdn] at hF;have hyes:=λhg=>zdo hI2 hgo hT hjk hse hil hg;have hno:=λhg=>zke hI2 (k:=i0) hg;rw[<-hi] at hyes hno;have tL:List.take m (lvB k m L2)=lvB k m L2:=Al (by rw[IL];exact Af _);generalize hre:nth d.rules i=r at *;have hgr:=Bs r.guards;have hot:=BP r.out;obtain⟨e,he⟩:∃e:Nat,r.eat=e:=⟨r.eat.toNat,by omega⟩;obtain⟨t,htq⟩:∃t:Nat,r.to_=t:=⟨r.to_.toNat,by omega⟩;have het:r.eat.toNat=e:=by omega
     have htt2:r.to_.toNat=t:=by omega
     rw[het,htt2] at hyes;cases hb:goB x r.guards at_ with
     |false =>
      rw[hb] at hF;have hno:=hno hb;refine W_T ?_;(with_reducible repeat'(first|simp (disch:=omega) only[push_cast,↓zz,seval,pR,pFi,pX,hdn,pLv,lL,pRU,pFI,pO,pRI,aI,hre,hgr,hot,tL]|apply Aa|refine sp_ ?_ ?_<;>intro hc<;>push_cast at hc|refine ee hF ?_|(refine cc hF ?_;(simp(disch:=omega)only[push_cast,↓zz,seval,pR,pFi,pX,hdn,pLv,lL,pRU,pFI,pO,pRI,aI,hre,hgr,hot,tL]);(fail_if_success change False))|omega|intro _));exact⟨(i0+1,L2),⟨by simp,Bc _ _⟩,⟨by omega,⟨hno⟩⟩,by simp only;omega⟩
     |true =>
      rw[hb] at hF;have hyes:=hyes hb;have hle:=FE hb;have hge:=(hgo.r _ hr).2.2.1;rw[het] at hge;obtain⟨hs1,hs2⟩:=hset L2 e t (by omega) (by omega);have hae:(at_:Int)+(e:Int)=((at_+e:Nat):Int):=by norm_cast
      have hmul2:((at_+e:Nat):Int) * (k:Int)=(((at_+e) * k:Nat):Int):=by norm_cast
      have hmulb2:(at_+e) * k<=1024 * 1024:=B6 (by omega) hn;generalize hpe2:(at_+e) * k+t=p2 at *;generalize (at_+e) * k=an2 at *;have hpi2:(an2:Int)+(t:Int)=(p2:Int):=by omega
      generalize hbe:at_+e=b2 at *;refine W_T ?_;(with_reducible repeat'(first|simp (disch:=omega) only[push_cast,↓zz,seval,pR,pFi,pX,hdn,pLv,lL,pRU,pFI,pO,pRI,aI,hre,hgr,hot,tL,he,htq,hae,hmul2,hpi2,hs1]|apply Aa|refine sp_ ?_ ?_<;>intro hc<;>push_cast at hc|refine ee hF ?_|(refine cc hF ?_;(simp(disch:=omega)only[push_cast,↓zz,seval,pR,pFi,pX,hdn,pLv,lL,pRU,pFI,pO,pRI,aI,hre,hgr,hot,tL,he,htq,hae,hmul2,hpi2,hs1]);(fail_if_success change False))|omega|intro _));exact⟨(i0+1,setP L2 b2 t true),⟨by simp,Bc _ _⟩,⟨by omega,⟨hyes⟩⟩,by simp only;omega⟩
    ·obtain rfl:i0=(ruI d.rules s).length:=by omega
     have hend:=zdp hI2 hT hjk hse;refine W_T ?_;(with_reducible repeat'(first|simp (disch:=omega) only[push_cast,↓zz,seval,pR,pFi,pX,hdn,pLv,lL,pRU,pFI,pO,pRI]|apply Aa|refine sp_ ?_ ?_<;>intro hc<;>push_cast at hc|omega|intro _));exact⟨L2,Bc _ _,⟨hend⟩⟩
  ·rintro L ⟨hI⟩
   rw[P2,hol] at hI;have hI2:=zkf hI hT;unfold bgV rnB ruV fiV;(with_reducible repeat'(first|simp (disch:=omega) only[push_cast,↓zz,seval,pR,pFi,pX,hdn,pLv,pRU,pFI,pO]|apply Aa|refine sp_ ?_ ?_<;>intro hc<;>push_cast at hc|omega|intro _));refine⟨(at_+1,L),⟨Bc _ _,by simp⟩,⟨by omega,⟨hI2⟩⟩,by simp only;omega⟩
 ·obtain rfl:at_=x.length+1:=by omega
  have hE:=zkg hI;have tL:∀L,List.take m (lvB k m L)=lvB k m L:=λL=>Al (by rw[IL];exact Af _);unfold bgV rnB ruV fiV;refine W_T ?_;(with_reducible repeat'(first|simp (disch:=omega) only[push_cast,↓zz,seval,pR,pFi,pX,hdn,pLv,pRU,pFI,pO]|apply Aa|refine sp_ ?_ ?_<;>intro hc<;>push_cast at hc|omega|intro _));refine⟨_,_,zdw 4 [0,3] (z:=Ct d x (ruV d.rules k) (fiV d.finals k) (.lst 1 (ord.map e1)) (.lst 1 (lvB k m L))) ?_ ?_ ?_,rfl,ord,L,?_,hT,hE⟩
  ·(simp(disch:=omega)only[push_cast,↓zz,seval,pR,pFi,pX,pLv,pRU,pFI,pO,IL,tL])
  ·(simp(disch:=omega)only[push_cast,↓zz,seval,pR,pFi,pX,pLv,pRU,pFI,pO,IL,tL])
   have e:(k:Int)=d.states:=hdn.symm;rw[e];rfl
  ·simp[AV.pure,A6,pR,pFi,pX,pLv,pRU,pFI,pO,ruV,fiV]
  ·rw[hm];rfl
set_option maxRecDepth 100000
def CN:List Int->List Int->Nat
 |[],_=>0
 |_,[]=>0
 |a::l,b::m=>if a=b then CN l m+1 else 0
def cmpL:List Int->List Int->Int
 |[],[]=>0
 |[],_::_=>-1
 |_::_,[]=>1
 |a::l,b::m=>if a<b then -1 else if b<a then 1 else cmpL l m
theorem Tu:∀a b:List Int,CN a b<=a.length/\CN a b<=b.length
 |[],_=>by simp[CN]
 |_::_,[]=>by simp[CN]
 |a::l,b::m=>by
  have:=Tu l m;simp only[CN];split<;>simp<;>omega
theorem Rx{a b:List Int}{k:Nat}(h1:k<a.length)(h2:k<b.length)(he:nth a k=nth b k):CN (a.drop k) (b.drop k)=CN (a.drop (k+1)) (b.drop (k+1))+1:=by
 rw[drop_at h1,drop_at h2,CN,Ae he]
theorem Ry{a b:List Int}{k:Nat}(h:¬(k<a.length/\k<b.length/\nth a k=nth b k)):CN (a.drop k) (b.drop k)=0:=by
 by_cases h1:k<a.length
 ·by_cases h2:k<b.length
  ·rw[drop_at h1,drop_at h2,CN,Ac λe=>h ⟨h1,h2,e⟩]
  ·rw[Aj (l:=b) (by omega)]
   cases a.drop k<;>rfl
 ·rw[Aj (l:=a) (by omega)];rfl
theorem P5:∀a b:List Int,cmpL a b=if CN a b=a.length/\CN a b=b.length then 0 else if CN a b=a.length then -1 else if CN a b=b.length then 1 else if nth a (CN a b)<nth b (CN a b) then -1 else if nth b (CN a b)<nth a (CN a b) then 1 else 0
 |[],[]=>rfl
 |[],_::_=>by simp[cmpL,CN]
 |_::_,[]=>by simp[cmpL,CN]
 |a::l,b::m=>by
  by_cases e:a=b
  ·subst e
   have h1:CN (a::l) (a::m)=CN l m+1:=by rw[CN,Ae rfl]
   have h2:cmpL (a::l) (a::m)=cmpL l m:=by rw[cmpL,Ac (Int.lt_irrefl _),Ac (Int.lt_irrefl _)]
   rw[h1,h2,P5 l m];simp only[List.length_cons,Nat.add_right_cancel_iff,La];rfl
  ·have h1:CN (a::l) (b::m)=0:=by rw[CN,Ac e]
   have n1:¬(0=l.length+1):=by omega
   have n2:¬(0=m.length+1):=by omega
   rw[h1,cmpL];rw[List.length_cons,List.length_cons,Ac (show ¬(0=l.length+1/\0=m.length+1) from λh=>n1 h.1),Ac n1,Ac n2];by_cases h2:a<b
   ·rw[Ae h2,Ae (show nth (a::l) 0<nth (b::m) 0 from h2)]
   ·have h3:b<a:=by omega
    rw[Ac h2,Ac (show ¬nth (a::l) 0<nth (b::m) 0 from h2),Ae h3,Ae (show nth (b::m) 0<nth (a::l) 0 from h3)]
theorem z1v(a b:List Int)(hl:a.length<=1000000000):PC Tryz.prog 114 [A4 a,A4 b] (.int .i64 (CN a b)):=by
 have pa:A6 (a.map (AV.int .i32))=true:=AE .i32 _;have pb:A6 (b.map (AV.int .i32))=true:=AE .i32 _;refine BA UE ?_;unfold MJ;(with_reducible repeat'(first|simp (disch:=omega) only[push_cast,↓zz,seval]|apply Aa|refine sp_ ?_ ?_<;>intro hc<;>push_cast at hc|omega|intro _))
 refine AQ (AX (λ(k:Nat)=>k<=a.length/\CN a b=k+CN (a.drop k) (b.drop k)) (λk=>a.length-k)
  (λk=>[(0,A4 a),(1,A4 b),(5,.int .i64 k)]) (λs=>[]) (λenv _=>[]) 0 (by simp) ?_ ?_)
 ·(with_reducible repeat'(first|simp (disch:=omega) only[push_cast,↓zz,seval,pa,pb]|apply Aa|refine sp_ ?_ ?_<;>intro hc<;>push_cast at hc|omega|intro _))
 rintro k ⟨hk,hr⟩;refine W_T ?_;by_cases h:k<a.length/\k<b.length/\nth a k=nth b k
 ·obtain⟨h1,h2,h3⟩:=h
  have hs:=Rx h1 h2 h3;(with_reducible repeat'(first|simp (disch:=omega) only[push_cast,↓zz,seval,pa,pb,h3]|apply Aa|refine sp_ ?_ ?_<;>intro hc<;>push_cast at hc|omega|intro _))
  all_goals
   refine⟨k+1,?_⟩;(with_reducible repeat'(first|simp (disch:=omega) only[push_cast,↓zz,seval,pa,pb]|apply Aa|refine sp_ ?_ ?_<;>intro hc<;>push_cast at hc|omega|intro _))
 ·have hs:=Ry h
  rw[hs] at hr;by_cases h1:k<a.length
  ·by_cases h2:k<b.length
   ·have h3:¬nth a k=nth b k:=λe=>h ⟨h1,h2,e⟩
    (with_reducible repeat'(first|simp (disch:=omega) only[push_cast,↓zz,seval,pa,pb,h3]|apply Aa|refine sp_ ?_ ?_<;>intro hc<;>push_cast at hc|omega|intro _))
    all_goals first|omega|trace_state
   ·(with_reducible repeat'(first|simp (disch:=omega) only[push_cast,↓zz,seval,pa,pb]|apply Aa|refine sp_ ?_ ?_<;>intro hc<;>push_cast at hc|omega|intro _))
    all_goals first|omega|trace_state
  ·(with_reducible repeat'(first|simp (disch:=omega) only[push_cast,↓zz,seval,pa,pb]|apply Aa|refine sp_ ?_ ?_<;>intro hc<;>push_cast at hc|omega|intro _))
   all_goals first|omega|trace_state
theorem VD(x:Int):PC Tryz.prog 144 [.int .i32 x] (.bool false):=by
 refine BA Nq ?_;unfold IQ;(with_reducible repeat'(first|simp (disch:=omega) only[push_cast,↓zz,seval]|apply Aa|refine sp_ ?_ ?_<;>intro hc<;>push_cast at hc|omega|intro _))
 all_goals trace_state
theorem zdx(x y:Int):PC Tryz.prog 115 [.int .i32 x,.int .i32 y] (.int .i64 (if x<y then -1 else if y<x then 1 else 0)):=by
 have hx:=VD x;have hy:=VD y;refine BA Lq ?_;unfold H9;by_cases h1:x<y
 ·rw[Ae h1]
  (with_reducible repeat'(first|simp (disch:=omega) only[push_cast,↓zz,seval,h1]|apply Aa|refine sp_ ?_ ?_<;>intro hc<;>push_cast at hc|refine ee hx ?_|refine ee hy ?_|((first|refine cc hx ?_|refine cc hy ?_);(simp(disch:=omega)only[push_cast,↓zz,seval,h1]);(fail_if_success change False))|omega|intro _))
 ·rw[Ac h1]
  by_cases h2:y<x
  ·rw[Ae h2]
   (with_reducible repeat'(first|simp (disch:=omega) only[push_cast,↓zz,seval,h1,h2]|apply Aa|refine sp_ ?_ ?_<;>intro hc<;>push_cast at hc|refine ee hx ?_|refine ee hy ?_|((first|refine cc hx ?_|refine cc hy ?_);(simp(disch:=omega)only[push_cast,↓zz,seval,h1,h2]);(fail_if_success change False))|omega|intro _))
  ·rw[Ac h2]
   (with_reducible repeat'(first|simp (disch:=omega) only[push_cast,↓zz,seval,h1,h2]|apply Aa|refine sp_ ?_ ?_<;>intro hc<;>push_cast at hc|refine ee hx ?_|refine ee hy ?_|((first|refine cc hx ?_|refine cc hy ?_);(simp(disch:=omega)only[push_cast,↓zz,seval,h1,h2]);(fail_if_success change False))|omega|intro _))
   all_goals trace_state
theorem J5(a b:List Int)(ha:a.length<=1000000000)(hb:b.length<=1000000000):PC Tryz.prog 77 [A4 a,A4 b] (.int .i64 (cmpL a b)):=by
 have pa:A6 (a.map (AV.int .i32))=true:=AE .i32 _;have pb:A6 (b.map (AV.int .i32))=true:=AE .i32 _;have hF:=z1v a b ha;have hfl:=Tu a b;have hC:=zdx (nth a (CN a b)) (nth b (CN a b));rw[P5];generalize hf:CN a b=f at *;refine BA PT ?_;unfold Kf;by_cases h1:f=a.length
 ·by_cases h2:f=b.length
  ·rw[Ae ⟨h1,h2⟩]
   (with_reducible repeat'(first|simp (disch:=omega) only[push_cast,↓zz,seval,pa,pb]|apply Aa|refine sp_ ?_ ?_<;>intro hc<;>push_cast at hc|refine ee hF ?_|(refine cc hF ?_;(simp(disch:=omega)only[push_cast,↓zz,seval,pa,pb]);(fail_if_success change False))|omega|intro _))
   all_goals first|omega|trace_state
  ·rw[Ac (λh=>h2 h.2),Ae h1]
   (with_reducible repeat'(first|simp (disch:=omega) only[push_cast,↓zz,seval,pa,pb]|apply Aa|refine sp_ ?_ ?_<;>intro hc<;>push_cast at hc|refine ee hF ?_|(refine cc hF ?_;(simp(disch:=omega)only[push_cast,↓zz,seval,pa,pb]);(fail_if_success change False))|omega|intro _))
   all_goals first|omega|trace_state
 ·rw[Ac (λh=>h1 h.1),Ac h1]
  by_cases h2:f=b.length
  ·rw[Ae h2]
   (with_reducible repeat'(first|simp (disch:=omega) only[push_cast,↓zz,seval,pa,pb]|apply Aa|refine sp_ ?_ ?_<;>intro hc<;>push_cast at hc|refine ee hF ?_|(refine cc hF ?_;(simp(disch:=omega)only[push_cast,↓zz,seval,pa,pb]);(fail_if_success change False))|omega|intro _))
   all_goals first|omega|trace_state
  ·rw[Ac h2]
   (with_reducible repeat'(first|simp (disch:=omega) only[push_cast,↓zz,seval,pa,pb]|apply Aa|refine sp_ ?_ ?_<;>intro hc<;>push_cast at hc|refine ee hF ?_|refine ee hC ?_|((first|refine cc hF ?_|refine cc hC ?_);(simp(disch:=omega)only[push_cast,↓zz,seval,pa,pb]);(fail_if_success change False))|omega|intro _))
   all_goals first|omega|trace_state
set_option maxRecDepth 100000
theorem Tv:∀a b:List Int,cmpL a b=0↔a=b
 |[],[]=>by simp[cmpL]
 |[],_::_=>by simp[cmpL]
 |_::_,[]=>by simp[cmpL]
 |a::l,b::m=>by
  simp only[cmpL,Fe];by_cases h1:a<b
  ·rw[Ae h1];constructor
   ·intro h;cases h
   ·intro h;omega
  ·rw[Ac h1]
   by_cases h2:b<a
   ·rw[Ae h2];constructor
    ·intro h;cases h
    ·intro h;omega
   ·rw[Ac h2,Tv l m]
    have:a=b:=by omega
    simp[this]
theorem P6:∀a b:List Int,cmpL a b<0↔ltW a b=true
 |[],[]=>by simp[cmpL,ltW]
 |[],_::_=>by simp[cmpL,ltW]
 |_::_,[]=>by simp[cmpL,ltW]
 |a::l,b::m=>by
  simp only[cmpL,ltW];by_cases h1:a<b
  ·rw[Ae h1,Ae h1];simp
  ·rw[Ac h1,Ac h1]
   by_cases h2:b<a
   ·rw[Ae h2,Ae h2];simp
   ·rw[Ac h2,Ac h2];exact P6 l m
theorem z84(a b:List Int)(ha:a.length<=1000000000)(hb:b.length<=1000000000):PC Tryz.prog 109 [A4 a,A4 b] (.bool (decide (a=b))):=by
 have hC:=J5 a b ha hb;have hz:decide (cmpL a b=0)=decide (a=b):=BC.2 (Tv a b);refine BA Sk ?_;unfold Ln;rw[<-hz];generalize cmpL a b=c at *;(with_reducible repeat'(first|simp (disch:=omega) only[push_cast,↓zz,seval]|apply Aa|refine sp_ ?_ ?_<;>intro hc<;>push_cast at hc|refine ee hC ?_|(refine cc hC ?_;(simp(disch:=omega)only[push_cast,↓zz,seval]);(fail_if_success change False))|omega|intro _))
 all_goals trace_state
def C7(l:List (List Int)):Nat->List (List Int)
 |0=>[]
 |k+1=>if 0<k/\nth l k=nth l (k-1) then C7 l k else C7 l k++[nth l k]
theorem P7{l:List (List Int)}:∀(k:Nat),k<=l.length->∀w,w∈C7 l k↔w∈l.take k
 |0,_,w=>by simp[C7]
 |k+1,hk,w=>by
  have ih:=P7 (l:=l) k (by omega) w;rw[take_at (by omega),C7];split
  ·rename_i h
   rw[ih,Am,Ao];constructor
   ·exact .inl
   ·rintro (h1|rfl)
    ·exact h1
    ·rw[h.2]
     have e:l.take k=l.take (k-1)++[nth l (k-1)]:=by
      have:=take_at (l:=l) (i:=k-1) (by omega)
      rwa [show k-1+1=k by omega] at this
     rw[e];simp
  ·rw[Am,ih,Am]
theorem VE{l:List (List Int)}{k:Nat}(hk:k<=l.length){w:List Int}(h:w∈l.take k):∃i,i<k/\w=nth l i:=by
 obtain⟨i,hi,rfl⟩:=Bm h;rw[BR] at hi;refine⟨i,by omega,?_⟩;rw[Fq (by omega),List.getElem_take]
theorem Rz{l:List (List Int)}(hs:l.Pairwise λa b=>ltW b a=false):∀(k:Nat),k<=l.length->Hx (C7 l k)
 |0,_=>List.Pairwise.nil
 |k+1,hk=>by
  have ih:=Rz hs k (by omega)
  have hle:∀i j,i<j->j<l.length->ltW (nth l j) (nth l i)=false:=λi j hij hj=>by
   rw[Fq hj,Fq (by omega)];exact BW.1 hs i j (by omega) hj hij
  rw[C7];split
  ·exact ih
  ·rename_i hne
   refine DU.2 ⟨ih,Em _ _,λa ha b hb=>?_⟩;rw[Ao.1 hb];obtain⟨i,hi,rfl⟩:=VE (by omega) ((P7 k (by omega) a).1 ha);cases hlt:ltW (nth l i) (nth l k) with
   |true=>rfl
   |false =>
    exfalso;have e:=Iz _ _ hlt (hle i k hi (by omega));refine hne ⟨by omega,?_⟩;by_cases h1:i=k-1
    ·rw[<-e,h1]
    ·have h2:=hle i (k-1) (by omega) (by omega)
     have h3:=hle (k-1) k (by omega) (by omega);rw[<-e] at h3 ⊢;exact Iz _ _ h3 h2
theorem VF(l:List (List Int)):∀k,(C7 l k).length<=k
 |0=>by simp[C7]
 |k+1=>by
  have:=VF l k;rw[C7];split
  ·omega
  ·simp;omega
theorem z1w{l m:List (List Int)}(h:m.Pairwise λa b=>ltW b a=false)(hp:m.Perm l):J1 l=C7 m m.length:=Zm (Rz h _ (Af _)) λw=>by
 rw[P7 _ (Af _),A3];exact hp.mem_iff
theorem z85{α:Type}[Inhabited α](a b:List α)(k:Nat):nth (a++b) (a.length+k)=nth b k:=by
 simp[nth,List.getD,AB]
theorem Zu{α:Type}[Inhabited α](l:List α)(i k:Nat):nth (l.drop i) k=nth l (i+k):=by
 simp[nth,List.getD]
theorem set_mid{α:Type}(C J D:List α)(h v:α):(C++(h::J)++D).set C.length v=(C++[v])++J++D:=by simp
theorem LR(ex:Bool)(l:List (List Int))(hl:l.length<=1000000000)(hw:∀w∈l,w.length<=1000000000):BB Tryz.prog 108 [.ref 0 1 0 l.length,.fn 109 []] (Abs.hl [⟨1,1,ex,l.map A4⟩]) λy H' =>
 y=.ref 0 1 0 (C7 l l.length).length/\∃z,A6 z=true/\H'=Abs.hl [⟨1,1,ex,(C7 l l.length).map A4++z⟩]:=by
 have pL:=BL l;have hc1:=VF l l.length;refine Yi (b:=1) G4 rfl ?_;unfold EL;by_cases h2:l.length<2
 ·have hce:C7 l l.length=l:=by
   match l,h2 with
   |[],_=>rfl
   |[a],_=>rfl
  (with_reducible repeat'(first|simp (disch:=omega) only[push_cast,↓zz,seval,pL]|apply Aa|refine sp_ ?_ ?_<;>intro hc<;>push_cast at hc|omega|intro _))
  all_goals
   refine Uo [] (.ref 0 1 0 (C7 l l.length).length) [⟨1,1,ex,(C7 l l.length).map A4++[]⟩] ?_ ⟨rfl,[],rfl,rfl⟩;rw[hce,A5];(with_reducible repeat'(first|simp (disch:=omega) only[push_cast,↓zz,seval,pL]|apply Aa|refine sp_ ?_ ?_<;>intro hc<;>push_cast at hc|omega|intro _))
 ·have hcl:∀i,(∀j,1<=j->j<i->nth l j≠nth l (j-1))->i<=l.length->C7 l i=l.take i:=λi=>by
   induction i with
   |zero=>intro _ _;simp[C7]
   |succ i ih =>
    intro hj hi;rw[C7,ih (λj h1 h2=>hj j h1 (by omega)) (by omega),take_at (by omega)];by_cases h0:0<i
    ·rw[Ac λh=>hj i (by omega) (by omega) h.2]
    ·rw[Ac λh=>h0 h.1]
  have hfn:∀a∈l,∀b∈l,PC Tryz.prog 109 [A4 a,A4 b] (.bool (decide (a=b))):=λa ha b hb=>z84 a b (hw a ha) (hw b hb);(with_reducible repeat'(first|simp (disch:=omega) only[push_cast,↓zz,seval,pL]|apply Aa|refine sp_ ?_ ?_<;>intro hc<;>push_cast at hc|omega|intro _))
  refine AQ (AX (λ(i:Nat)=>(1<=i/\i<=l.length)/\Hold (∀j,1<=j->j<i->nth l j≠nth l (j-1))) (λi=>l.length-i)
   (λi=>[(0,.ref 0 1 0 l.length),(1,.fn 109 []),(5,.int .i64 i)]) (λ_=>[⟨1,1,ex,l.map A4⟩]) (λ_ _=>[]) 1 ⟨by omega,⟨λj h1 h2=>by omega⟩⟩ ?_ ?_)
  ·(with_reducible repeat'(first|simp (disch:=omega) only[push_cast,↓zz,seval,pL]|apply Aa|refine sp_ ?_ ?_<;>intro hc<;>push_cast at hc|omega|intro _))
  rintro i ⟨⟨hi1,hi⟩,⟨hno⟩⟩;rcases Ah i l.length with hil|hil
  ·have m1:nth l i∈l:=AL hil
   have m2:nth l (i-1)∈l:=AL (by omega);have hF:=hfn _ m1 _ m2;have a1:((l.map A4).getD i .any)=A4 (nth l i):=by simp[nth,List.getD,hil]
   have a2:((l.map A4).getD (i-1) .any)=A4 (nth l (i-1)):=by
    have:i-1<l.length:=by omega
    simp[nth,List.getD,this]
   have hci:=hcl i hno (by omega);have hi0:((i:Int)-1).toNat=i-1:=by omega
   generalize hu:nth l i=u at *;generalize hv:nth l (i-1)=v at *;have pu:A6 (u.map (AV.int .i32))=true:=AE .i32 _;have pv:A6 (v.map (AV.int .i32))=true:=AE .i32 _;refine W_T ?_;by_cases he:u=v
   ·rw[A7 he] at hF
    (with_reducible repeat'(first|simp (disch:=omega) only[push_cast,↓zz,seval,pL,hu,hv,pu,pv,hi0,a1,a2]|apply Aa|refine sp_ ?_ ?_<;>intro hc<;>push_cast at hc|refine ee hF ?_|(refine cc hF ?_;(simp(disch:=omega)only[push_cast,↓zz,seval,pL,hu,hv,pu,pv,hi0,a1,a2]);(fail_if_success change False))|omega|intro _));have hst:C7 l (i+1)=l.take i:=by rw[C7,Ae ⟨by omega,by rw[hu,hv];exact he⟩,hci]
    have hstep:∀k,C7 l (i+k+1)=if nth l (i+k)=nth l (i+k-1) then C7 l (i+k) else C7 l (i+k)++[nth l (i+k)]:=λk=>by
     rw[C7];by_cases h:nth l (i+k)=nth l (i+k-1)
     ·rw[Ae ⟨by omega,h⟩,Ae h]
     ·rw[Ac λhh=>h hh.2,Ac h]
    clear hno hcl hF a1 a2 pu pv
    refine AQ (AX (λ(q:Nat × List (List Int))=>(1<=q.1/\i+q.1<=l.length)/\(C7 l (i+q.1)).length+q.2.length=i+q.1-1) (λq=>l.length-q.1)
     (λq=>[(0,.ref 0 1 0 l.length),(1,.fn 109 []),(5,.int .i64 (C7 l (i+q.1)).length),(6,.ref 0 1 i (l.length-i)),(7,.int .i64 q.1)])
     (λq=>[⟨1,1,ex,(C7 l (i+q.1)++q.2++l.drop (i+q.1-1)).map A4⟩]) (λ_ _=>[]) (1,[]) ⟨by omega,by simp only[hst];simp;omega⟩ ?_ ?_)
    ·have hX:C7 l (i+1)++[]++l.drop (i+1-1)=l:=by rw[hst,A5,Nat.add_sub_cancel,C6]
     have hCl:(C7 l (i+1)).length=i:=by rw[hst,BR];omega
     simp only[hX,hCl];(with_reducible repeat'(first|simp (disch:=omega) only[push_cast,↓zz,seval,pL]|apply Aa|refine sp_ ?_ ?_<;>intro hc<;>push_cast at hc|omega|intro _))
    rintro⟨k,J⟩ ⟨⟨hk1,hk⟩,hJ⟩;simp only at hk1 hk hJ ⊢;have hXl:(C7 l (i+k)++J++l.drop (i+k-1)).length=l.length:=by simp only[An,List.length_drop];omega
    have hCJ:(C7 l (i+k)++J).length=i+k-1:=by rw[An];exact hJ
    rcases Ah (i+k) l.length with hkl|hkl
    ·have n1:nth (C7 l (i+k)++J++l.drop (i+k-1)) (i+k)=nth l (i+k):=by
      have:=z85 (C7 l (i+k)++J) (l.drop (i+k-1)) 1;rw[hCJ,Zu] at this
      rwa [show i+k-1+1=i+k by omega] at this
     have n2:nth (C7 l (i+k)++J++l.drop (i+k-1)) (i+k-1)=nth l (i+k-1):=by
      have:=z85 (C7 l (i+k)++J) (l.drop (i+k-1)) 0;rw[hCJ,Zu,Nat.add_zero] at this;exact this
     have m1:nth l (i+k)∈l:=AL hkl;have m2:nth l (i+k-1)∈l:=AL (by omega);have hF:=hfn _ m1 _ m2;have hs:=hstep k
     have hdr:l.drop (i+k-1)=nth l (i+k-1)::l.drop (i+k):=by
      have:=drop_at (l:=l) (i:=i+k-1) (by omega)
      rwa [show i+k-1+1=i+k by omega] at this
     obtain⟨h,J',hJ'⟩:∃h J',J++[nth l (i+k-1)]=h::J':=by
      cases J with
      |nil=>exact⟨_,[],rfl⟩
      |cons a J=>exact⟨a,J++[_],rfl⟩
     have hJl:J'.length=J.length:=by have:=DJ List.length hJ';simp at this;omega
     have hXe:C7 l (i+k)++J++l.drop (i+k-1)=C7 l (i+k)++(h::J')++l.drop (i+k):=by
      rw[hdr,<-hJ'];simp
     have hset:(C7 l (i+k)++J++l.drop (i+k-1)).set (C7 l (i+k)).length (nth l (i+k))=C7 l (i+k)++[nth l (i+k)]++J'++l.drop (i+k):=by rw[hXe,set_mid]
     have hsame:C7 l (i+k)++J++l.drop (i+k-1)=C7 l (i+k)++(J++[nth l (i+k-1)])++l.drop (i+k):=by rw[hdr];simp
     have pX:=BL (C7 l (i+k)++J++l.drop (i+k-1));have hmset:((C7 l (i+k)++J++l.drop (i+k-1)).map A4).set (C7 l (i+k)).length (A4 (nth l (i+k)))=(C7 l (i+k)++[nth l (i+k)]++J'++l.drop (i+k)).map A4:=by rw[<-List.map_set,hset]
     have hidx:(i:Int)+k=((i+k:Nat):Int):=by omega
     have e1':i+(k-1)=i+k-1:=by omega
     have hk0:((k:Int)-1).toNat=k-1:=by omega
     have hcl2:(C7 l (i+k)).length<l.length:=by omega
     generalize hX:C7 l (i+k)++J++l.drop (i+k-1)=X at *;generalize hu2:nth l (i+k)=u2 at *;generalize hv2:nth l (i+k-1)=v2 at *;have pu:A6 (u2.map (AV.int .i32))=true:=AE .i32 _;have pv:A6 (v2.map (AV.int .i32))=true:=AE .i32 _;refine W_T ?_;by_cases he2:u2=v2
     ·rw[A7 he2] at hF
      rw[Ae he2] at hs;(with_reducible repeat'(first|simp (disch:=omega) only[push_cast,↓zz,seval,pX,hXl,n1,n2,pu,pv,hk0,e1']|apply Aa|refine sp_ ?_ ?_<;>intro hc<;>push_cast at hc|refine ee hF ?_|(refine cc hF ?_;(simp(disch:=omega)only[push_cast,↓zz,seval,pX,hXl,n1,n2,pu,pv,hk0,e1']);(fail_if_success change False))|omega|intro _))
      all_goals
       refine⟨(k+1,J++[v2]),?_⟩;have e2:i+(k+1)-1=i+k:=by omega
       have hsm:(C7 l (i+k)).map A4++(J.map A4++A4 v2::(l.drop (i+k)).map A4)=X.map A4:=by rw[hsame];simp
       simp only[<-Br,hs,e2];(with_reducible repeat'(first|simp (disch:=omega) only[push_cast,↓zz,seval,pX,hsm]|apply Aa|refine sp_ ?_ ?_<;>intro hc<;>push_cast at hc|omega|intro _))
     ·rw[AM he2] at hF
      rw[Ac he2] at hs;have pX1:=BL (C7 l (i+k)++[u2]++J'++l.drop (i+k));(with_reducible repeat'(first|simp (disch:=omega) only[push_cast,↓zz,seval,pX,hXl,n1,n2,pu,pv,hk0,e1',hmset]|apply Aa|refine sp_ ?_ ?_<;>intro hc<;>push_cast at hc|refine ee hF ?_|(refine cc hF ?_;(simp(disch:=omega)only[push_cast,↓zz,seval,pX,hXl,n1,n2,pu,pv,hk0,e1',hmset]);(fail_if_success change False))|omega|intro _))
      all_goals
       refine⟨(k+1,J'),?_⟩;have e2:i+(k+1)-1=i+k:=by omega
       simp only[<-Br,hs,e2];(with_reducible repeat'(first|simp (disch:=omega) only[push_cast,↓zz,seval,pX1,An,List.length_cons,List.length_nil]|apply Aa|refine sp_ ?_ ?_<;>intro hc<;>push_cast at hc|omega|intro _))
    ·have hkn:i+k=l.length:=by omega
     rw[hkn] at hXl hCJ hJ ⊢;have hm:(C7 l l.length++J++l.drop (l.length-1)).map A4=(C7 l l.length).map A4++(J++l.drop (l.length-1)).map A4:=by rw[Av,Az]
     have hmt:((C7 l l.length++J++l.drop (l.length-1)).map A4).take (C7 l l.length).length=(C7 l l.length).map A4:=by rw[hm];exact D2 (by simp)
     have hmd:((C7 l l.length++J++l.drop (l.length-1)).map A4).drop l.length=[]:=Aj (by rw[Bh,hXl];exact Af _);have pX:=BL (C7 l l.length++J++l.drop (l.length-1));have pC:=BL (C7 l l.length);have pN:=J4 (l.length-(C7 l l.length).length);generalize C7 l l.length++J++l.drop (l.length-1)=X at *;generalize C7 l l.length=C at *;have hcn:C.length+(l.length-C.length)=l.length:=by omega
     refine W_T ?_;(with_reducible repeat'(first|simp (disch:=omega) only[push_cast,↓zz,seval,pX,hXl,hmt,hmd,hcn,A5]|apply Aa|refine sp_ ?_ ?_<;>intro hc<;>push_cast at hc|omega|intro _))
     all_goals
      refine Uo [] (.ref 0 1 0 C.length) [⟨1,1,ex,C.map A4++List.replicate (l.length-C.length) .nilS⟩] ?_ ⟨rfl,_,pN,rfl⟩;(with_reducible repeat'(first|simp (disch:=omega) only[push_cast,↓zz,seval,pX,pC,pN]|apply Aa|refine sp_ ?_ ?_<;>intro hc<;>push_cast at hc|omega|intro _))
   ·rw[AM he] at hF
    have hnx:Hold (∀j,1<=j->j<i+1->nth l j≠nth l (j-1)):=⟨λj h1 h2=>by
     by_cases e:j=i
     ·subst e;rw[hu,hv];exact he
     ·exact hno j h1 (by omega)⟩
    clear hno hcl;(with_reducible repeat'(first|simp (disch:=omega) only[push_cast,↓zz,seval,pL,hu,hv,pu,pv,hi0,a1,a2]|apply Aa|refine sp_ ?_ ?_<;>intro hc<;>push_cast at hc|refine ee hF ?_|(refine cc hF ?_;(simp(disch:=omega)only[push_cast,↓zz,seval,pL,hu,hv,pu,pv,hi0,a1,a2]);(fail_if_success change False))|omega|intro _))
    all_goals
     refine⟨i+1,?_⟩;(with_reducible repeat'(first|simp (disch:=omega) only[push_cast,↓zz,seval,pL]|apply Aa|refine sp_ ?_ ?_<;>intro hc<;>push_cast at hc|omega|intro _))
     all_goals first|exact⟨by omega,hnx⟩|exact hnx|trace_state
  ·obtain rfl:i=l.length:=by omega
   have hce:=hcl l.length hno (Af _);rw[A3] at hce;clear hno hcl;refine W_T ?_;(with_reducible repeat'(first|simp (disch:=omega) only[push_cast,↓zz,seval,pL]|apply Aa|refine sp_ ?_ ?_<;>intro hc<;>push_cast at hc|omega|intro _))
   all_goals
    refine Uo [] (.ref 0 1 0 (C7 l l.length).length) [⟨1,1,ex,(C7 l l.length).map A4++[]⟩] ?_ ⟨rfl,[],rfl,rfl⟩;rw[hce,A5];(with_reducible repeat'(first|simp (disch:=omega) only[push_cast,↓zz,seval,pL]|apply Aa|refine sp_ ?_ ?_<;>intro hc<;>push_cast at hc|omega|intro _))
   all_goals trace_state
theorem P8{l:List FS}{s i:Nat}:i∈fiI l s↔i<l.length/\(nth l i).from_=s:=by simp[fiI,IN]
theorem Xy(l:List FS)(s:Nat):(fiI l s).length<=l.length:=P4 _ _
section
variable (d:Desc)(x:List Int)(S:Nat->Nat->List (List Int))(at_ s:Nat)
def finW(k:Nat):List (List Int):=((fiI d.finals s).take k).flatMap λi=>if (nth d.finals i).guards.length+at_=x.length/\goB x (nth d.finals i).guards at_=true then [CM x (nth d.finals i).out (nth d.finals i).guards at_] else []
def toW(i:Nat):List (List Int):=S (at_+(nth d.rules i).eat.toNat) (nth d.rules i).to_.toNat
def rulW(k:Nat):List (List Int):=((ruI d.rules s).take k).flatMap λi=>if goB x (nth d.rules i).guards at_=true then (toW d S at_ i).map (CM x (nth d.rules i).out (nth d.rules i).guards at_++·) else []
def allW:List (List Int):=finW d x at_ s (fiI d.finals s).length++rulW d x S at_ s (ruI d.rules s).length
variable {d x S at_ s}{k:Nat}
theorem VG:finW d x at_ s 0=[]:=rfl
theorem VH:rulW d x S at_ s 0=[]:=rfl
theorem Tw(hk:k<(fiI d.finals s).length){f:FS}(hf:nth d.finals (nth (fiI d.finals s) k)=f)(h:(decide (f.guards.length+at_=x.length)&&goB x f.guards at_)=true):finW d x at_ s (k+1)=finW d x at_ s k++[CM x f.out f.guards at_]:=by
 simp only[Ab,Ad] at h;rw[finW,take_at hk,Dd,CL,hf,Ae h];rfl
theorem Xz(hk:k<(fiI d.finals s).length){f:FS}(hf:nth d.finals (nth (fiI d.finals s) k)=f)(h:(decide (f.guards.length+at_=x.length)&&goB x f.guards at_)=false):finW d x at_ s (k+1)=finW d x at_ s k:=by
 rw[finW,take_at hk,Dd,CL,hf,Ac,A5]
 ·rfl
 rintro⟨h1,h2⟩;rw[h2,A7 h1] at h;cases h
theorem Tx(hk:k<(ruI d.rules s).length){r:Rule}(hf:nth d.rules (nth (ruI d.rules s) k)=r)(h:goB x r.guards at_=true):rulW d x S at_ s (k+1)=rulW d x S at_ s k++(S (at_+r.eat.toNat) r.to_.toNat).map (CM x r.out r.guards at_++·):=by
 rw[rulW,take_at hk,Dd,CL,hf,Ae h,toW,hf];rfl
theorem X0(hk:k<(ruI d.rules s).length){r:Rule}(hf:nth d.rules (nth (ruI d.rules s) k)=r)(h:goB x r.guards at_=false):rulW d x S at_ s (k+1)=rulW d x S at_ s k:=by
 rw[rulW,take_at hk,Dd,CL,hf,Ac (by rw[h];simp),A5];rfl
theorem Zv:(finW d x at_ s k).length<=k:=by
 induction k with
 |zero=>simp[finW]
 |succ k ih =>
  rcases Ah k (fiI d.finals s).length with h|h
  ·rw[finW,take_at h,Dd,An,CL]
   rw[finW] at ih;split
   ·rw[List.length_singleton];omega
   ·rw[List.length_nil];omega
  ·rw[finW,Al (by omega)]
   rw[finW,Al h] at ih;omega
theorem JW{w:List Int}:w∈finW d x at_ s (fiI d.finals s).length↔∃f∈d.finals,f.from_=(s:Nat)/\(f.guards.length+at_=x.length/\goB x f.guards at_=true)/\w=CM x f.out f.guards at_:=by
 rw[finW,A3,Cs];constructor
 ·rintro⟨i,hi,hw⟩
  obtain⟨i1,i2⟩:=P8.1 hi;split at hw
  ·rename_i h
   exact⟨_,AL i1,i2,h,by simpa using hw⟩
  ·cases hw
 ·rintro⟨f,hf,h1,h2,rfl⟩
  obtain⟨i,hi,rfl⟩:=Bm hf;have e:nth d.finals i=d.finals[i]:=Fq hi;exact⟨i,P8.2 ⟨hi,by rw[e];exact h1⟩,by rw[e,Ae h2];simp⟩
theorem NC{w:List Int}:w∈rulW d x S at_ s (ruI d.rules s).length↔∃r∈d.rules,r.from_=(s:Nat)/\goB x r.guards at_=true/\∃v∈S (at_+r.eat.toNat) r.to_.toNat,w=CM x r.out r.guards at_++v:=by
 rw[rulW,A3,Cs];constructor
 ·rintro⟨i,hi,hw⟩
  obtain⟨i1,i2⟩:=G1.1 hi;split at hw
  ·rename_i h
   obtain⟨v,hv,rfl⟩:=Ar.1 hw;exact⟨_,AL i1,i2,h,v,hv,rfl⟩
  ·cases hw
 ·rintro⟨r,hr,h1,h2,v,hv,rfl⟩
  obtain⟨i,hi,rfl⟩:=Bm hr;have e:nth d.rules i=d.rules[i]:=Fq hi;refine⟨i,G1.2 ⟨hi,by rw[e];exact h1⟩,?_⟩;rw[e,Ae h2,toW,e];exact Ar.2 ⟨v,hv,rfl⟩
theorem z86:J1 (allW d x S at_ s)=J1 (outL d x (λa t=>S a t.toNat) at_ (s:Nat)):=by
 refine (Zm (JU _) λw=>?_);rw[J2,allW,Am,JW,NC,outL,Am,Ar,Cs];constructor
 ·rintro (⟨f,hf,rfl⟩|⟨r,hr,hw⟩)
  ·obtain⟨h1,h2⟩:=AW.1 hf
   simp only[Ab,Ad] at h2;exact .inl ⟨f,h1,h2.1,h2.2,rfl⟩
  ·obtain⟨h1,h2⟩:=AW.1 hr
   simp only[Ab,Ad] at h2;obtain⟨v,hv,rfl⟩:=Ar.1 hw;exact .inr ⟨r,h1,h2.1,h2.2,v,hv,rfl⟩
 ·rintro (⟨f,h1,h2,h3,rfl⟩|⟨r,h1,h2,h3,v,hv,rfl⟩)
  ·exact .inl ⟨f,AW.2 ⟨h1,by simp[h2,h3.1,h3.2]⟩,rfl⟩
  ·exact .inr ⟨r,AW.2 ⟨h1,by simp[h2,h3]⟩,Ar.2 ⟨v,hv,rfl⟩⟩
end
def FR(o:Option (List Int))(w:List Int):Option (List Int):=match o with
 |none=>some w
 |some m=>if cmpL w m<0 then some w else some m
structure Ko(C:List (List Int))(o:Option (List Int)):Prop where
 no:o=none->C=[]
 yes:∀m,o=some m->m∈C/\∀c∈C,ltW c m=false
theorem z1x:Ko [] none:=⟨λ_=>rfl,λm h=>(by cases h)⟩
theorem P9{C:List (List Int)}{o:Option (List Int)}(h:Ko C o)(w:List Int):Ko (C++[w]) (FR o w):=by
 cases o with
 |none =>
  rw[h.no rfl];refine⟨λh=>(by cases h),λm hm=>?_⟩;obtain rfl:w=m:=by simpa [FR] using hm
  exact⟨by simp,λc hc=>by rw[show c=w by simpa using hc];exact Fa _⟩
 |some m =>
  obtain⟨h1,h2⟩:=h.yes m rfl;simp only[FR];split
  ·rename_i hlt
   have hlt:=(P6 _ _).1 hlt;refine⟨λh=>(by cases h),λm2 hm=>?_⟩;obtain rfl:w=m2:=by simpa using hm
   refine⟨by simp,λc hc=>?_⟩;rcases Am.1 hc with hc|hc
   ·cases hcw:ltW c w with
    |false=>rfl
    |true=>have:=Gb _ _ _ hcw hlt;rw[h2 c hc] at this;cases this
   ·rw[show c=w by simpa using hc];exact Fa _
  ·rename_i hlt
   have hlt:ltW w m=false:=by
    cases hh:ltW w m with
    |false=>rfl
    |true=>exact absurd ((P6 _ _).2 hh) hlt
   refine⟨λh=>(by cases h),λm2 hm=>?_⟩;obtain rfl:m=m2:=by simpa using hm
   refine⟨by simp[h1],λc hc=>?_⟩;rcases Am.1 hc with hc|hc
   ·exact h2 c hc
   ·rw[show c=w by simpa using hc];exact hlt
theorem z1y{C M:List (List Int)}{o:Option (List Int)}(h:Ko C o)(hM:Hx M)(h1:∀c∈C,c∈M)(h2:∀w∈M,∃c∈C,c=w\/ltW c w=true):o=M.head? := by
 cases o with
 |none =>
  have hC:=h.no rfl;cases M with
  |nil=>rfl
  |cons w M=>obtain⟨c,hc,_⟩:=h2 w (by simp);rw[hC] at hc;cases hc
 |some m =>
  obtain⟨k1,k2⟩:=h.yes m rfl;cases M with
  |nil=>have:=h1 m k1;cases this
  |cons w M =>
   rw[Hx,A9] at hM;show some m=some w;congr 1;rcases Ai.1 (h1 m k1) with e|hm
   ·exact e
   ·exfalso
    have hwm:=hM.1 m hm;obtain⟨c,hc,e|e⟩:=h2 w (by simp)
    ·subst e
     rw[k2 c hc] at hwm;cases hwm
    ·have:=Gb _ _ _ e hwm
     rw[k2 c hc] at this;cases this
theorem zkj(h:List Int)(a b:List Int):ltW (h++a) (h++b)=ltW a b:=by
 induction h with
 |nil=>rfl
 |cons y h ih=>rw[List.cons_append,List.cons_append,ltW,Ac (Int.lt_irrefl _),Ac (Int.lt_irrefl _),ih]
section
variable {d:Desc}{x:List Int}{n:Nat}{ord:List Nat}{L:Nat->Nat->Bool}{at_ j:Nat}
structure LeaI(d:Desc)(x:List Int)(L:Nat->Nat->Bool)(ord:List Nat)(at_ j:Nat)(B:Nat->Nat->Option (List Int)):Prop where
 past:∀a t,a<=x.length->L a t=true->Past ord at_ j a t->B a t=(outW d x a t).head?
 rest:∀a t,¬Past ord at_ j a t->B a t=none
variable {B:Nat->Nat->Option (List Int)}
theorem z87:LeaI d x L ord x.length 0 λ_ _=>none:=by
 refine⟨λa t ha _ hp=>?_,λ_ _ _=>rfl⟩;rcases hp with h|⟨_,h⟩
 ·omega
 ·simp at h
theorem z88(h:LeaI d x L ord at_ j B)(hj:j<ord.length)(ho:L at_ (nth ord j)=false):LeaI d x L ord at_ (j+1) B:=by
 refine⟨λa t ha hl hp=>?_,λa t hn=>h.rest a t λhp=>hn ?_⟩
 ·rcases GQ hj hp with h1|⟨rfl,rfl⟩
  ·exact h.past a t ha hl h1
  ·rw[ho] at hl;cases hl
 ·rcases hp with hp|⟨h1,hp⟩
  ·exact .inl hp
  ·exact .inr ⟨h1,by rw[take_at hj];exact BE _ hp⟩
theorem zdy(h:LeaI d x L ord (at_+1) n B)(hl:LivE d x n L)(ht:Topo d.rules n ord):LeaI d x L ord at_ 0 B:=⟨λa t ha hlt hp=>h.past a t ha hlt (NB (C5 ht) ((ht.all t).2 (hl.lead a t hlt).1) hp),λa t hn=>h.rest a t λhp=>hn (by
 rcases hp with hp|⟨h1,hp⟩
 ·exact .inl (by omega)
 ·exact .inl (by omega))⟩
theorem z89(h:LeaI d x L ord at_ j B)(hl:LivE d x n L)(hg:Goes d n)(ht:Topo d.rules n ord)(hj:j<n)(ha:at_<=x.length)(hlv:L at_ (nth ord j)=true){o:Option (List Int)}(ho:Ko (allW d x (λa t=>(B a t).toList) at_ (nth ord j)) o):LeaI d x L ord at_ (j+1) (setP B at_ (nth ord j) o):=by
 have hol:=C5 ht;have hO:=Hy hg ht (x:=x) (a:=at_) (t:=nth ord j) ha (ht.all _ |>.1 (AL (by omega)))
 have key:o=(outW d x at_ (nth ord j:Nat)).head? := by
  refine z1y ho hO.1 (λc hc=>?_) λw hw=>?_
  ·rw[hO.2,JV]
   rw[allW,Am,JW,NC] at hc;rcases hc with hc|⟨r,hr,hf,hgo,v,hv,rfl⟩
   ·exact .inl hc
   ·refine .inr ⟨r,hr,hf,hgo,v,?_,rfl⟩
    obtain⟨_,htt,e1,e2⟩:=hg.r r hr;have hle:=FE hgo;rw[h.past _ _ (by omega) (hl.clos _ _ hlv r hr hf hgo) (IM hg ht hj hr hf),Option.mem_toList] at hv;have h2:=Hy hg ht (x:=x) (a:=at_+r.eat.toNat) (t:=r.to_.toNat) (by omega) (by omega);have:=(h2.2 v).1 (List.mem_of_mem_head? hv)
    rwa [Bl htt.1] at this
  ·rw[hO.2,JV] at hw
   rcases hw with hw|⟨r,hr,hf,hgo,v,hv,rfl⟩
   ·exact⟨w,by rw[allW,Am,JW];exact .inl hw,.inl rfl⟩
   ·obtain⟨_,htt,e1,e2⟩:=hg.r r hr
    have hle:=FE hgo;have h2:=Hy hg ht (x:=x) (a:=at_+r.eat.toNat) (t:=r.to_.toNat) (by omega) (by omega);have hv2:=(h2.2 v).2 (by rw[Bl htt.1];exact hv);have hB:=h.past _ _ (by omega) (hl.clos _ _ hlv r hr hf hgo) (IM hg ht hj hr hf)
    obtain⟨m,hm,hlt⟩:∃m,(outW d x (at_+r.eat.toNat) (r.to_.toNat:Nat)).head? = some m/\(m=v\/ltW m v=true):=by
     have hs:=h2.1;revert hv2 hs;cases outW d x (at_+r.eat.toNat) (r.to_.toNat:Nat) with
     |nil=>intro hv2;cases hv2
     |cons m M =>
      intro hv2 hs;rw[Hx,A9] at hs;refine⟨m,rfl,?_⟩;rcases Ai.1 hv2 with e|e
      ·exact .inl e.symm
      ·exact .inr (hs.1 v e)
    refine⟨CM x r.out r.guards at_++m,?_,?_⟩
    ·rw[allW,Am,NC]
     exact .inr ⟨r,hr,hf,hgo,m,by rw[hB,hm];simp,rfl⟩
    ·rcases hlt with rfl|hlt
     ·exact .inl rfl
     ·exact .inr (by rw[zkj];exact hlt)
 refine⟨λa t hal hlt hp=>?_,λa t hn=>?_⟩
 ·simp only[setP]
  by_cases e:a=at_/\t=nth ord j
  ·rw[Ae e]
   obtain⟨rfl,rfl⟩:=e;exact key
  ·rw[Ac e]
   rcases GQ (by omega) hp with h1|h1
   ·exact h.past a t hal hlt h1
   ·exact absurd h1 e
 ·simp only[setP]
  rw[Ac]
  ·refine h.rest a t λhp=>hn ?_
   rcases hp with hp|⟨h1,hp⟩
   ·exact .inl hp
   ·exact .inr ⟨h1,by rw[take_at (by omega)];exact BE _ hp⟩
  ·rintro⟨rfl,rfl⟩
   exact hn (.inr ⟨rfl,by rw[take_at (by omega)];simp⟩)
theorem Zw(hnd:ord.Nodup)(hj:j<ord.length):¬Past ord at_ j at_ (nth ord j):=by
 rintro (h|⟨_,h⟩)
 ·omega
 ·rw[<-C6 j ord,CH] at hnd
  exact hnd.2.2 _ h _ (by rw[drop_at hj];simp) rfl
theorem zdz(h:LeaI d x L ord 0 n B)(hl:LivE d x n L)(ht:Topo d.rules n ord)(hs:0<=d.start/\d.start<n):B 0 d.start.toNat=(outW d x 0 d.start).head? := by
 have hst:((d.start.toNat:Nat):Int)=d.start:=Bl hs.1;have h1:=h.past 0 d.start.toNat (Aw _) hl.start (.inr ⟨rfl,by rw[Al (by rw[C5 ht];omega)];exact (ht.all _).2 (by omega)⟩)
 rwa [hst] at h1
def LefI(d:Desc)(x y:List Int)(L:Nat->Nat->Bool)(ord:List Nat)(at_ j:Nat)(M:Nat->Nat->Nat->Bool):Prop :=
 ∀a t,a<=x.length->L a t=true->Past ord at_ j a t->∀m,m<=y.length->(M a t m=true↔y.drop (y.length-m)∈outW d x a t)
def HH(y w:List Int)(then_:Nat->Bool)(m:Nat):Bool:=decide (w.length<=m)&&(decide ((y.drop (y.length-m)).take w.length=w)&&then_ (m-w.length))
variable {y:List Int}{M:Nat->Nat->Nat->Bool}
theorem PD{w:List Int}{th:Nat->Bool}{m:Nat}(hm:m<=y.length){T:List Int->Prop}(hT:∀k,k<=y.length->(th k=true↔T (y.drop (y.length-k)))):HH y w th m=true↔∃v,T v/\y.drop (y.length-m)=w++v:=by
 have hl:(y.drop (y.length-m)).length=m:=by rw[List.length_drop];omega
 simp only[HH,Ab,Ad];constructor
 ·rintro⟨h1,h2,h3⟩
  refine⟨_,(hT _ (by omega)).1 h3,?_⟩;have h4:=C6 w.length (y.drop (y.length-m));rw[h2,E5,show y.length-m+w.length=y.length-(m-w.length) by omega] at h4;exact h4.symm
 ·rintro⟨v,h1,h2⟩
  have hwl:w.length+v.length=m:=by rw[<-hl,h2,An]
  refine⟨by omega,by rw[h2,D2 rfl],(hT _ (by omega)).2 ?_⟩;have h3:(y.drop (y.length-m)).drop w.length=v:=by rw[h2,List.drop_left' rfl]
  rw[E5,show y.length-m+w.length=y.length-(m-w.length) by omega] at h3
  rwa [h3]
theorem z8a{M:Nat->Nat->Nat->Bool}:LefI d x y L ord x.length 0 M:=λa t ha _ hp=>by
 rcases hp with h|⟨_,h⟩
 ·omega
 ·simp at h
theorem z8b(h:LefI d x y L ord at_ j M)(hj:j<ord.length)(ho:L at_ (nth ord j)=false):LefI d x y L ord at_ (j+1) M:=λa t ha hl hp=>by
 rcases GQ hj hp with h1|⟨rfl,rfl⟩
 ·exact h a t ha hl h1
 ·rw[ho] at hl;cases hl
theorem ze0(h:LefI d x y L ord (at_+1) n M)(hl:LivE d x n L)(ht:Topo d.rules n ord):LefI d x y L ord at_ 0 M:=λa t ha hlt hp=>h a t ha hlt (NB (C5 ht) ((ht.all t).2 (hl.lead a t hlt).1) hp)
def mayF(d:Desc)(x y:List Int)(at_ s k:Nat)(m:Nat):Bool:=(finW d x at_ s k).any λw=>decide (y.drop (y.length-m)=w)
def mayR(d:Desc)(x y:List Int)(M:Nat->Nat->Nat->Bool)(at_ s k:Nat)(m:Nat):Bool:=mayF d x y at_ s (fiI d.finals s).length m ||
 ((ruI d.rules s).take k).any λi=>goB x (nth d.rules i).guards at_&&HH y (CM x (nth d.rules i).out (nth d.rules i).guards at_) (M (at_+(nth d.rules i).eat.toNat) (nth d.rules i).to_.toNat) m
theorem z8c(h:LefI d x y L ord at_ j M)(hl:LivE d x n L)(hg:Goes d n)(ht:Topo d.rules n ord)(hj:j<n)(ha:at_<=x.length)(hlv:L at_ (nth ord j)=true):LefI d x y L ord at_ (j+1) (setP M at_ (nth ord j) (mayR d x y M at_ (nth ord j) (ruI d.rules (nth ord j)).length)):=by
 have hol:=C5 ht;have hO:=Hy hg ht (x:=x) (a:=at_) (t:=nth ord j) ha (ht.all _ |>.1 (AL (by omega)))
 have key:∀m,m<=y.length->(mayR d x y M at_ (nth ord j) (ruI d.rules (nth ord j)).length m=true↔y.drop (y.length-m)∈outW d x at_ (nth ord j:Nat)):=λm hm=>by
  rw[hO.2,JV,mayR,CV,mayF,B8,A3,B8];refine or_congr ?_ ?_
  ·constructor
   ·rintro⟨w,hw,e⟩
    obtain rfl:=of_decide_eq_true e;exact JW.1 hw
   ·intro hw
    exact⟨_,JW.2 hw,A7 rfl⟩
  ·have hT:∀r∈d.rules,r.from_=(nth ord j:Nat)->goB x r.guards at_=true->∀k,k<=y.length->(M (at_+r.eat.toNat) r.to_.toNat k=true↔RelW d x (at_+r.eat.toNat) r.to_ (y.drop (y.length-k))):=λr hr hf hgo k hk=>by
    obtain⟨_,htt,e1,e2⟩:=hg.r r hr;have hle:=FE hgo;have h2:=Hy hg ht (x:=x) (a:=at_+r.eat.toNat) (t:=r.to_.toNat) (by omega) (by omega);rw[h _ _ (by omega) (hl.clos _ _ hlv r hr hf hgo) (IM hg ht hj hr hf) k hk,h2.2,Bl htt.1]
   constructor
   ·rintro⟨i,hi,e⟩
    obtain⟨i1,i2⟩:=G1.1 hi;rw[Ab] at e;exact⟨_,AL i1,i2,e.1,(PD hm (hT _ (AL i1) i2 e.1)).1 e.2⟩
   ·rintro⟨r,hr,hf,hgo,hv⟩
    have h3:=(PD (w:=CM x r.out r.guards at_) hm (hT r hr hf hgo)).2 hv;obtain⟨i,hi,rfl⟩:=Bm hr;have e:nth d.rules i=d.rules[i]:=Fq hi;refine⟨i,G1.2 ⟨hi,by rw[e];exact hf⟩,?_⟩;rw[e,hgo,h3];rfl
 intro a t hal hlt hp m hm;simp only[setP];by_cases e:a=at_/\t=nth ord j
 ·rw[Ae e]
  obtain⟨rfl,rfl⟩:=e;exact key m hm
 ·rw[Ac e]
  rcases GQ (by omega) hp with h1|h1
  ·exact h a t hal hlt h1 m hm
  ·exact absurd h1 e
theorem ze1(h:LefI d x y L ord 0 n M)(hl:LivE d x n L)(ht:Topo d.rules n ord)(hs:0<=d.start/\d.start<n):M 0 d.start.toNat y.length=decide (y∈outW d x 0 d.start):=by
 have hst:((d.start.toNat:Nat):Int)=d.start:=Bl hs.1;have h1:=h 0 d.start.toNat (Aw _) hl.start (.inr ⟨rfl,by rw[Al (by rw[C5 ht];omega)];exact (ht.all _).2 (by omega)⟩) y.length (Af _);rw[hst,Nat.sub_self,Cd] at h1;rw[BN,h1,Ad]
end
set_option maxRecDepth 100000
theorem Ty{σ:Type}(d:Desc)(x:List Int){n:Nat}{ord:List Nat}{L:Nat->Nat->Bool}(RU FI:AV)(hRU:RU.pure=true)(hFI:FI.pure=true)(hdn:d.states=n)(hn:n<=1024)(hx:x.length<=1024)(ht:Topo d.rules n ord)
 (f:Nat) (caps:List AV) (N:Nat) (heap:σ->List Grp) (hN:∀s,(heap s).length=N) (hcl:∀s,∀G∈heap s,ltL N G.xs) (hcaps:ltL N caps)
 (Inv:Nat->Nat->σ->Prop) (s0:σ) (h0:Inv x.length 0 s0)
 (call:∀a j s,a<=x.length->j<n->Inv a j s->L a (nth ord j)=true->BB Tryz.prog f (.int .i64 a::.int .i64 (nth ord j:Nat)::caps) (Abs.hl (heap s)) λy H'=>y=.tup []/\∃s',H'=Abs.hl (heap s')/\Inv a (j+1) s')
 (skip:∀a j s,a<=x.length->j<n->Inv a j s->L a (nth ord j)=false->Inv a (j+1) s)
 (row:∀a s,a+1<=x.length->Inv (a+1) n s->Inv a 0 s) :
 BB Tryz.prog 61 [Ct d x RU FI (.lst 1 (ord.map e1)) (.lst 1 (lvB n ((x.length+1) * n) L)),.fn f caps] (Abs.hl (heap s0)) λy H'=>y=.tup []/\∃s,H'=Abs.hl (heap s)/\Inv 0 n s:=by
 have pR:=BF d.rules;have pFi:=B9 d.finals;have pX:A6 (x.map (AV.int .i32))=true:=AE .i32 _;have pO:A6 (ord.map e1)=true:=CU (λ_=>rfl) _;have hol:=C5 ht;have lL:(lvB n ((x.length+1) * n) L).length=(x.length+1) * n:=IL;have pL:A6 (lvB n ((x.length+1) * n) L)=true:=HE;have hmx:(x.length+1) * n<=1025 * 1024:=B6 (by omega) hn;have pN:(Ct d x RU FI (.lst 1 (ord.map e1)) (.lst 1 (lvB n ((x.length+1) * n) L))).pure=true:=by simp[AV.pure,A6,pR,pFi,pX,pO,pL,hRU,hFI]
 have aL:∀a t,a<=x.length->t<n->(lvB n ((x.length+1) * n) L).getD (a * n+t) .any=.bool (L a t):=λa t ha htn=>zfx htn (Et htn ha);have pl:∀a t,a<=x.length->t<n->a * n+t<(x.length+1) * n:=λa t ha htn=>Et htn ha;generalize hm:(x.length+1) * n=m at *;generalize hLV:lvB n m L=LV at *;refine Hj (KX Ml (W_T ?_));unfold Ia;(with_reducible repeat'(first|simp (disch:=omega) only[push_cast,↓zz,seval,pR,pFi,pX,pO,pL,hRU,hFI]|apply Aa|refine sp_ ?_ ?_<;>intro hc<;>push_cast at hc|omega|intro _))
 refine AQ (K5 (λ(q:Nat × σ)=>q.1<=x.length+1/\Hold ((q.1=0->Inv 0 n q.2)/\∀a,q.1=a+1->Inv a 0 q.2)) (λq=>q.1)
  (λq=>EI [(0,Ct d x RU FI (.lst 1 (ord.map e1)) (.lst 1 LV)),(1,.fn f caps),(4,.int .i64 ((q.1:Int)-1))]) (λq=>Abs.hl (heap q.2)) (x.length+1,s0) ⟨Af _,⟨⟨λh=>(by cases h),λa h=>?_⟩⟩⟩ ?_ ?_)
 ·obtain rfl:x.length=a:=by simpa using h
  exact h0
 ·refine G0 (gar:=[]) _ (A5 _).symm (Ee ((hN _).trans (hN _).symm)) (by rw[hN];exact hcl _) ?_
  rw[hN];refine⟨rfl,trivial,rfl,hcaps,?_,trivial,trivial⟩;show AV.int _ _=_;congr 1;simp only;omega
 rintro⟨k,s⟩ ⟨hk,⟨⟨hI0,hI⟩⟩⟩;simp only at hk hI0 hI ⊢;rcases Nat.eq_zero_or_pos k with rfl|hk0
 ·have hI0:=hI0 rfl
  refine W_T ?_;(with_reducible repeat'(first|simp (disch:=omega) only[push_cast,↓zz,seval,pR,pFi,pX,pO,pL,hRU,hFI]|apply Aa|refine sp_ ?_ ?_<;>intro hc<;>push_cast at hc|omega|intro _))
  all_goals exact⟨_,_,Ent.refl,rfl,s,rfl,hI0⟩
 ·obtain⟨a,rfl⟩:∃a,k=a+1:=⟨k-1,by omega⟩
  have hIa:=hI a rfl;clear hI0 hI;have ha:a<=x.length:=by omega
  refine W_T ?_;(with_reducible repeat'(first|simp (disch:=omega) only[push_cast,↓zz,seval,pR,pFi,pX,pO,pL,hRU,hFI]|apply Aa|refine sp_ ?_ ?_<;>intro hc<;>push_cast at hc|omega|intro _))
  refine AQ (K5 (λ(q:Nat × σ)=>q.1<=n/\Hold (Inv a q.1 q.2)) (λq=>n-q.1)
   (λq=>EI [(0,Ct d x RU FI (.lst 1 (ord.map e1)) (.lst 1 LV)),(1,.fn f caps),(4,.int .i64 a),(19,.lst 1 (ord.map e1)),(20,.int .i64 n),(21,.int .i64 q.1)]) (λq=>Abs.hl (heap q.2)) (0,s) ⟨Aw _,⟨hIa⟩⟩ ?_ ?_)
  ·refine G0 (gar:=[]) _ (A5 _).symm (Ee ((hN _).trans (hN _).symm)) (by rw[hN];exact hcl _) ?_
   rw[hN];have hO:ltV N (.lst 1 (ord.map e1)):=CE _ _ pO;refine⟨rfl,trivial,rfl,hcaps,?_,trivial,rfl,hO,?_,trivial,rfl,trivial,trivial⟩
   ·show AV.int _ _=_
    congr 1;omega
   ·show AV.int _ _=_
    congr 1;omega
  rintro⟨j,s1⟩ ⟨hj,⟨hI⟩⟩;simp only at hj hI ⊢;have hO:ltV N (.lst 1 (ord.map e1)):=CE _ _ pO;rcases Ah j n with hjn|hjn
  ·have aO:(ord.map e1).getD j .any=.int .i64 (nth ord j:Nat):=by simp[nth,List.getD,hol,hjn]
   have htn:nth ord j<n:=(ht.all _).1 (AL (by omega));have hcall:=call a j s1 ha hjn hI;have hskip:=skip a j s1 ha hjn hI;have aK:=aL a _ ha htn;have hpm:=pl a _ ha htn;generalize nth ord j=t at *;have hmul:((a:Int) * (n:Int))=((a * n:Nat):Int):=by norm_cast
   generalize hpe:a * n+t=p at *;generalize a * n=an at *;have hpi:(an:Int)+(t:Int)=(p:Int):=by omega
   cases hL:L a t with
   |true =>
    rw[hL] at aK;refine W_T ?_;(with_reducible repeat'(first|simp (disch:=omega) only[push_cast,↓zz,seval,pR,pFi,pX,pO,pL,hRU,hFI,aO,hdn,hmul,hpi,aK]|apply Aa|refine sp_ ?_ ?_<;>intro hc<;>push_cast at hc|omega|intro _));refine z7s (extra:=[]) (A5 _).symm (hcall hL) ?_ (by rw[hN];exact hcl _) ?_
    ·rw[hN];exact⟨trivial,trivial,hcaps⟩
    rintro y H' ⟨rfl,s2,rfl,hI2⟩;refine⟨_,rfl,by rw[hN,hN],trivial,by rw[hN];exact hcl _,?_⟩;rw[A5];(with_reducible repeat'(first|simp (disch:=omega) only[push_cast,↓zz,seval]|apply Aa|refine sp_ ?_ ?_<;>intro hc<;>push_cast at hc|omega|intro _));refine⟨(j+1,s2),G0 (gar:=[]) _ (A5 _).symm (Ee ((hN _).trans (hN _).symm)) (by rw[hN];exact hcl _) ?_,⟨by omega,⟨hI2⟩⟩,by simp only;omega⟩;rw[hN];exact⟨rfl,trivial,rfl,hcaps,rfl,trivial,rfl,hO,rfl,trivial,rfl,trivial,trivial⟩
   |false =>
    rw[hL] at aK;refine W_T ?_;(with_reducible repeat'(first|simp (disch:=omega) only[push_cast,↓zz,seval,pR,pFi,pX,pO,pL,hRU,hFI,aO,hdn,hmul,hpi,aK]|apply Aa|refine sp_ ?_ ?_<;>intro hc<;>push_cast at hc|omega|intro _));refine⟨(j+1,s1),G0 (gar:=[]) _ (A5 _).symm (Ee ((hN _).trans (hN _).symm)) (by rw[hN];exact hcl _) ?_,⟨by omega,⟨hskip hL⟩⟩,by simp only;omega⟩;rw[hN];exact⟨rfl,trivial,rfl,hcaps,rfl,trivial,rfl,hO,rfl,trivial,rfl,trivial,trivial⟩
  ·obtain rfl:j=n:=by omega
   refine W_T ?_;(with_reducible repeat'(first|simp (disch:=omega) only[push_cast,↓zz,seval,pR,pFi,pX,pO,pL,hRU,hFI]|apply Aa|refine sp_ ?_ ?_<;>intro hc<;>push_cast at hc|omega|intro _));refine⟨(a,s1),G0 (gar:=[]) _ (A5 _).symm (Ee ((hN _).trans (hN _).symm)) (by rw[hN];exact hcl _) ?_,⟨by omega,⟨⟨λh=>?_,λa' h=>?_⟩⟩⟩,by simp only;omega⟩
   ·rw[hN]
    exact⟨rfl,trivial,rfl,hcaps,rfl,trivial,trivial⟩
   ·have h:a=0:=h
    subst h;exact hI
   ·have h:a=a'+1:=h
    subst h;exact row a' s1 (by omega) hI
end Go.Proofs.YtbcjoeadpjfcfaaGreat
namespace Go.Proofs
open Go.Shelf
def Tryz.sortWd_ren:Go.Shelf.Ren:=⟨fun|6=>107|15=>139|14=>138|28=>162|29=>163|20=>154|21=>155|22=>156|23=>157|24=>158|25=>159|26=>160|27=>161|46=>176|47=>177|48=>178|49=>179|50=>180|57=>189|n=>n,fun|22=>42|24=>39|25=>130|3=>3|39=>187|0=>0|53=>205|55=>207|4=>4|46=>199|45=>198|50=>32|5=>5|9=>9|66=>216|70=>220|76=>224|77=>84|n=>n,fun|n=>n⟩
theorem Tryz.sortWd:Go.Proofs.SlLaysF.n6 Tryz.prog Tryz.sortWd_ren:={
 mixed:=by kernel_rfl
 f6:=⟨Tryz.f107.name,by decide,Tryz.func107.trans (congrArg some (by kernel_rfl))⟩
 f14:=⟨Tryz.f138.name,by decide,Tryz.func138.trans (congrArg some (by kernel_rfl))⟩
 f15:=Tryz.func139.trans (congrArg some (by kernel_rfl))
 f20:=⟨Tryz.f154.name,by decide,Tryz.func154.trans (congrArg some (by kernel_rfl))⟩
 f21:=⟨Tryz.f155.name,by decide,Tryz.func155.trans (congrArg some (by kernel_rfl))⟩
 f22:=⟨Tryz.f156.name,by decide,Tryz.func156.trans (congrArg some (by kernel_rfl))⟩
 f23:=⟨Tryz.f157.name,by decide,Tryz.func157.trans (congrArg some (by kernel_rfl))⟩
 f24:=⟨Tryz.f158.name,by decide,Tryz.func158.trans (congrArg some (by kernel_rfl))⟩
 f25:=⟨Tryz.f159.name,by decide,Tryz.func159.trans (congrArg some (by kernel_rfl))⟩
 f26:=⟨Tryz.f160.name,by decide,Tryz.func160.trans (congrArg some (by kernel_rfl))⟩
 f27:=⟨Tryz.f161.name,by decide,Tryz.func161.trans (congrArg some (by kernel_rfl))⟩
 f28:=Tryz.func162.trans (congrArg some (by kernel_rfl))
 f29:=Tryz.func163.trans (congrArg some (by kernel_rfl))
 f46:=⟨Tryz.f176.name,by decide,Tryz.func176.trans (congrArg some (by kernel_rfl))⟩
 f47:=Tryz.func177.trans (congrArg some (by kernel_rfl))
 f48:=Tryz.func178.trans (congrArg some (by kernel_rfl))
 f49:=⟨Tryz.f179.name,by decide,Tryz.func179.trans (congrArg some (by kernel_rfl))⟩
 f50:=⟨Tryz.f180.name,by decide,Tryz.func180.trans (congrArg some (by kernel_rfl))⟩
 f57:=⟨Tryz.f189.name,by decide,Tryz.func189.trans (congrArg some (by kernel_rfl))⟩
 t0:=Tryz.underlying0
 a0:=Tryz.isAgg0
 z0:=Tryz.sizeOf0
 v0:=Tryz.zeroValue0
 t3:=Tryz.underlying3
 a3:=Tryz.isAgg3
 z3:=Tryz.sizeOf3
 v3:=Tryz.zeroValue3
 t4:=Tryz.underlying4
 a4:=Tryz.isAgg4
 z4:=Tryz.sizeOf4
 v4:=Tryz.zeroValue4
 t5:=Tryz.underlying5
 a5:=Tryz.isAgg5
 z5:=Tryz.sizeOf5
 v5:=Tryz.zeroValue5
 t9:=Tryz.underlying9
 a9:=Tryz.isAgg9
 z9:=Tryz.sizeOf9
 v9:=Tryz.zeroValue9
 t22:=Tryz.underlying42
 a22:=Tryz.isAgg42
 z22:=Tryz.sizeOf42
 v22:=Tryz.zeroValue42
 a24:=Tryz.isAgg39
 z24:=Tryz.sizeOf39
 t25:=Tryz.underlying130
 a25:=Tryz.isAgg130
 z25:=Tryz.sizeOf130
 v25:=Tryz.zeroValue130
 t39:=Tryz.underlying187
 a39:=Tryz.isAgg187
 z39:=Tryz.sizeOf187
 v39:=Tryz.zeroValue187
 t45:=Tryz.underlying198
 a45:=Tryz.isAgg198
 z45:=Tryz.sizeOf198
 v45:=Tryz.zeroValue198
 t46:=Tryz.underlying199
 a46:=Tryz.isAgg199
 z46:=Tryz.sizeOf199
 v46:=Tryz.zeroValue199
 t50:=Tryz.underlying32
 a50:=Tryz.isAgg32
 z50:=Tryz.sizeOf32
 v50:=Tryz.zeroValue32
 t53:=Tryz.underlying205
 a53:=Tryz.isAgg205
 z53:=Tryz.sizeOf205
 v53:=Tryz.zeroValue205
 t55:=Tryz.underlying207
 a55:=Tryz.isAgg207
 z55:=Tryz.sizeOf207
 v55:=Tryz.zeroValue207
 t66:=Tryz.underlying216
 a66:=Tryz.isAgg216
 z66:=Tryz.sizeOf216
 v66:=Tryz.zeroValue216
 t70:=Tryz.underlying220
 a70:=Tryz.isAgg220
 z70:=Tryz.sizeOf220
 v70:=Tryz.zeroValue220
 t76:=Tryz.underlying224
 a76:=Tryz.isAgg224
 z76:=Tryz.sizeOf224
 v76:=Tryz.zeroValue224
 t77:=Tryz.underlying84
 a77:=Tryz.isAgg84
 z77:=Tryz.sizeOf84
 v77:=Tryz.zeroValue84 }
end Go.Proofs
set_option maxRecDepth 100000
namespace Go.Proofs.YtbcjoeadpjfcfaaGreat
open Abs O1 O2 O3 Go.Shelf Go.RowKit Go.Lib Go.Sort
def WV(S:MS):Type:={ p:List Int × Value // VRel S (A4 p.1) p.2/\p.1.length<=1000000000 }
instance (S:MS):Inhabited (WV S):=⟨⟨([],.slice none 0 0),⟨rfl,Nat.one_pos,none,0,[],rfl,⟨Af _,λ_=>rfl⟩,rfl,λh=>absurd rfl h⟩,Aw _⟩⟩
def encW(S:MS)(p:WV S):Value:=p.val.2
def cfW(S:MS)(p q:WV S):Int:=cmpL p.val.1 q.val.1
theorem ltCW(S:MS)(p q:WV S):ltOf (cfW S) p q=ltW p.val.1 q.val.1:=by
 unfold ltOf cfW;cases h:ltW p.val.1 q.val.1 with
 |true=>exact A7 ((P6 _ _).2 h)
 |false=>exact AM λhh=>by rw[(P6 _ _).1 hh] at h;cases h
theorem z1z(a b c:List Int)(h1:ltW a b=false)(h2:ltW b c=false):ltW a c=false:=by
 cases h:ltW a c with
 |false=>rfl
 |true =>
  exfalso;cases hba:ltW b a with
  |true=>have:=Gb b a c hba h;rw[h2] at this;cases this
  |false =>
   have e:=Iz a b h1 hba;subst e;rw[h2] at h;cases h
theorem swoW(S:MS):SWO (ltOf (cfW S)) where
 irrefl x:=by rw[ltCW];exact Fa _
 trans x y z h1 h2:=by rw[ltCW] at *;exact Gb _ _ _ h1 h2
 ntrans x y z h1 h2:=by rw[ltCW] at *;exact z1z _ _ _ h1 h2
theorem z8d:∀{a b:World},a.heap=b.heap->a.tape=b.tape->a.drawn=b.drawn->a.os=b.os->a.output=b.output->a=b
 |⟨_,_,_,_,_⟩,⟨_,_,_,_,_⟩,rfl,rfl,rfl,rfl,rfl=>rfl
theorem Kp{α:Type}[Inhabited α](enc:α->Value)(w:World)(b m:Nat)(d:Array α)(os:Array Obj):w.heap.size<=(sortWorld enc w b 0 m d os).heap.size:=by
 show _<=((w.heap.modify _ _)++os).size;rw[F6,CY];omega
theorem J6{α:Type}[Inhabited α](enc:α->Value)(w:World)(b m:Nat)(d:Array α)(os:Array Obj){k:Nat}(hk:k<w.heap.size)(hb:b≠k):(sortWorld enc w b 0 m d os).heap[k]? = w.heap[k]? := by
 show ((w.heap.modify _ _)++os)[k]? = _;rw[BG (by rw[CY];exact hk),D7,Ac hb]
theorem z2a(S:MS){H:Ax}(hS:SRel S H){blk:Nat}(hni:¬(S.im blk\/S.keep blk))(size:Nat):CmpLays1 Tryz.prog 77 #[] (encW S) (cfW S) blk 0 size S.w:=by
 intro m os dk _ x y;obtain⟨W,hW⟩:∃W,W=sortWorld (encW S) S.w blk 0 m dk os:=⟨_,rfl⟩;rw[<-hW];have hsz:S.w.heap.size<=W.heap.size:=by rw[hW];exact Kp ..
 have hkept:∀b,S.im b->W.heap[b]? = S.w.heap[b]? := λb hb=>by rw[hW];exact J6 _ _ _ _ _ _ (hS.im b (.inl hb)) λe=>hni (e ▸ .inl hb)
 have ev1:Evi S { S with w:=W }:=⟨hkept,λ_ h=>h,Af _,λ_ _=>Af _,λ_ _ _=>⟨rfl,rfl,rfl⟩⟩
 let S2:MS:=⟨W,S.im,λb=>b<W.heap.size,0,λ_=>0,λ_=>0,λ_=>0,λ_=>0,0⟩
 have down:∀p:WV S,VRel S2 (A4 p.val.1) p.val.2:=λp=>by
  have h:=VRel.moni ev1 _ p.property.1;rw[<-RZ (A4 p.val.1)] at h;exact RX (A:=S2) (B:={ S with w:=W }) (σ:=λg=>g) (m:=0) rfl (λb hb=>hb) (λg hg=>absurd hg (AP _)) (A4 p.val.1) trivial h
 have hS2:SRel S2 Ax.nil:=⟨rfl,λg hg=>absurd hg (AP _),λg _ hg=>absurd hg (AP _),λb hb=>hb.elim (λh=>AT (hS.im b (.inl h)) hsz) id⟩;refine ((J5 x.val.1 y.val.1 x.property.2 y.property.2).2 S2 [encW S x,encW S y] hS2 ⟨_,_,rfl,down x,_,_,rfl,down y,rfl⟩).mono λe w' hh=>?_;obtain⟨v,S',z,H',rfl,rfl,ev,_,hv,rfl,_⟩:=hh;have hv':v=.int .i64 (cmpL x.val.1 y.val.1):=hv;subst hv';have hsz2:W.heap.size<=S'.w.heap.size:=ev.size;refine⟨rfl,S'.w.drawn-W.drawn,S'.w.heap.extract W.heap.size S'.w.heap.size,z8d ?_ ev.tape.1 ?_ ev.os ev.output⟩
 ·show S'.w.heap=W.heap++_
  refine Array.ext_getElem? λi=>?_;rcases Ah i W.heap.size with hi|hi
  ·rw[BG hi]
   exact ev.kept i (.inr hi)
  ·rw[Array.getElem?_append_right hi,Array.getElem?_extract]
   rcases Ah i S'.w.heap.size with h2|h2
   ·rw[Ae (by omega)];congr 1;omega
   ·rw[Ac (by omega),CK (by omega)]
 ·show S'.w.drawn=W.drawn+(S'.w.drawn-W.drawn)
  have:=ev.tape.2;have h2:W.drawn<=S'.w.drawn:=this;omega
theorem R0{S:MS}:∀{l:List (List Int)}{vs:List Value},(∀w∈l,w.length<=1000000000)->AA S (l.map A4) vs->∃pl:List (WV S),pl.map (λp=>p.val.1)=l/\pl.map (encW S)=vs
 |[],vs,_,h=>⟨[],rfl,h.symm⟩
 |x::l,vs,hl,⟨v,r,hv,h1,h2⟩=>by
  obtain⟨pl,a,b⟩:=R0 (λw hw=>hl w (by simp[hw])) h2;exact⟨⟨(x,v),h1,hl x (by simp)⟩::pl,by show x::pl.map _=x::l;rw[a],by rw[hv,<-b];rfl⟩
theorem VI{S:MS}(p:WV S):∃a n c,encW S p=.slice a n c:=by
 obtain⟨_,_,a,cap,vs,hv,_⟩:=p.property.1;exact⟨a,_,cap,hv⟩
theorem oneW(S:MS):OneCell (encW S):=λp=>by
 obtain⟨a,n,c,h⟩:=VI p;rw[h];rfl
theorem Zx{S:MS}(p:WV S):(encW S p).cells=#[encW S p]:=by
 obtain⟨a,n,c,h⟩:=VI p;rw[h];rfl
theorem ze2{S:MS}{b:Nat}{cells:Array Value}{T:TypeId}{pl:List (WV S)}(hb:S.w.heap[b]? = some (.cells cells T (0,0)))(hf:GA cells 1 (pl.map (encW S))):Holds (encW S) S.w b 0 pl.toArray:=by
 intro j hj;have hi:j<pl.length:=by simpa using hj
 have he:(pl.map (encW S))[j]? = some (encW S pl[j]):=by simp[hi]
 obtain⟨_,_,h3⟩:=hf _ _ he;have h4:=h3 0 Nat.one_pos;rw[Nat.mul_one,Nat.add_zero,Zx] at h4;have hg:pl.toArray[j]! = pl[j]:=by simp[hi]
 refine⟨?_,?_⟩
 ·rw[hg]
  simp only[World.cell?,hb,Ba,Option.isSome_none,Au,AZ,h4,id];rfl
 ·simp[World.frozen?,hb]
theorem zkk{S:MS}{b n:Nat}{cells:Array Value}{T:TypeId}{d:Array (WV S)}{os:Array Obj}(hb:S.w.heap[b]? = some (.cells cells T (0,0)))(hsz:d.size<=cells.size):
 ∃cells',(sortWorld (encW S) S.w b 0 n d os).heap[b]? = some (.cells cells' T (0,0))/\cells'.size=cells.size/\GA cells' 1 (d.toList.map (encW S)):=by
 have hlt:b<S.w.heap.size:=(Be.1 hb).1;refine⟨putCells (encW S) 0 d cells,?_,by simp[putCells],λi v hv=>?_⟩
 ·show ((S.w.heap.modify b _)++os)[b]? = _
  rw[BG (by rw[CY];exact hlt),D7,Ae rfl,hb];rfl
 ·rw[DF] at hv
  obtain⟨x,hx,rfl⟩:=Ag.1 hv;have hi:i<d.size:=by have:=(Bi.1 hx).1;simpa using this
  refine⟨by rw[Zx];rfl,λc hc=>?_,λj hj=>?_⟩
  ·rw[Zx] at hc
   obtain rfl:c=encW S x:=by simpa using hc
   exact oneW S x
  ·obtain rfl:j=0:=by omega
   have hlt2:i<cells.size:=by omega
   have hd:d[i]! = x:=by
    rw[EG] at hx;rw[getElem!_pos d i hi];exact (Be.1 hx).2
   rw[Nat.mul_one,Nat.add_zero,putCells,EF,Eb hlt2];simp only[Option.map_some,Aw,E6,Ba,Nat.sub_zero];rw[Ae hi,hd,Zx];rfl
def X3(l:List (List Int)):Prop:=l.Pairwise λa b=>ltW b a=false
theorem z8e{S:MS}{d:Array (WV S)}(h:SortedIn (ltOf (cfW S)) 0 d.size d):X3 (d.toList.map λp=>p.val.1):=by
 rw[X3,DG,BW];intro i j hi hj hij;have hi':i<d.size:=by simpa using hi
 have hj':j<d.size:=by simpa using hj
 have:=h i j (Aw _) hij hj';rw[ltCW,getElem!_pos d j hj',getElem!_pos d i hi'] at this;simpa using this
theorem z8f{S:MS}:∀(pl:List (WV S)),AA S (pl.map λp=>A4 p.val.1) (pl.map (encW S))
 |[]=>rfl
 |p::pl=>⟨_,_,rfl,p.property.1,z8f pl⟩
theorem zkl{H:Ax}{g ver:Nat}{ex:Bool}{l:List (List Int)}(hg:g<H.n)(hG:H.at_ g=⟨1,ver,ex,l.map A4⟩)(h1:l≠[])(hl:l.length<4611686018427387904)(hw:∀w∈l,w.length<=1000000000):
 BB Tryz.prog 107 [.ref g ver 0 l.length,.fn 77 []] H λy H'=>y=.tup []/\∃l':List (List Int),l'.Perm l/\X3 l'/\H'=H.set g ⟨1,ver,ex,l'.map A4⟩:=by
 have eg:∀args w,(callFunc 77 args).run Tryz.prog w=.ok (.enter 77 args) w:=enters_of Tryz.func77 (by kernel_rfl) rfl;refine⟨enters_of Tryz.func107 (by kernel_rfl) rfl,λS cargs hS hx=>?_⟩;obtain⟨v1,r1,rfl,⟨_,hgn,_,hv1⟩,v2,r2,rfl,⟨lb,rfl,rfl⟩,rfl⟩:=hx;have hgr:=hS.grp g hg;rw[hG] at hgr;obtain⟨a,cap',rfl,hcase⟩:=hv1 hgr.ver;have hpos:0<l.length:=by cases l;exact absurd rfl h1;simp
 obtain⟨rfl,rfl,hcap⟩:=hcase.resolve_right (λh=>by omega);have hlen:l.length<=S.cap g:=by have:=hgr.len (show 0<1 by decide);simpa using this
 obtain⟨⟨cells,T,vs,b1,b2,b3,b4⟩,hni⟩:=hgr.live (show 0<1 by decide) (by omega);obtain⟨pl,e1,rfl⟩:=R0 hw b3;have b2':cells.size=S.cap g * 1:=b2;have hpl:pl.length=l.length:=by rw[<-e1,Bh]
 have hblk:S.place g<S.w.heap.size:=(Be.1 b1).1;have hcon:=Any.slices_SortFunc Tryz.sortWd (encW S) (oneW S) (cfW S) (swoW S) 77 #[] (S.place g) 0 (S.cap g-0) pl.toArray S.w eg (z2a S hS hni _) (ze2 b1 b4) hblk (by simp;omega);change Calls Tryz.prog 107 _ _ _ at hcon;rw[BS,hpl] at hcon;rw[Dp];refine hcon.mono λe w' ⟨he,d',n,os,hp,hs,hw'⟩=>?_;subst he hw';obtain⟨q1,q2,q3⟩:=hp;have q1:d'.size=l.length:=by simpa [hpl] using q1
 have hperm:(d'.toList.map λp=>p.val.1).Perm l:=by
  rw[DN,DN] at q3;have q4:d'.toList.Perm pl:=by simpa [List.extract,q1,hpl,Al (show d'.toList.length<=l.length by simp[q1]),Al (show pl.length<=l.length by omega)] using q3
  rw[<-e1];exact q4.map _
 rw[<-q1] at hs;obtain⟨cells',c1,c2,c3⟩:=zkk (n:=n) (d:=d') (os:=os) b1 (by omega);have hoth:∀b,b≠S.place g->b<S.w.heap.size->(sortWorld (encW S) S.w (S.place g) 0 n d' os).heap[b]? = S.w.heap[b]? := λb hb hlt=>J6 _ _ _ _ _ _ hlt (CW hb);have ev1:Evi S { S with w:=sortWorld (encW S) S.w (S.place g) 0 n d' os }:=⟨λb hb=>hoth b (λe=>hni (e ▸ .inl hb)) (hS.im b (.inl hb)),λ_ h=>h,Af _,λ_ _=>Af _,λ_ _ _=>⟨rfl,rfl,rfl⟩⟩;have hmm:(d'.toList.map λp=>p.val.1).map A4=d'.toList.map λp=>A4 p.val.1:=by rw[Do];rfl
 have hh:=hS.moved hg (by rw[hG];exact (show 0<1 by decide)) (sortWorld (encW S) S.w (S.place g) 0 n d' os) (S.place g) (S.cap g) ⟨1,ver,ex,(d'.toList.map λp=>p.val.1).map A4⟩ rfl ⟨rfl,EO _ _⟩ rfl
  (Kp ..)
  (λb hb hlt=>hoth b (λe=>hb ⟨by omega,e⟩) hlt)
  (.inl ⟨by omega,rfl⟩) (λ_=>⟨cells',T,_,c1,by rw[c2];exact b2',by rw[hmm];exact z8f _,c3⟩) (by simp[q1];exact hlen)
  (λhx=>by have:=hgr.full (show 0<1 by decide) hx;simp at this;simp[q1];exact this) (show 0<1 by decide) (by rw[hgr.ver];exact Af _) (λ_=>⟨rfl,rfl,by rw[hgr.wid]⟩)
 exact⟨_,_,.tup [],_,rfl,rfl,hh.1,hh.2,⟨[],rfl,rfl⟩,rfl,_,hperm,z8e hs,rfl⟩
set_option maxRecDepth 100000
theorem ze3(l:List (List Int)):BB Tryz.prog 154 [.ref 0 1 0 0,.int .i64 0,.int .i64 0,.fn 77 []] (Abs.hl [⟨1,1,true,l.map A4⟩]) λy H'=>y=.tup []/\H'=Abs.hl [⟨1,1,true,l.map A4⟩]:=by
 refine Gz (b:=1) Gr rfl ?_;unfold Eu;(with_reducible repeat'(first|simp (disch:=omega) only[push_cast,↓zz,seval]|apply Aa|refine sp_ ?_ ?_<;>intro hc<;>push_cast at hc|omega|intro _))
 refine AQ (AX (λ(_:Unit)=>True) (λ_=>0) (λ_=>[(0,.ref 0 1 0 0),(1,.int .i64 0),(2,.int .i64 0),(3,.fn 77 []),(8,.int .i64 1)])
  (λ_=>[⟨1,1,true,l.map A4⟩]) (λ_ _=>[]) () trivial ?_ ?_)
 ·(with_reducible repeat'(first|simp (disch:=omega) only[push_cast,↓zz,seval]|apply Aa|refine sp_ ?_ ?_<;>intro hc<;>push_cast at hc|omega|intro _))
 rintro _ _;refine W_T ?_;(with_reducible repeat'(first|simp (disch:=omega) only[push_cast,↓zz,seval]|apply Aa|refine sp_ ?_ ?_<;>intro hc<;>push_cast at hc|omega|intro _))
 all_goals trace_state
theorem pdqW0(l:List (List Int)):BB Tryz.prog 138 [.ref 0 1 0 0,.int .i64 0,.int .i64 0,.int .i64 0,.fn 77 []] (Abs.hl [⟨1,1,true,l.map A4⟩]) λy H'=>y=.tup []/\H'=Abs.hl [⟨1,1,true,l.map A4⟩]:=by
 refine Gz (b:=1) Hb rfl ?_;unfold F1;(with_reducible repeat'(first|simp (disch:=omega) only[push_cast,↓zz,seval]|apply Aa|refine sp_ ?_ ?_<;>intro hc<;>push_cast at hc|omega|intro _))
 refine AQ (AX (λ(_:Unit)=>True) (λ_=>0) (λ_=>[(0,.ref 0 1 0 0),(1,.int .i64 0),(2,.int .i64 0),(3,.int .i64 0),(4,.fn 77 []),(10,.bool true),(11,.bool true)])
  (λ_=>[⟨1,1,true,l.map A4⟩]) (λ_ _=>[]) () trivial ?_ ?_)
 ·(with_reducible repeat'(first|simp (disch:=omega) only[push_cast,↓zz,seval]|apply Aa|refine sp_ ?_ ?_<;>intro hc<;>push_cast at hc|omega|intro _))
 rintro _ _;refine W_T ?_;(with_reducible repeat'(first|simp (disch:=omega) only[push_cast,↓zz,seval]|apply Aa|refine sp_ ?_ ?_<;>intro hc<;>push_cast at hc|omega|intro _));refine BB.mono (ze3 l) ?_;rintro y H' ⟨rfl,rfl⟩;(with_reducible repeat'(first|simp (disch:=omega) only[push_cast,↓zz,seval]|apply Aa|refine sp_ ?_ ?_<;>intro hc<;>push_cast at hc|omega|intro _))
 all_goals trace_state
theorem zol(l:List (List Int)):BB Tryz.prog 107 [.ref 0 1 0 0,.fn 77 []] (Abs.hl [⟨1,1,true,l.map A4⟩]) λy H'=>y=.tup []/\H'=Abs.hl [⟨1,1,true,l.map A4⟩]:=by
 refine Gz (b:=1) GV rfl ?_;unfold Fw;(with_reducible repeat'(first|simp (disch:=omega) only[push_cast,↓zz,seval]|apply Aa|refine sp_ ?_ ?_<;>intro hc<;>push_cast at hc|refine ee zbw ?_|(refine cc zbw ?_;(simp(disch:=omega)only[push_cast,↓zz,seval]);(fail_if_success change False))|omega|intro _));refine BB.mono (pdqW0 l) ?_;rintro y H' ⟨rfl,rfl⟩;(with_reducible repeat'(first|simp (disch:=omega) only[push_cast,↓zz,seval]|apply Aa|refine sp_ ?_ ?_<;>intro hc<;>push_cast at hc|omega|intro _))
 all_goals trace_state
theorem X4(l:List Int)(hl:l.length<=1000000000000):PC Tryz.prog 106 [A4 l] (A4 l):=by
 have hp:A6 (l.map (AV.int .i32))=true:=AE .i32 _;cases l with
 |nil =>
  refine zn5 ?_ ?_
  ·refine BA EX ?_
   unfold DY;(with_reducible repeat'(first|simp (disch:=omega) only[push_cast,↓zz,seval]|apply Aa|refine sp_ ?_ ?_<;>intro hc<;>push_cast at hc|omega|intro _))
  ·refine BA EX ?_
   unfold DY;(with_reducible repeat'(first|simp (disch:=omega) only[push_cast,↓zz,seval]|apply Aa|refine sp_ ?_ ?_<;>intro hc<;>push_cast at hc|omega|intro _))
 |cons a l =>
  have hne:((a::l).map (AV.int .i32)).isEmpty=false:=rfl;have hm0:¬(a::l)=[]:=by simp
  generalize (a::l)=m at *;refine BA EX ?_;unfold DY;(with_reducible repeat'(first|simp (disch:=omega) only[push_cast,↓zz,seval,hne,hp,hm0]|apply Aa|refine sp_ ?_ ?_<;>intro hc<;>push_cast at hc|omega|intro _))
  all_goals trace_state
theorem z8g(l:List (List Int))(hl:l.length<=1000000000)(hw:∀w∈l,w.length<=1000000000):PC Tryz.prog 67 [EW l] (EW (J1 l)):=by
 have pW:=BL l;refine BA Ww ?_;unfold Ow;(with_reducible repeat'(first|simp (disch:=omega) only[push_cast,↓zz,seval,pW]|apply Aa|refine sp_ ?_ ?_<;>intro hc<;>push_cast at hc|omega|intro _))
 refine AQ (AX (λ(k:Nat)=>k<=l.length) (λk=>l.length-k)
  (λk=>[(3,.ref 0 1 0 l.length),(9,EW l),(10,.int .i64 l.length),(11,.int .i64 k)]) (λk=>[⟨1,1,true,(l.take k).map A4++List.replicate (l.length-k) .nilS⟩]) (λenv _=>[Cf 1 (env 3)]) 0 (by simp) ?_ ?_)
 ·(with_reducible repeat'(first|simp (disch:=omega) only[push_cast,↓zz,seval,pW,J4,List.take_zero,Bt,List.nil_append,Nat.sub_zero]|apply Aa|refine sp_ ?_ ?_<;>intro hc<;>push_cast at hc|omega|intro _))
 intro k hk;rcases Ah k l.length with hkl|hkl
 ·have hC:=X4 (nth l k) (by have:=hw _ (AL hkl);omega)
  have lT:((l.take k).map A4++List.replicate (l.length-k) AV.nilS).length=l.length:=by simp;omega
  have sT:((l.take k).map A4++List.replicate (l.length-k) AV.nilS).set k (A4 (nth l k))=(l.take (k+1)).map A4++List.replicate (l.length-(k+1)) AV.nilS:=by
   have e1:List.replicate (l.length-k) AV.nilS=AV.nilS::List.replicate (l.length-(k+1)) AV.nilS:=by rw[<-List.replicate_succ];congr 1;omega
   have e2:((l.take k).map A4).length=k:=by simp;omega
   rw[e1,DD _ _ (by omega),e2,Nat.sub_self,List.set_cons_zero,take_at hkl,Az,Av];rfl
  have pK:A6 ((nth l k).map (AV.int .i32))=true:=AE .i32 _;have pT:∀k,A6 ((l.take k).map A4++List.replicate (l.length-k) AV.nilS)=true:=λk=>by rw[KZ,BL (l.take k),J4];rfl
  generalize hwk:nth l k=w at *;generalize hLk:(l.take k).map A4++List.replicate (l.length-k) AV.nilS=T0 at *;have hp0:=pT k;have hp1:=pT (k+1);rw[hLk] at hp0;generalize hLk1:(l.take (k+1)).map A4++List.replicate (l.length-(k+1)) AV.nilS=T1 at *;refine W_T ?_;(with_reducible repeat'(first|simp (disch:=omega) only[push_cast,↓zz,seval,pW,hwk,lT,sT,pK,hp0]|apply Aa|refine sp_ ?_ ?_<;>intro hc<;>push_cast at hc|refine ee hC ?_|(refine cc hC ?_;(simp(disch:=omega)only[push_cast,↓zz,seval,pW,hwk,lT,sT,pK,hp0]);(fail_if_success change False))|omega|intro _))
  all_goals
   refine⟨k+1,?_⟩;(with_reducible repeat'(first|simp (disch:=omega) only[push_cast,↓zz,seval,pW,hLk1,hp1]|apply Aa|refine sp_ ?_ ?_<;>intro hc<;>push_cast at hc|omega|intro _))
 ·obtain rfl:k=l.length:=by omega
  have e1:(l.take l.length).map A4++List.replicate (l.length-l.length) AV.nilS=l.map A4:=by simp
  rw[e1];refine W_T ?_;(with_reducible repeat'(first|simp (disch:=omega) only[push_cast,↓zz,seval,pW]|apply Aa|refine sp_ ?_ ?_<;>intro hc<;>push_cast at hc|omega|intro _));by_cases h0:l=[]
  ·subst h0
   refine BB.mono (zol []) ?_;rintro y H' ⟨rfl,rfl⟩;have hC:=LR true [] (by simp) (λw hw'=>by cases hw');(with_reducible repeat'(first|simp (disch:=omega) only[push_cast,↓zz,seval]|apply Aa|refine sp_ ?_ ?_<;>intro hc<;>push_cast at hc|omega|intro _));refine BB.mono hC ?_;rintro y H' ⟨rfl,z,pz,rfl⟩;have e0:C7 [] 0=[]:=rfl;have e1:J1 []=[]:=rfl;(with_reducible repeat'(first|simp (disch:=omega) only[push_cast,↓zz,seval,pz,e0,e1,List.length_nil,Bt,List.nil_append,List.take_zero]|apply Aa|refine sp_ ?_ ?_<;>intro hc<;>push_cast at hc|omega|intro _))
  have hS:=zkl (H:=Abs.hl [⟨1,1,true,l.map A4⟩]) (g:=0) (ver:=1) (ex:=true) (l:=l) (by show 0<1;omega) rfl h0 (by omega) hw;refine BB.mono hS ?_;rintro y H' ⟨rfl,l',hp,hs,rfl⟩;have hl':l'.length=l.length:=hp.length_eq;have hC:=LR true l' (by omega) λw hw'=>hw w (hp.mem_iff.1 hw');have hsw:=z1w hs hp;rw[hl'] at hC hsw;rw[hsw];(with_reducible repeat'(first|simp (disch:=omega) only[push_cast,↓zz,seval]|apply Aa|refine sp_ ?_ ?_<;>intro hc<;>push_cast at hc|omega|intro _));refine BB.mono hC ?_;rintro y H' ⟨rfl,z,pz,rfl⟩;generalize C7 l' l.length=M at *;have pM:=BL M;have tM:∀z,List.take M.length (M.map A4++z)=M.map A4:=λz=>D2 (by simp);(with_reducible repeat'(first|simp (disch:=omega) only[push_cast,↓zz,seval,pz,pM,tM]|apply Aa|refine sp_ ?_ ?_<;>intro hc<;>push_cast at hc|omega|intro _))
  all_goals trace_state
theorem z2b(n:Nat)(h0:0<n)(hn:n<=1000000000):BB Tryz.prog 105 [.nilS,.int .i64 n] (Abs.hl []) λy H'=>y=.ref 0 1 0 0/\H'=Abs.hl [⟨1,1,false,List.replicate n (AV.int .i32 0)⟩]:=by
 refine Gz (b:=0) Gy rfl ?_;unfold Fs;have e0:((n:Int)-0).toNat=n:=by omega
 (with_reducible repeat'(first|simp (disch:=omega) only[push_cast,↓zz,seval,e0]|apply Aa|refine sp_ ?_ ?_<;>intro hc<;>push_cast at hc|omega|intro _))
 all_goals trace_state
theorem X5:PC Tryz.prog 105 [.nilS,.int .i64 0] .nilS:=by
 refine BA Gy ?_;unfold Fs;(with_reducible repeat'(first|simp (disch:=omega) only[push_cast,↓zz,seval]|apply Aa|refine sp_ ?_ ?_<;>intro hc<;>push_cast at hc|omega|intro _))
 all_goals trace_state
theorem I1(l:List Int):A6 (l.map (AV.int .i32))=true:=AE .i32 _
def GR(ws:List (List Int))(k:Nat):List AV:=(ws.take k).flatten.map (AV.int .i32)++List.replicate (ws.flatten.length-(ws.take k).flatten.length) (AV.int .i32 0)
theorem R2{α:Type}(ws:List (List α)){k:Nat}(h:k<ws.length):(ws.take (k+1)).flatten=(ws.take k).flatten++ws[k]:=by
 rw[List.take_succ_eq_append_getElem h,List.flatten_append];simp only[List.flatten_cons,List.flatten_nil,A5]
theorem Tz{α:Type}(ws:List (List α))(k:Nat):(ws.take k).flatten.length<=ws.flatten.length:=by
 have:ws.flatten=(ws.take k).flatten++(ws.drop k).flatten:=by rw[<-List.flatten_append,C6]
 rw[this];simp
theorem VJ(ws:List (List Int))(hk:ws.length<=1000000000)(h0:0<ws.flatten.length)(hl:ws.flatten.length<=1000000000):PC Tryz.prog 66 [.lst 1 (ws.map A4)] (A4 ws.flatten):=by
 have pW:A6 (ws.map A4)=true:=BQ.2 λx hx=>by
  obtain⟨l,_,rfl⟩:=Ar.1 hx;exact I1 l
 have aW:∀k,k<ws.length->(ws.map A4).getD k .any=A4 (nth ws k):=λk hk=>by simp[nth,List.getD,hk]
 have hG:=z2b ws.flatten.length h0 hl;refine BA FW ?_;unfold EJ;(with_reducible repeat'(first|simp (disch:=omega) only[push_cast,↓zz,seval,pW]|apply Aa|refine sp_ ?_ ?_<;>intro hc<;>push_cast at hc|omega|intro _))
 refine AQ (AX (λ(k:Nat)=>k<=ws.length) (λk=>ws.length-k)
  (λk=>[(0,.lst 1 (ws.map A4)),(3,.int .i64 (ws.take k).flatten.length),(9,.lst 1 (ws.map A4)),(10,.int .i64 ws.length),(11,.int .i64 k)]) (λ_=>[]) (λ_ _=>[]) 0 (by simp) ?_ ?_)
 ·(with_reducible repeat'(first|simp (disch:=omega) only[push_cast,↓zz,seval,pW,List.flatten_nil,List.length_nil]|apply Aa|refine sp_ ?_ ?_<;>intro hc<;>push_cast at hc|omega|intro _))
 intro k hkw;rcases Ah k ws.length with hkl|hkl
 ·have hn:nth ws k=ws[k]:=by simp[nth,hkl]
  have hf:=R2 ws hkl;rw[<-hn] at hf;have h1:=Tz ws (k+1);have h2:(ws.take (k+1)).flatten.length=(ws.take k).flatten.length+(nth ws k).length:=by rw[hf];simp
  have aK:=aW k hkl;generalize (ws.take k).flatten.length=m at *;refine W_T ?_;(with_reducible repeat'(first|simp (disch:=omega) only[push_cast,↓zz,seval,pW,aK]|apply Aa|refine sp_ ?_ ?_<;>intro hc<;>push_cast at hc|omega|intro _))
  all_goals
   refine⟨k+1,?_⟩;(with_reducible repeat'(first|simp (disch:=omega) only[push_cast,↓zz,seval,pW,h2]|apply Aa|refine sp_ ?_ ?_<;>intro hc<;>push_cast at hc|omega|intro _))
 ·obtain rfl:k=ws.length:=by omega
  rw[Al (Af _)];have hzz:(ws.flatten.length:Int)≠0:=by omega
  refine W_T ?_;(with_reducible repeat'(first|simp (disch:=omega) only[push_cast,↓zz,seval,pW]|apply Aa|refine sp_ ?_ ?_<;>intro hc<;>push_cast at hc|omega|intro _))
  (refine GU [] (hG) (by decide) (by simp) (by (simp(disch:=omega)only[push_cast,↓zz,seval])) (by (simp(disch:=omega)only[push_cast,↓zz,seval])) (by (simp(disch:=omega)only[push_cast,↓zz,seval])) (by (simp(disch:=omega)only[push_cast,↓zz,seval,Ai,As,AH,BD,Cy,BH])) ?_)
  rintro y H' ⟨rfl,rfl⟩;refine⟨_,rfl,by simp,?_⟩;(with_reducible repeat'(first|simp (disch:=omega) only[push_cast,↓zz,seval,pW]|apply Aa|refine sp_ ?_ ?_<;>intro hc<;>push_cast at hc|omega|intro _))
  refine AQ (AX (λ(k:Nat)=>k<=ws.length) (λk=>ws.length-k)
   (λk=>[(6,.ref 0 1 0 (ws.take k).flatten.length),(25,.lst 1 (ws.map A4)),(26,.int .i64 ws.length),(27,.int .i64 k)]) (λk=>[⟨1,1,false,GR ws k⟩]) (λenv _=>[Cf 1 (env 6)]) 0 (by simp) ?_ ?_)
  ·have r0:GR ws 0=List.replicate ws.flatten.length (AV.int .i32 0):=by simp[GR]
   have pZ:∀n,A6 (List.replicate n (AV.int .i32 0))=true:=λn=>BQ.2 λx hx=>by rw[CB hx];rfl
   (with_reducible repeat'(first|simp (disch:=omega) only[push_cast,↓zz,seval,pW,pZ,r0,List.flatten_nil,List.length_nil]|apply Aa|refine sp_ ?_ ?_<;>intro hc<;>push_cast at hc|omega|intro _))
  intro k hkw
  have pL:∀k,A6 (GR ws k)=true:=λk=>by
   rw[GR,KZ,I1,AF];exact BQ.2 λx hx=>by rw[CB hx];rfl
  have h1:=Tz ws k;have lR:(GR ws k).length=ws.flatten.length:=by simp only[GR,An,Bh,List.length_replicate];omega
  rcases Ah k ws.length with hkl|hkl
  ·have hn:nth ws k=ws[k]:=by simp[nth,hkl]
   have hf:=R2 ws hkl;rw[<-hn] at hf;have h1':=Tz ws (k+1);have h2:(ws.take (k+1)).flatten.length=(ws.take k).flatten.length+(nth ws k).length:=by rw[hf];simp
   have aK:=aW k hkl;have pw:=I1 (nth ws k)
   have hR:(GR ws k).take (ws.take k).flatten.length++(nth ws k).map (AV.int .i32)++(GR ws k).drop ((ws.take k).flatten.length+(nth ws k).length)=GR ws (k+1):=by
    have e1:(GR ws k).take (ws.take k).flatten.length=(ws.take k).flatten.map (AV.int .i32):=by
     rw[GR];exact D2 (by rw[Bh])
    have e2:(GR ws k).drop ((ws.take k).flatten.length+(nth ws k).length)=List.replicate (ws.flatten.length-(ws.take (k+1)).flatten.length) (AV.int .i32 0):=by
     rw[<-E5,GR,List.drop_left' (by rw[Bh]),List.drop_replicate,h2];congr 1;omega
    rw[e1,e2,GR,hf,Az,Av]
   rw[Av] at hR
   have hQ:(GR ws k).length<=(ws.take k).flatten.length->GR ws k++(nth ws k).map (AV.int .i32)=GR ws (k+1):=λh=>by
    have h0:nth ws k=[]:=Ay (by omega);rw[GR,GR,hf,h0,A5,Bt,A5]
   have pT:A6 ((GR ws k).take (ws.take k).flatten.length)=true:=BQ.2 λx hx=>BQ.1 (pL k) x (By hx);have pD:A6 ((GR ws k).drop ((ws.take k).flatten.length+(nth ws k).length))=true:=BQ.2 λx hx=>BQ.1 (pL k) x (BJ hx);have hpk:=pL k;have hpk1:=pL (k+1);generalize (ws.take k).flatten.length=m at *;generalize hRk:GR ws k=R at *;generalize hRk1:GR ws (k+1)=R1 at *;refine W_T ?_;(with_reducible repeat'(first|simp (disch:=omega) only[push_cast,↓zz,seval,pW,aK,pw,hpk]|apply Aa|refine sp_ ?_ ?_<;>intro hc<;>push_cast at hc|omega|intro _))
   all_goals
    refine⟨k+1,?_⟩;(with_reducible repeat'(first|simp (disch:=omega) only[push_cast,↓zz,seval,pW,h2,hRk1,hpk1,pw,hpk,pT,pD,hR,hQ]|apply Aa|refine sp_ ?_ ?_<;>intro hc<;>push_cast at hc|omega|intro _))
  ·obtain rfl:k=ws.length:=by omega
   have rE:GR ws ws.length=ws.flatten.map (AV.int .i32):=by simp[GR]
   rw[rE,A3] at *;refine W_T ?_;(with_reducible repeat'(first|simp (disch:=omega) only[push_cast,↓zz,seval,pW,I1]|apply Aa|refine sp_ ?_ ?_<;>intro hc<;>push_cast at hc|omega|intro _))
   all_goals trace_state
theorem T3(ws:List (List Int))(hk:ws.length<=1000000000)(h0:ws.flatten.length=0):PC Tryz.prog 66 [.lst 1 (ws.map A4)] (A4 ws.flatten):=by
 have pW:A6 (ws.map A4)=true:=BQ.2 λx hx=>by
  obtain⟨l,_,rfl⟩:=Ar.1 hx;exact I1 l
 have hE:ws.flatten=[]:=Ay h0
 have aW:∀k,k<ws.length->(ws.map A4).getD k .any=.lst 1 []:=λk hk=>by
  have:ws[k]=[]:=by
   have:=List.flatten_eq_nil_iff.1 hE _ (BZ hk);exact this
  simp[List.getD,hk,this,A4]
 have hG:=X5;rw[hE];refine BA FW ?_;unfold EJ;(with_reducible repeat'(first|simp (disch:=omega) only[push_cast,↓zz,seval,pW]|apply Aa|refine sp_ ?_ ?_<;>intro hc<;>push_cast at hc|omega|intro _))
 refine AQ (AX (λ(k:Nat)=>k<=ws.length) (λk=>ws.length-k)
  (λk=>[(0,.lst 1 (ws.map A4)),(3,.int .i64 0),(9,.lst 1 (ws.map A4)),(10,.int .i64 ws.length),(11,.int .i64 k)]) (λ_=>[]) (λ_ _=>[]) 0 (by simp) ?_ ?_)
 ·(with_reducible repeat'(first|simp (disch:=omega) only[push_cast,↓zz,seval,pW]|apply Aa|refine sp_ ?_ ?_<;>intro hc<;>push_cast at hc|omega|intro _))
 intro k hkw;rcases Ah k ws.length with hkl|hkl
 ·have aK:=aW k hkl
  refine W_T ?_;(with_reducible repeat'(first|simp (disch:=omega) only[push_cast,↓zz,seval,pW,aK]|apply Aa|refine sp_ ?_ ?_<;>intro hc<;>push_cast at hc|omega|intro _))
  all_goals
   refine⟨k+1,?_⟩;(with_reducible repeat'(first|simp (disch:=omega) only[push_cast,↓zz,seval,pW]|apply Aa|refine sp_ ?_ ?_<;>intro hc<;>push_cast at hc|omega|intro _))
 ·obtain rfl:k=ws.length:=by omega
  refine W_T ?_;(with_reducible repeat'(first|simp (disch:=omega) only[push_cast,↓zz,seval,pW]|apply Aa|refine sp_ ?_ ?_<;>intro hc<;>push_cast at hc|refine ee hG ?_|(refine cc hG ?_;(simp(disch:=omega)only[push_cast,↓zz,seval,pW]);(fail_if_success change False))|omega|intro _))
  refine AQ (AX (λ(k:Nat)=>k<=ws.length) (λk=>ws.length-k)
   (λk=>[(6,.ref 0 1 0 0),(25,.lst 1 (ws.map A4)),(26,.int .i64 ws.length),(27,.int .i64 k)]) (λk=>[⟨1,1,false,[]⟩]) (λenv _=>[Cf 1 (env 6)]) 0 (by simp) ?_ ?_)
  ·(with_reducible repeat'(first|simp (disch:=omega) only[push_cast,↓zz,seval,pW]|apply Aa|refine sp_ ?_ ?_<;>intro hc<;>push_cast at hc|omega|intro _))
  intro k hkw;rcases Ah k ws.length with hkl|hkl
  ·have aK:=aW k hkl
   refine W_T ?_;(with_reducible repeat'(first|simp (disch:=omega) only[push_cast,↓zz,seval,pW,aK]|apply Aa|refine sp_ ?_ ?_<;>intro hc<;>push_cast at hc|omega|intro _))
   all_goals
    refine⟨k+1,?_⟩;(with_reducible repeat'(first|simp (disch:=omega) only[push_cast,↓zz,seval,pW]|apply Aa|refine sp_ ?_ ?_<;>intro hc<;>push_cast at hc|omega|intro _))
  ·obtain rfl:k=ws.length:=by omega
   refine W_T ?_;(with_reducible repeat'(first|simp (disch:=omega) only[push_cast,↓zz,seval,pW]|apply Aa|refine sp_ ?_ ?_<;>intro hc<;>push_cast at hc|omega|intro _))
   all_goals trace_state
theorem LS(a b:List Int)(hl:a.length+b.length<=1000000000):PC Tryz.prog 66 [.lst 1 [A4 a,A4 b]] (A4 (a++b)):=by
 have e:[a,b].flatten=a++b:=by simp
 have el:[a,b].flatten.length=a.length+b.length:=by rw[e,An]
 rw[<-e];rcases Nat.eq_zero_or_pos [a,b].flatten.length with h|h
 ·exact T3 [a,b] (by simp) h
 ·exact VJ [a,b] (by simp) h (by omega)
set_option maxRecDepth 100000
structure M2(d:Desc)(x:List Int)(n:Nat):Prop where
 st:d.states=n
 n1:n<=1024
 start:0<=d.start/\d.start<n
 rl:d.rules.length<=4096
 fl:d.finals.length<=4096
 xl:x.length<=1024
 x32:∀v∈x,-2147483648<=v/\v<=2147483647
 goes:Goes d n
 ff:∀f∈d.finals,0<=f.from_/\f.from_<n
 rb:∀r∈d.rules,(r.guards.length<=1000000/\∀g∈r.guards,g.length<=1000000)/\(r.out.length<=64/\∀t∈r.out,t.parts.length<=1000000)/\0<=r.eat/\r.eat<=1000000
 fb:∀f∈d.finals,(f.guards.length<=1000000/\∀g∈f.guards,g.length<=1000000)/\(f.out.length<=64/\∀t∈f.out,t.parts.length<=1000000)
 cyc:¬cycP d.rules n
def setT(n m:Nat)(S:Nat->Nat->List (List Int)):List AV:=(List.range m).map λp=>EW (S (p / n) (p % n))
section
variable {n m a t:Nat}{S:Nat->Nat->List (List Int)}
theorem Zy:(setT n m S).length=m:=by simp[setT]
theorem PE:A6 (setT n m S)=true:=BQ.2 λx hx=>by
 obtain⟨i,_,rfl⟩:=Ar.1 hx;exact BL _
theorem z8h{z:AV}(ht:t<n)(hp:a * n+t<m):(setT n m S).getD (a * n+t) z=EW (S a t):=by
 rw[setT,Cq hp,Gc ht,Gd ht]
theorem ze4{v:List (List Int)}(ht:t<n)(hp:a * n+t<m):(setT n m S).set (a * n+t) (EW v)=setT n m (setP S a t v):=by
 rw[setT,CJ hp,setT];refine AD λp _=>?_;simp only[setP];by_cases e:p=a * n+t
 ·subst e;rw[Ae rfl,Gc ht,Gd ht,Ae ⟨rfl,rfl⟩]
 ·rw[Ac e,Ac λh=>e (LP ht h)]
theorem z8i{l:List Grp}:leSL l (List.replicate m .nilS) (setT n m λ_ _=>[]):=by
 have key:∀(f:Nat->Nat)(q:List Nat),leSL l (List.replicate q.length .nilS) (q.map λ_=>EW []):=λ_ q=>by
  induction q with
  |nil=>exact rfl
  |cons a q ih=>exact⟨⟨Nat.one_pos,rfl⟩,ih⟩
 have:=key id (List.range m)
 rwa [CG] at this
end
def outH(d:Desc)(R:AV)(mo n m:Nat)(S:Nat->Nat->List (List Int))(many:Bool):List Grp:=[⟨6,1,true,[Cu d]⟩,⟨1,1,true,[.int .i64 mo]⟩,⟨1,1,true,[R]⟩,⟨1,1,true,setT n m S⟩,⟨1,1,true,[.ref 3 1 0 m]⟩,⟨1,1,true,[.bool many]⟩]
theorem PF{d:Desc}{R:AV}(hR:R.pure=true){mo n m:Nat}{S:Nat->Nat->List (List Int)}{many:Bool}:∀G∈outH d R mo n m S many,ltL 6 G.xs:=λG hG=>by
 simp only[outH,Ai,As,AH] at hG;rcases hG with rfl|rfl|rfl|rfl|rfl|rfl
 ·exact C0 _ _ (by simp[A6,Gp])
 ·exact⟨trivial,trivial⟩
 ·exact C0 _ _ (by simp[A6,hR])
 ·exact C0 _ _ PE
 ·exact⟨(show 3<6 by omega),trivial⟩
 ·exact⟨trivial,trivial⟩
theorem Zz{d:Desc}{x:List Int}{S:Nat->Nat->List (List Int)}{at_ s B:Nat}(hB:∀r∈d.rules,r.from_=(s:Nat)->goB x r.guards at_=true->(S (at_+r.eat.toNat) r.to_.toNat).length<=B):∀k,k<=(ruI d.rules s).length->(rulW d x S at_ s k).length<=k * B
 |0,_=>by simp[rulW]
 |k+1,hk=>by
  have ih:=Zz hB k (by omega);obtain⟨i1,i2⟩:=G1.1 (AL (show k<(ruI d.rules s).length by omega));have e:(k+1) * B=k * B+B:=Gf k B;cases hg:goB x (nth d.rules (nth (ruI d.rules s) k)).guards at_ with
  |true =>
   rw[Tx (by omega) rfl hg,An,Bh];have:=hB _ (AL i1) i2 hg;omega
  |false =>
   rw[X0 (by omega) rfl hg];omega
def putW(d:Desc)(x:List Int)(S:Nat->Nat->List (List Int))(at_ s k:Nat):List (List Int):=finW d x at_ s (fiI d.finals s).length++rulW d x S at_ s k
def putQ(A:List (List Int))(h:List Int)(W:List (List Int))(q:Nat):List (List Int):=A++(W.take q).map (h++·)
theorem z8j{A:List (List Int)}{h:List Int}{W:List (List Int)}:putQ A h W 0=A:=by simp[putQ]
theorem z8k{A:List (List Int)}{h:List Int}{W:List (List Int)}{q:Nat}(hq:q<W.length):putQ A h W (q+1)=putQ A h W q++[h++nth W q]:=by
 rw[putQ,putQ,take_at hq,Az,Av];rfl
theorem ze5{A:List (List Int)}{h:List Int}{W:List (List Int)}{q:Nat}:(putQ A h W q).length<=A.length+W.length:=by
 simp[putQ];omega
theorem ze6{d:Desc}{x:List Int}{n:Nat}{ord:List Nat}{L:Nat->Nat->Bool}{mo a j:Nat}{S:Nat->Nat->List (List Int)}(hI:OutI d x L ord mo a j S false)(hl:LivE d x n L)(hg:Goes d n)(ht:Topo d.rules n ord)(hj:j<n)(ha:a<=x.length)(hlv:L a (nth ord j)=true)
 {r:Rule} (hr:r∈d.rules) (hf:r.from_=(nth ord j:Nat)) (hgo:goB x r.guards a=true):S (a+r.eat.toNat) r.to_.toNat=outW d x (a+r.eat.toNat) (r.to_.toNat:Nat)/\(S (a+r.eat.toNat) r.to_.toNat).length<=mo/\L (a+r.eat.toNat) r.to_.toNat=true/\a+r.eat.toNat<=x.length/\r.to_.toNat<n:=by
 obtain⟨_,htt,e1,e2⟩:=hg.r r hr;have hle:=FE hgo;have hlt:=hl.clos _ _ hlv r hr hf hgo;have h1:=hI.no rfl (a+r.eat.toNat) r.to_.toNat (by omega) hlt (IM hg ht hj hr hf);exact⟨h1.1,h1.2,hlt,by omega,by omega⟩
theorem z8l(d:Desc)(x:List Int){n:Nat}(hk:M2 d x n){ord:List Nat}{L:Nat->Nat->Bool}(ht:Topo d.rules n ord)(hl:LivE d x n L)(mo:Nat)(hmo:mo<=9223372036854775807)(hB:Nat.min mo (outW d x 0 d.start).length<=200000)
 (a j:Nat) (S:Nat->Nat->List (List Int)) (many:Bool) (ha:a<=x.length) (hj:j<n) (hI:OutI d x L ord mo a j S many) (hlv:L a (nth ord j)=true) :
 BB Tryz.prog 62 [.int .i64 a,.int .i64 (nth ord j:Nat),.ptr 5 1 0 0,.ptr 2 1 0 0,.ptr 0 1 0 0,.ptr 4 1 0 0,.ptr 1 1 0 0]
  (Abs.hl (outH d (Ct d x (ruV d.rules n) (fiV d.finals n) (.lst 1 (ord.map e1)) (.lst 1 (lvB n ((x.length+1) * n) L))) mo n ((x.length+1) * n) S many)) λy H'=>y=.tup []/\∃(s':(Nat->Nat->List (List Int)) × Bool),
   H'=Abs.hl (outH d (Ct d x (ruV d.rules n) (fiV d.finals n) (.lst 1 (ord.map e1)) (.lst 1 (lvB n ((x.length+1) * n) L))) mo n ((x.length+1) * n) s'.1 s'.2)/\OutI d x L ord mo a (j+1) s'.1 s'.2:=by
 have pR:=BF d.rules;have pFi:=B9 d.finals;have pX:A6 (x.map (AV.int .i32))=true:=AE .i32 _;have pO:A6 (ord.map e1)=true:=CU (λ_=>rfl) _;have pL:A6 (lvB n ((x.length+1) * n) L)=true:=HE;have pRU:A6 (fD 1 e1 n (ruI d.rules))=true:=Er λ_=>rfl;have pFI:A6 (fD 1 e1 n (fiI d.finals))=true:=Er λ_=>rfl;have lRU:(fD 1 e1 n (ruI d.rules)).length=n:=Nl;have lFI:(fD 1 e1 n (fiI d.finals)).length=n:=Nl;have hdn:=hk.st;have hn:=hk.n1;have hx:=hk.xl;have hol:=C5 ht;have htn:nth ord j<n:=(ht.all _).1 (AL (by omega));have hgoes:=hk.goes;have hmx:(x.length+1) * n<=1025 * 1024:=B6 (by omega) hn;have hpm:=Et htn ha;unfold ruV fiV;refine Hj (KX Ov (W_T ?_));unfold Jg;cases many with
 |true =>
  generalize fD 1 e1 n (ruI d.rules)=RU at *;generalize fD 1 e1 n (fiI d.finals)=FI at *;unfold outH;(with_reducible repeat'(first|simp (disch:=omega) only[push_cast,↓zz,seval]|apply Aa|refine sp_ ?_ ?_<;>intro hc<;>push_cast at hc|omega|intro _))
  all_goals exact⟨_,_,Ent.refl,rfl,(S,true),rfl,z7x hI _ _⟩
 |false =>
  have hto:=λr hr hf hgo=>ze6 hI hl hgoes ht hj ha hlv (r:=r) hr hf hgo
  have hSB:∀r∈d.rules,r.from_=(nth ord j:Nat)->goB x r.guards a=true->(S (a+r.eat.toNat) r.to_.toNat).length<=200000:=λr hr hf hgo=>by
   obtain⟨h1,h2,h3,h4,h5⟩:=hto r hr hf hgo;have h6:=zdt hl hgoes ht hk.start h3;rw[<-h1] at h6;exact Bb (Nat.le_min.2 ⟨h2,h6⟩) hB
  have hwl:∀r∈d.rules,r.from_=(nth ord j:Nat)->goB x r.guards a=true->∀w∈S (a+r.eat.toNat) r.to_.toNat,w.length<=100000000:=λr hr hf hgo w hw=>by
   obtain⟨h1,h2,h3,h4,h5⟩:=hto r hr hf hgo;rw[h1] at hw;exact LQ hgoes ht ⟨λr hr=>(hk.rb r hr).2.1.1,λf hf=>(hk.fb f hf).2.1⟩ hn hx h4 h5 (((Hy hgoes ht h4 h5).2 w).1 hw)
  have hMeq:=zki hI hl hgoes ht hj ha hlv;rw[<-z86] at hMeq;have hnext:=z7z hI hl hgoes ht hj ha hlv (M:=J1 (allW d x S a (nth ord j))) hMeq;have hRL:=Zz (d:=d) (x:=x) (S:=S) (at_:=a) (s:=nth ord j) hSB;have aR:(fD 1 e1 n (ruI d.rules)).getD (nth ord j) .any=.lst 1 ((ruI d.rules (nth ord j)).map e1):=V5 htn;have aR2:(fD 1 e1 n (ruI d.rules))[nth ord j]? = some (.lst 1 ((ruI d.rules (nth ord j)).map e1)):=Nm htn;have aF:(fD 1 e1 n (fiI d.finals)).getD (nth ord j) .any=.lst 1 ((fiI d.finals (nth ord j)).map e1):=V5 htn;have aF2:(fD 1 e1 n (fiI d.finals))[nth ord j]? = some (.lst 1 ((fiI d.finals (nth ord j)).map e1)):=Nm htn;have pRI:A6 ((ruI d.rules (nth ord j)).map e1)=true:=CU (λ_=>rfl) _;have pFJ:A6 ((fiI d.finals (nth ord j)).map e1)=true:=CU (λ_=>rfl) _;have hrI:=Pz d.rules (nth ord j);have hfI:=Xy d.finals (nth ord j);have hrl:=hk.rl;have hfl:=hk.fl;have pST:A6 (setT n ((x.length+1) * n) S)=true:=PE;have lST:(setT n ((x.length+1) * n) S).length=(x.length+1) * n:=Zy;have aST:∀b t,b<=x.length->t<n->(setT n ((x.length+1) * n) S).getD (b * n+t) .any=EW (S b t):=λb t hb htn=>z8h htn (Et htn hb);have sST:=λv=>ze4 (v:=v) (S:=S) htn hpm;have pl:∀b t,b<=x.length->t<n->b * n+t<(x.length+1) * n:=λb t hb htn=>Et htn hb;generalize hRUe:fD 1 e1 n (ruI d.rules)=RU at *;generalize hFIe:fD 1 e1 n (fiI d.finals)=FI at *;generalize hme:(x.length+1) * n=m at *;generalize hLVe:lvB n m L=LV at *;generalize hODe:ord.map e1=OD at *;have hEnds:=λ(f:FS) (hf:f∈d.finals)=>Tn d x (.lst 1 RU) (.lst 1 FI) (.lst 1 OD) (.lst 1 LV) f a pRU pFI pO pL (by omega) hk.x32 (hk.fb f hf).1.2 (hk.fb f hf).1.1 (by omega);have hWf:=λ(f:FS) (hf:f∈d.finals) (hgo:goB x f.guards a=true)=>Hi d x (.lst 1 RU) (.lst 1 FI) (.lst 1 OD) (.lst 1 LV) f.out a f.guards.length pRU pFI pO pL (by omega) hk.x32 (by have:=(hk.fb f hf).2.1;omega) (hk.fb f hf).2.2 (by have:=FE hgo;omega);have hFits:=λ(r:Rule) (hr:r∈d.rules)=>LN d x (.lst 1 RU) (.lst 1 FI) (.lst 1 OD) (.lst 1 LV) r.guards a pRU pFI pO pL (by omega) hk.x32 (hk.rb r hr).1.2 (hk.rb r hr).1.1 (by omega);have hWr:=λ(r:Rule) (hr:r∈d.rules) (hgo:goB x r.guards a=true)=>Hi d x (.lst 1 RU) (.lst 1 FI) (.lst 1 OD) (.lst 1 LV) r.out a r.guards.length pRU pFI pO pL (by omega) hk.x32 (by have:=(hk.rb r hr).2.1.1;omega) (hk.rb r hr).2.1.2 (by have:=FE hgo;omega);have pRn:(Ct d x (.lst 1 RU) (.lst 1 FI) (.lst 1 OD) (.lst 1 LV)).pure=true:=by simp[AV.pure,A6,pR,pFi,pX,pO,pL,pRU,pFI]
  have hcl:=λS many=>PF (d:=d) (R:=Ct d x (.lst 1 RU) (.lst 1 FI) (.lst 1 OD) (.lst 1 LV)) pRn (mo:=mo) (n:=n) (m:=m) (S:=S) (many:=many);generalize nth ord j=s at *;obtain⟨F,hF⟩:∃F,F=finW d x a s (fiI d.finals s).length:=⟨_,rfl⟩;have hFlen:F.length<=4096:=by rw[hF];have:=Zv (d:=d) (x:=x) (at_:=a) (s:=s) (k:=(fiI d.finals s).length);omega
  unfold outH;generalize hSTe:setT n m S=ST at *;(with_reducible repeat'(first|simp (disch:=omega) only[push_cast,↓zz,seval,pR,pFi,pX,pO,pL,pRU,pFI,aF,aF2,lFI,pST,lST]|apply Aa|refine sp_ ?_ ?_<;>intro hc<;>push_cast at hc|omega|intro _))
  refine AQ (AX (λ(k:Nat)=>k<=(fiI d.finals s).length) (λk=>(fiI d.finals s).length-k)
   (λk=>[(0,.int .i64 a),(1,.int .i64 s),(2,.ptr 5 1 0 0),(3,.ptr 2 1 0 0),(4,.ptr 0 1 0 0),(5,.ptr 4 1 0 0),(6,.ptr 1 1 0 0),(9,.ref 6 1 0 (finW d x a s k).length),(26,.lst 1 ((fiI d.finals s).map e1)),(27,.int .i64 (fiI d.finals s).length),(28,.int .i64 k)])
   (λk=>[⟨6,1,true,[Cu d]⟩,⟨1,1,true,[.int .i64 mo]⟩,⟨1,1,true,[Ct d x (.lst 1 RU) (.lst 1 FI) (.lst 1 OD) (.lst 1 LV)]⟩,⟨1,1,true,ST⟩,⟨1,1,true,[.ref 3 1 0 m]⟩,⟨1,1,true,[.bool false]⟩,⟨1,1,false,(finW d x a s k).map A4⟩]) (λenv _=>[Cf 1 (env 9)]) 0 (Aw _) ?_ ?_)
  ·(with_reducible repeat'(first|simp (disch:=omega) only[push_cast,↓zz,seval,pR,pFi,pX,pO,pL,pRU,pFI,pST,pFJ,VG,List.length_nil,Bt]|apply Aa|refine sp_ ?_ ?_<;>intro hc<;>push_cast at hc|omega|intro _))
  intro k hkk;rcases Ah k (fiI d.finals s).length with hkl|hkl
  ·obtain⟨i,hi⟩:∃i,i=nth (fiI d.finals s) k:=⟨_,rfl⟩
   have him:i∈fiI d.finals s:=by rw[hi];exact AL hkl
   obtain⟨i1,i2⟩:=P8.1 him;have aI:((fiI d.finals s).map e1).getD k .any=.int .i64 i:=by rw[hi];simp[nth,List.getD,hkl]
   have hE:=hEnds _ (AL i1);have hW:=hWf _ (AL i1);have hyes:=λf hf h=>Tw (d:=d) (x:=x) (at_:=a) (s:=s) hkl (f:=f) hf h;have hno:=λf hf h=>Xz (d:=d) (x:=x) (at_:=a) (s:=s) hkl (f:=f) hf h;rw[<-hi] at hyes hno;have hyes:=hyes _ rfl;have hno:=hno _ rfl;have hlen:=Zv (d:=d) (x:=x) (at_:=a) (s:=s) (k:=k);generalize hfe:nth d.finals i=f at *;have hgr:=Bs f.guards;have hot:=BP f.out;generalize finW d x a s k=A at *;have pA:=BL A;cases hb:(decide (f.guards.length+a=x.length)&&goB x f.guards a) with
   |true =>
    rw[hb] at hE;have hyes:=hyes hb;have hgo:goB x f.guards a=true:=by simp only[Ab] at hb;exact hb.2
    have hW:=hW hgo;have pw:A6 ((CM x f.out f.guards a).map (AV.int .i32))=true:=AE .i32 _;rw[show C4 f.out ((x.drop a).take f.guards.length)=CM x f.out f.guards a from rfl] at hW;generalize CM x f.out f.guards a=w at *;refine W_T ?_;(with_reducible repeat'(first|simp (disch:=omega) only[push_cast,↓zz,seval,pR,pFi,pX,pO,pL,pRU,pFI,pST,pFJ,aI,hfe,hgr,hot,pA,pw]|apply Aa|refine sp_ ?_ ?_<;>intro hc<;>push_cast at hc|refine ee hE ?_|refine ee hW ?_|((first|refine cc hE ?_|refine cc hW ?_);(simp(disch:=omega)only[push_cast,↓zz,seval,pR,pFi,pX,pO,pL,pRU,pFI,pST,pFJ,aI,hfe,hgr,hot,pA,pw]);(fail_if_success change False))|omega|intro _))
    all_goals
     refine⟨k+1,?_⟩;(with_reducible repeat'(first|simp (disch:=omega) only[push_cast,↓zz,seval,pR,pFi,pX,pO,pL,pRU,pFI,pST,pFJ,hyes,pA,pw]|apply Aa|refine sp_ ?_ ?_<;>intro hc<;>push_cast at hc|omega|intro _))
   |false =>
    rw[hb] at hE;have hno:=hno hb;refine W_T ?_;(with_reducible repeat'(first|simp (disch:=omega) only[push_cast,↓zz,seval,pR,pFi,pX,pO,pL,pRU,pFI,pST,pFJ,aI,hfe,hgr,hot,pA]|apply Aa|refine sp_ ?_ ?_<;>intro hc<;>push_cast at hc|refine ee hE ?_|(refine cc hE ?_;(simp(disch:=omega)only[push_cast,↓zz,seval,pR,pFi,pX,pO,pL,pRU,pFI,pST,pFJ,aI,hfe,hgr,hot,pA]);(fail_if_success change False))|omega|intro _))
    all_goals
     refine⟨k+1,?_⟩;(with_reducible repeat'(first|simp (disch:=omega) only[push_cast,↓zz,seval,pR,pFi,pX,pO,pL,pRU,pFI,pST,pFJ,hno,pA]|apply Aa|refine sp_ ?_ ?_<;>intro hc<;>push_cast at hc|omega|intro _))
  obtain rfl:k=(fiI d.finals s).length:=by omega
  rw[<-hF];have pF:=BL F;have hP0:putW d x S a s 0=F:=by rw[putW,VH,A5,hF]
  refine W_T ?_;(with_reducible repeat'(first|simp (disch:=omega) only[push_cast,↓zz,seval,pR,pFi,pX,pO,pL,pRU,pFI,pST,pFJ,aR,aR2,lRU,pF]|apply Aa|refine sp_ ?_ ?_<;>intro hc<;>push_cast at hc|omega|intro _))
  refine AQ (AX (λ(k:Nat)=>k<=(ruI d.rules s).length) (λk=>(ruI d.rules s).length-k)
   (λk=>[(0,.int .i64 a),(1,.int .i64 s),(2,.ptr 5 1 0 0),(3,.ptr 2 1 0 0),(4,.ptr 0 1 0 0),(5,.ptr 4 1 0 0),(6,.ptr 1 1 0 0),(9,.ref 6 1 0 (putW d x S a s k).length),(59,.lst 1 ((ruI d.rules s).map e1)),(60,.int .i64 (ruI d.rules s).length),(61,.int .i64 k)])
   (λk=>[⟨6,1,true,[Cu d]⟩,⟨1,1,true,[.int .i64 mo]⟩,⟨1,1,true,[Ct d x (.lst 1 RU) (.lst 1 FI) (.lst 1 OD) (.lst 1 LV)]⟩,⟨1,1,true,ST⟩,⟨1,1,true,[.ref 3 1 0 m]⟩,⟨1,1,true,[.bool false]⟩,⟨1,1,false,(putW d x S a s k).map A4⟩]) (λenv _=>[Cf 1 (env 9)]) 0 (Aw _) ?_ ?_)
  ·(with_reducible repeat'(first|simp (disch:=omega) only[push_cast,↓zz,seval,pR,pFi,pX,pO,pL,pRU,pFI,pST,pRI,pF,hP0]|apply Aa|refine sp_ ?_ ?_<;>intro hc<;>push_cast at hc|omega|intro _))
  intro k hkk;have hRk:=hRL k hkk
  have hlk:(putW d x S a s k).length<=900000000:=by
   rw[putW,An,<-hF];have:k * 200000<=4096 * 200000:=AR _ (by omega);omega
  rcases Ah k (ruI d.rules s).length with hkl|hkl
  ·obtain⟨i,hi⟩:∃i,i=nth (ruI d.rules s) k:=⟨_,rfl⟩
   have him:i∈ruI d.rules s:=by rw[hi];exact AL hkl
   obtain⟨i1,i2⟩:=G1.1 him;have aI:((ruI d.rules s).map e1).getD k .any=.int .i64 i:=by rw[hi];simp[nth,List.getD,hkl]
   have hr:=AL i1;have hE:=hFits _ hr;have hW:=hWr _ hr;have hyes:=λr hf h=>Tx (d:=d) (x:=x) (S:=S) (at_:=a) (s:=s) hkl (r:=r) hf h;have hno:=λr hf h=>X0 (d:=d) (x:=x) (S:=S) (at_:=a) (s:=s) hkl (r:=r) hf h;rw[<-hi] at hyes hno;have hyes:=hyes _ rfl;have hno:=hno _ rfl;have hto:=hto _ hr i2;have hSB:=hSB _ hr i2;have hwl:=hwl _ hr i2;obtain⟨_,htt,e1',e2'⟩:=hgoes.r _ hr;have heb:=(hk.rb _ hr).2.2;have hol:=(hk.rb _ hr).2.1.1;generalize hre:nth d.rules i=r at *;have hgr:=Bs r.guards;have hot:=BP r.out;obtain⟨e,he⟩:∃e:Nat,r.eat=e:=⟨r.eat.toNat,by omega⟩;obtain⟨t,htq⟩:∃t:Nat,r.to_=t:=⟨r.to_.toNat,by omega⟩;have het:r.eat.toNat=e:=by omega
   have htt2:r.to_.toNat=t:=by omega
   rw[het,htt2] at hyes hto hSB hwl;generalize hAe:putW d x S a s k=A at *;have pA:=BL A;cases hb:goB x r.guards a with
   |false =>
    rw[hb] at hE;have hno:putW d x S a s (k+1)=A:=by rw[putW,hno hb];exact hAe
    refine W_T ?_;(with_reducible repeat'(first|simp (disch:=omega) only[push_cast,↓zz,seval,pR,pFi,pX,pO,pL,pRU,pFI,pST,pRI,aI,hre,hgr,hot,pA]|apply Aa|refine sp_ ?_ ?_<;>intro hc<;>push_cast at hc|refine ee hE ?_|(refine cc hE ?_;(simp(disch:=omega)only[push_cast,↓zz,seval,pR,pFi,pX,pO,pL,pRU,pFI,pST,pRI,aI,hre,hgr,hot,pA]);(fail_if_success change False))|omega|intro _))
    all_goals
     refine⟨k+1,?_⟩;(with_reducible repeat'(first|simp (disch:=omega) only[push_cast,↓zz,seval,pR,pFi,pX,pO,pL,pRU,pFI,pST,pRI,hno,pA]|apply Aa|refine sp_ ?_ ?_<;>intro hc<;>push_cast at hc|omega|intro _))
   |true =>
    rw[hb] at hE;have hyes:=hyes hb;have hW:=hW hb;obtain⟨h1,h2,h3,h4,h5⟩:=hto hb;have hSB:=hSB hb;have hwl:=hwl hb;have hle:=FE hb;have pw:A6 ((CM x r.out r.guards a).map (AV.int .i32))=true:=AE .i32 _;have hhl:(CM x r.out r.guards a).length<=64:=by simp[CM,C4];omega
    rw[show C4 r.out ((x.drop a).take r.guards.length)=CM x r.out r.guards a from rfl] at hW;have hAn:putW d x S a s (k+1)=putQ A (CM x r.out r.guards a) (S (a+e) t) (S (a+e) t).length:=by rw[putW,hyes,<-Av,putQ,A3,<-hAe];rfl
    have aT:=aST (a+e) t h4 h5;have hpl:=pl (a+e) t h4 h5;have hae:(a:Int)+(e:Int)=((a+e:Nat):Int):=by norm_cast
    have hmul:((a+e:Nat):Int) * (n:Int)=(((a+e) * n:Nat):Int):=by norm_cast
    have hmulb:(a+e) * n<=1024 * 1024:=B6 (by omega) hn;generalize CM x r.out r.guards a=h at *;generalize S (a+e) t=Wd at *;generalize hpe:(a+e) * n+t=p at *;generalize (a+e) * n=an at *;have hpi:(an:Int)+(t:Int)=(p:Int):=by omega
    generalize hbe:a+e=b at *;have pWd:=BL Wd;refine W_T ?_;(with_reducible repeat'(first|simp (disch:=omega) only[push_cast,↓zz,seval,pR,pFi,pX,pO,pL,pRU,pFI,pST,lST,pRI,aI,hre,hgr,hot,pA,pw,he,htq,hae,hdn,hmul,hpi,aT,pWd]|apply Aa|refine sp_ ?_ ?_<;>intro hc<;>push_cast at hc|refine ee hE ?_|refine ee hW ?_|((first|refine cc hE ?_|refine cc hW ?_);(simp(disch:=omega)only[push_cast,↓zz,seval,pR,pFi,pX,pO,pL,pRU,pFI,pST,lST,pRI,aI,hre,hgr,hot,pA,pw,he,htq,hae,hdn,hmul,hpi,aT,pWd]);(fail_if_success change False))|omega|intro _))
    refine AQ (AX (λ(q:Nat)=>q<=Wd.length) (λq=>Wd.length-q)
     (λq=>[(0,.int .i64 a),(1,.int .i64 s),(2,.ptr 5 1 0 0),(3,.ptr 2 1 0 0),(4,.ptr 0 1 0 0),(5,.ptr 4 1 0 0),(6,.ptr 1 1 0 0),(9,.ref 6 1 0 (putQ A h Wd q).length),(16,A4 h),(59,.lst 1 ((ruI d.rules s).map e1)),(60,.int .i64 (ruI d.rules s).length),(61,.int .i64 k),(96,EW Wd),(97,.int .i64 Wd.length),(98,.int .i64 q)])
     (λq=>[⟨6,1,true,[Cu d]⟩,⟨1,1,true,[.int .i64 mo]⟩,⟨1,1,true,[Ct d x (.lst 1 RU) (.lst 1 FI) (.lst 1 OD) (.lst 1 LV)]⟩,⟨1,1,true,ST⟩,⟨1,1,true,[.ref 3 1 0 m]⟩,⟨1,1,true,[.bool false]⟩,⟨1,1,false,(putQ A h Wd q).map A4⟩]) (λenv _=>[Cf 1 (env 9)]) 0 (Aw _) ?_ ?_)
    ·(with_reducible repeat'(first|simp (disch:=omega) only[push_cast,↓zz,seval,pR,pFi,pX,pO,pL,pRU,pFI,pST,pRI,pA,pw,pWd,z8j]|apply Aa|refine sp_ ?_ ?_<;>intro hc<;>push_cast at hc|omega|intro _))
    intro q hq;have hAq:(putQ A h Wd q).length<=901000000:=by have:=ze5 (A:=A) (h:=h) (W:=Wd) (q:=q);omega
    rcases Ah q Wd.length with hql|hql
    ·have hC:=LS h (nth Wd q) (by have:=hwl _ (AL hql);omega)
     have hnx:=z8k (A:=A) (h:=h) hql;have pv:A6 ((h++nth Wd q).map (AV.int .i32))=true:=AE .i32 _;have pv2:A6 ((nth Wd q).map (AV.int .i32))=true:=AE .i32 _;generalize hwe:nth Wd q=w at *;generalize hAqe:putQ A h Wd q=A2 at *;have pA2:=BL A2;generalize hve:h++w=v at *;refine W_T ?_;(with_reducible repeat'(first|simp (disch:=omega) only[push_cast,↓zz,seval,pR,pFi,pX,pO,pL,pRU,pFI,pST,pRI,pA2,pw,pWd,hwe,pv,pv2]|apply Aa|refine sp_ ?_ ?_<;>intro hc<;>push_cast at hc|refine ee hC ?_|(refine cc hC ?_;(simp(disch:=omega)only[push_cast,↓zz,seval,pR,pFi,pX,pO,pL,pRU,pFI,pST,pRI,pA2,pw,pWd,hwe,pv,pv2]);(fail_if_success change False))|omega|intro _))
     all_goals
      refine⟨q+1,?_⟩;(with_reducible repeat'(first|simp (disch:=omega) only[push_cast,↓zz,seval,pR,pFi,pX,pO,pL,pRU,pFI,pST,pRI,pA2,pw,pWd,hnx,pv]|apply Aa|refine sp_ ?_ ?_<;>intro hc<;>push_cast at hc|omega|intro _))
    ·obtain rfl:q=Wd.length:=by omega
     rw[<-hAn] at *;have pA3:=BL (putW d x S a s (k+1));refine W_T ?_;(with_reducible repeat'(first|simp (disch:=omega) only[push_cast,↓zz,seval,pR,pFi,pX,pO,pL,pRU,pFI,pST,pRI,pA3,pw,pWd]|apply Aa|refine sp_ ?_ ?_<;>intro hc<;>push_cast at hc|omega|intro _))
     all_goals
      refine⟨k+1,?_⟩;(with_reducible repeat'(first|simp (disch:=omega) only[push_cast,↓zz,seval,pR,pFi,pX,pO,pL,pRU,pFI,pST,pRI,pA3]|apply Aa|refine sp_ ?_ ?_<;>intro hc<;>push_cast at hc|omega|intro _))
  ·obtain rfl:k=(ruI d.rules s).length:=by omega
   have hall:putW d x S a s (ruI d.rules s).length=allW d x S a s:=rfl;have hlk:(allW d x S a s).length<=900000000:=hlk;rw[hall]
   have hSo:=z8g (allW d x S a s) (by omega) (λw hw=>by
    have h1:w∈outW d x a (s:Nat):=by rw[<-hMeq,J2];exact hw
    have h2:w.length<=100000000:=LQ hgoes ht ⟨λr hr=>(hk.rb r hr).2.1.1,λf hf=>(hk.fb f hf).2.1⟩ hn hx ha htn (((Hy hgoes ht ha htn).2 w).1 h1)
    exact Bb h2 (by decide))
   have hML:=V2 (allW d x S a s);have pA:=BL (allW d x S a s);generalize allW d x S a s=A at *;generalize J1 A=M at *;have pM:=BL M;have hmul:(a:Int) * (n:Int)=((a * n:Nat):Int):=by norm_cast
   have hmulb:a * n<=1024 * 1024:=B6 (by omega) hn;have sM:=sST M;generalize hpe:a * n+s=p at *;generalize a * n=an at *;have hpi:(an:Int)+(s:Int)=(p:Int):=by omega
   have hdec:decide ((mo:Int)<(M.length:Int))=decide (mo<M.length):=BC.2 (by omega);refine W_T ?_;(with_reducible repeat'(first|simp (disch:=omega) only[push_cast,↓zz,seval,pR,pFi,pX,pO,pL,pRU,pFI,pST,lST,pA,pM,hdn,hmul,hpi,sM]|apply Aa|refine sp_ ?_ ?_<;>intro hc<;>push_cast at hc|refine ee hSo ?_|(refine cc hSo ?_;(simp(disch:=omega)only[push_cast,↓zz,seval,pR,pFi,pX,pO,pL,pRU,pFI,pST,lST,pA,pM,hdn,hmul,hpi,sM]);(fail_if_success change False))|omega|intro _));rw[hdec];exact⟨_,_,NA (l0:=outH d (Ct d x (.lst 1 RU) (.lst 1 FI) (.lst 1 OD) (.lst 1 LV)) mo n m (setP S a s M) (decide (mo<M.length))) (gar:=[⟨0,2,false,[]⟩]) rfl (Af _) (hcl _ _) trivial,rfl,(setP S a s M,decide (mo<M.length)),rfl,hnext⟩
theorem KI{P:Program}{f:Nat}{xs:List AV}{l l':List Grp}{K:AV->Ax->Prop}(h:BB P f xs (Abs.hl l') K)(hle:HV l l l'):BB P f xs (Abs.hl l) K:=⟨h.1,λS cargs hS hx=>h.2 S cargs (HW hS hle) hx⟩
noncomputable def outA (d:Desc) (x:List Int) (mo:Nat):AV:=if (outW d x 0 d.start).length<=mo then .tup [EW (outW d x 0 d.start),.int .i64 0] else .tup [.nilS,.int .i64 5]
theorem T4{d:Desc}{x:List Int}{n:Nat}(hk:M2 d x n):BB Tryz.prog 60 [Cu d,A4 x] (Abs.hl []) λy H'=>H'=Abs.hl []/\∃ord L,y=Ct d x (ruV d.rules n) (fiV d.finals n) (.lst 1 (ord.map e1)) (.lst 1 (lvB n ((x.length+1) * n) L))/\Topo d.rules n ord/\LivE d x n L :=
 z83 d x hk.st hk.n1 hk.rl hk.fl hk.start hk.goes hk.cyc hk.ff hk.xl hk.x32 λr hr=>⟨(hk.rb r hr).1,(hk.rb r hr).2.2⟩
theorem X6(d:Desc)(x:List Int){n:Nat}(hk:M2 d x n)(hq:PC Tryz.prog 59 [Cu d,A4 x] (.int .i64 0))(mo:Nat)(h1:1<=mo)(hmo:mo<=9223372036854775807)(hB:Nat.min mo (outW d x 0 d.start).length<=200000):
 PC Tryz.prog 26 [Cu d,A4 x,.int .i64 mo] (outA d x mo):=by
 have pR:=BF d.rules;have pFi:=B9 d.finals;have pX:A6 (x.map (AV.int .i32))=true:=AE .i32 _;have hBe:=T4 hk;have hdn:=hk.st;refine BA I8 ?_;unfold GZ;(with_reducible repeat'(first|simp (disch:=omega) only[push_cast,↓zz,seval,pR,pFi,pX]|apply Aa|refine sp_ ?_ ?_<;>intro hc<;>push_cast at hc|refine ee hq ?_|(refine cc hq ?_;(simp(disch:=omega)only[push_cast,↓zz,seval,pR,pFi,pX]);(fail_if_success change False))|omega|intro _))
 (refine GU [] (hBe) (by decide) (by simp) (by (simp(disch:=omega)only[push_cast,↓zz,seval])) (by (simp(disch:=omega)only[push_cast,↓zz,seval])) (by (simp(disch:=omega)only[push_cast,↓zz,seval])) (by (simp(disch:=omega)only[push_cast,↓zz,seval,Ai,As,AH,BD,Cy,BH])) ?_)
 rintro y H' ⟨rfl,ord,L,rfl,ht,hl⟩;refine⟨_,rfl,by simp,?_⟩;have hmx:(x.length+1) * n<=1025 * 1024:=B6 (by have:=hk.xl;omega) hk.n1;have pO:A6 (ord.map e1)=true:=CU (λ_=>rfl) _;have pL:A6 (lvB n ((x.length+1) * n) L)=true:=HE;have lL:(lvB n ((x.length+1) * n) L).length=(x.length+1) * n:=IL;have pRU:A6 (fD 1 e1 n (ruI d.rules))=true:=Er λ_=>rfl;have pFI:A6 (fD 1 e1 n (fiI d.finals))=true:=Er λ_=>rfl;have pRn:(Ct d x (ruV d.rules n) (fiV d.finals n) (.lst 1 (ord.map e1)) (.lst 1 (lvB n ((x.length+1) * n) L))).pure=true:=by simp[AV.pure,A6,pR,pFi,pX,pO,pL,pRU,pFI,ruV,fiV]
 have hbk:=Ty (σ:=(Nat->Nat->List (List Int)) × Bool) d x (ruV d.rules n) (fiV d.finals n) pRU pFI hdn hk.n1 hk.xl ht (L:=L) 62 [.ptr 5 1 0 0,.ptr 2 1 0 0,.ptr 0 1 0 0,.ptr 4 1 0 0,.ptr 1 1 0 0] 6
  (λs=>outH d (Ct d x (ruV d.rules n) (fiV d.finals n) (.lst 1 (ord.map e1)) (.lst 1 (lvB n ((x.length+1) * n) L))) mo n ((x.length+1) * n) s.1 s.2) (λ_=>rfl) (λ_=>PF pRn) ⟨(show 5<6 by omega),(show 2<6 by omega),(show 0<6 by omega),(show 4<6 by omega),(show 1<6 by omega),trivial⟩
  (λa j s=>OutI d x L ord mo a j s.1 s.2) ((λ_ _=>[]),false) (z7w (C5 ht)) (λa j s ha hj hI hlv=>z8l d x hk ht hl mo hmo hB a j s.1 s.2 ha hj hI hlv)
  (λa j s ha hj hI hlv=>z7y hI (by rw[C5 ht];exact hj) hlv) (λa s ha hI=>zdr hI hl ht)
 generalize hm:(x.length+1) * n=m at *;(with_reducible repeat'(first|simp (disch:=omega) only[push_cast,↓zz,seval,pR,pFi,pX,lL]|apply Aa|refine sp_ ?_ ?_<;>intro hc<;>push_cast at hc|omega|intro _));refine KI (BB.mono hbk ?_) ?_
 rotate_left
 ·unfold outH
  refine⟨⟨rfl,rfl,id,Bc _ _⟩,⟨rfl,rfl,id,Bc _ _⟩,⟨rfl,rfl,id,Bc _ _⟩,⟨rfl,rfl,id,z8i (n:=n)⟩,⟨rfl,rfl,id,Bc _ _⟩,⟨rfl,rfl,id,Bc _ _⟩,trivial⟩
 rintro y H' ⟨rfl,⟨S,many⟩,rfl,hI⟩;simp only at hI ⊢;obtain⟨g1,g2⟩:=zds hI hl hk.goes ht hk.start;unfold outH;have hst:=hk.start;obtain⟨s0,hs0⟩:∃s0:Nat,d.start=s0:=⟨d.start.toNat,by omega⟩;have hsn:s0<n:=by omega
 have hsm:0 * n+s0<m:=by rw[<-hm];exact Et hsn (Aw _)
 have aS:(setT n m S).getD s0 .any=EW (S 0 s0):=by
  have:=z8h (S:=S) (z:=.any) hsn hsm
  rwa [Dp,Ba] at this
 have lS:(setT n m S).length=m:=Zy;have pS:A6 (setT n m S)=true:=PE;have hsm2:s0<m:=by omega
 unfold outA;cases many with
 |true =>
  rw[Ac (by have:=of_decide_eq_true g1.symm;omega)];(with_reducible repeat'(first|simp (disch:=omega) only[push_cast,↓zz,seval]|apply Aa|refine sp_ ?_ ?_<;>intro hc<;>push_cast at hc|omega|intro _))
 |false =>
  have g2:=g2 rfl;rw[Ae (by have:=of_decide_eq_false g1.symm;omega),<-g2,show d.start.toNat=s0 by omega];have pW:=BL (S 0 s0);(with_reducible repeat'(first|simp (disch:=omega) only[push_cast,↓zz,seval,hs0,aS,lS,pS,pW]|apply Aa|refine sp_ ?_ ?_<;>intro hc<;>push_cast at hc|omega|intro _))
  all_goals trace_state
def zom(l:List Bool)(k:Nat):List Int:=((List.range k).filter λi=>nth l i).map λi:Nat=>(i:Int)
noncomputable def zon (d:Desc):List Int:=zom (comeL d) d.states.toNat
noncomputable def goesI (d:Desc):List Int:=zom (goL d) d.states.toNat
noncomputable def ze7 (d:Desc) (i:Nat):Bool:=YT (fwdE d) [d.start] i&&YT (bwdE d) (endE d) i
def cntB(u:Nat->Bool)(k:Nat):Nat:=((List.range k).filter u).length
def numB(u:Nat->Bool)(i:Nat):Int:=if u i=true then (cntB u i:Int) else -1
def keepR(u:Nat->Bool)(l:List Rule):List Rule:=(l.filter λr=>u r.from_.toNat&&u r.to_.toNat).map λr=>⟨numB u r.from_.toNat,numB u r.to_.toNat,r.guards,r.eat,r.out⟩
def keepF(u:Nat->Bool)(l:List FS):List FS:=(l.filter λf=>u f.from_.toNat).map λf=>⟨numB u f.from_.toNat,f.guards,f.out⟩
noncomputable def trimV (d:Desc):Desc :=
 if YT (bwdE d) (endE d) d.start.toNat=false then zoe d.in_ d.out
 else ⟨d.in_,d.out,cntB (ze7 d) d.states.toNat,numB (ze7 d) d.start.toNat,keepR (ze7 d) d.rules,keepF (ze7 d) d.finals⟩
theorem LU(u:Nat->Bool)(k:Nat):cntB u (k+1)=if u k=true then cntB u k+1 else cntB u k:=by
 simp only[cntB,D1,Cg,An,Ci,List.filter_nil];split<;>simp_all
theorem VK{s x:Int}(h:memL (domL s) x):Ez s [[⟨x,x⟩]]=true:=by
 have hb:=(zd8 s).2 x h
 have hm:FZ [⟨x,x⟩] (domL s)=[]:=(Iu (λv hv=>by obtain⟨t,ht,h1,h2⟩:=hv;simp only[Ao] at ht;subst ht;simp only at h1 h2;omega) (λt ht=>by simp only[Ao] at ht;subst ht;simp)).2 λv hv=>by
  obtain⟨t,ht,h1,h2⟩:=hv;simp only[Ao] at ht;subst ht;simp only at h1 h2;have:v=x:=by omega
  rw[this];exact h
 have hc:Kl (-1073741826) [⟨x,x⟩]=true:=by simp[Kl];omega
 simp[Ez,Jw,hm,Pg,hc]
section
variable {d:Desc}
end
structure Trimmed(c:Desc):Prop where
 check:FO c=0
 again:trimV c=c
 all:((zon c).length=c.states.toNat/\(goesI c).length=c.states.toNat)\/(c.states=1/\c.rules=[]/\c.finals=[])
theorem z8m{d:Desc}(h:FO d=0):IH d:=by
 obtain⟨h1,h2,h3⟩:=Iv h;refine⟨λr hr t ht=>?_,λf hf t ht=>?_⟩
 ·have:=h2 r hr
  simp only[Gt,Ab] at this;have:=(HC this.2.2.2.2).2 t ht;omega
 ·have:=h3 f hf
  simp only[Fc,Ab] at this;have:=(HC this.2.2).2 t ht;omega
set_option maxRecDepth 100000
set_option maxRecDepth 100000
set_option maxRecDepth 100000
section
variable {α β:Type}[Inhabited α]
variable {W:Nat->List α}{g:Nat->α->List β}
end
structure WayOk(n:Nat)(w:Int × List Term):Prop where
 e:0<=w.1/\w.1<n
 l:w.2.length<=70000
 p:∀t∈w.2,t.parts.length<=4
set_option maxRecDepth 100000
abbrev pathV(p:List Nat):AV:=.lst 1 (p.map e1)
def resV:Option (List Nat)->AV
 |some x=>pathV x
 |none=>.nilS
set_option maxRecDepth 100000
theorem VL{u v:Nat->Bool}:∀{n:Nat},(∀i,i<n->u i=v i)->cntB u n=cntB v n
 |0,_=>rfl
 |n+1,h=>by rw[LU,LU,h n (by omega),VL λi hi=>h i (by omega)]
theorem Z0{on:Nat->Bool}{s:Nat}(ho:on s=false):∀{n:Nat},s<n->cntB (setB on s) n=cntB on n+1
 |n+1,h=>by
  rw[LU,LU];by_cases hs:s=n
  ·subst hs
   rw[Ae (by simp[setB]),Ac (by simp[ho]),VL (u:=setB on s) (v:=on) λi hi=>by simp[setB];omega]
  ·have:=Z0 ho (n:=n) (by omega)
   have e:setB on s n=on n:=by simp[setB];omega
   rw[e];split<;>omega
structure RInv(n:Nat)(F:List Int)(E:List (Int × Int))(on:Nat->Bool):Prop where
 sound:∀i:Nat,on i=true->Reach E F i
 base:∀s∈F,on s.toNat=true
theorem RInv.set{n:Nat}{F:List Int}{E:List (Int × Int)}{on:Nat->Bool}(h:RInv n F E on){x y:Nat}(hx:on x=true)(he:((x:Int),(y:Int))∈E):RInv n F E (setB on y) where
 sound i hi:=by
  unfold setB at hi;split at hi
  ·rename_i e;subst e;exact .step (h.sound x hx) he
  ·exact h.sound i hi
 base s hs:=by
  unfold setB;split
  ·rfl
  ·exact h.base s hs
structure RIn(n:Nat)(F:List Int)(E:List (Int × Int))(on0 on:Nat->Bool)(more:Bool)(i:Nat):Prop where
 inv:RInv n F E on
 no:more=false->on=on0/\∀j,j<i->on (nth E j).1.toNat=true->on (nth E j).2.toNat=true
 yes:more=true->cntB on0 n<cntB on n
theorem RIn.start{n:Nat}{F:List Int}{E:List (Int × Int)}{on:Nat->Bool}(h:RInv n F E on):RIn n F E on on false 0 :=
 ⟨h,λ_=>⟨rfl,λj hj=>absurd hj (AP j)⟩,λh=>by cases h⟩
theorem RIn.skip{n i:Nat}{F:List Int}{E:List (Int × Int)}{on0 on:Nat->Bool}{more:Bool}(h:RIn n F E on0 on more i){x y:Nat}(he:nth E i=((x:Int),(y:Int)))(hs:on x=true->on y=true):RIn n F E on0 on more (i+1):=by
 refine⟨h.inv,λhm=>⟨(h.no hm).1,λj hj=>?_⟩,h.yes⟩;by_cases e:j=i
 ·subst e;rw[he];simpa using hs
 ·exact (h.no hm).2 j (by omega)
theorem RIn.take{n i:Nat}{F:List Int}{E:List (Int × Int)}{on0 on:Nat->Bool}{more:Bool}(h:RIn n F E on0 on more i){x y:Nat}(he:((x:Int),(y:Int))∈E)(hx:on x=true)(hy:on y=false)(hyn:y<n):RIn n F E on0 (setB on y) true (i+1):=by
 refine⟨h.inv.set hx he,λhm=>(by cases hm),λ_=>?_⟩;have h1:=Z0 hy hyn;cases more with
 |true=>have:=h.yes rfl;omega
 |false=>have:=(h.no rfl).1;subst this;omega
theorem RIn.done{n:Nat}{F:List Int}{E:List (Int × Int)}{on0 on:Nat->Bool}(h:RIn n F E on0 on false E.length):∀e∈E,on e.1.toNat=true->on e.2.toNat=true:=λe he=>by
 obtain⟨j,hj,rfl⟩:=Bm he;have:=(h.no rfl).2 j hj;have e:nth E j=E[j]:=by simp[nth,List.getD,hj]
 rwa [e] at this
set_option maxRecDepth 100000
theorem zoo{d:Desc}(h:FO d=0):¬cycP d.rules d.states.toNat:=λhc=>by
 obtain⟨h1,h2,h3⟩:=Iv h
 have h0:(FD d).1=0:=by
  unfold FO at h;split at h
  ·assumption
  ·omega
 rw[FD,Ac (by simp[h1]),LK h2] at h0;simp only at h0;rw[LK h3] at h0;simp only at h0;rw[Ae hc] at h0;simp at h0
theorem wf_n{d:Desc}(h:FO d=0):∃n:Nat,d.states=n/\1<=n/\n<=1024/\¬cycP d.rules n/\∀r∈d.rules,(0<=r.from_/\r.from_<n)/\0<=r.to_/\r.to_<n:=by
 have hw:=zk0 h;obtain⟨n,hn,h1,h2⟩:=hw.n;refine⟨n,hn,h1,h2,?_,λr hr=>by have:=hw.r r hr;rw[hn] at this;exact this⟩;have:=zoo h
 rwa [hn,Int.toNat_natCast] at this
def conT(x:Int):Term:=⟨0,0,21,0,x,[]⟩
theorem PG{x:Int}(hx:0<=x/\x<=1114111){w:List Int}(hw:w.all symB=true):Ei (conT x) w=some x:=by
 have ho:(conT x).outer=⟨0,0,21,0⟩:=rfl;obtain⟨_,h1,h2⟩:=z5m (p:=⟨0,0,21,0⟩) (x:=x) (by decide) (by omega);have h3:valB ⟨0,0,21,0⟩ x=true:=h1;rw[Ei,Ae hw];simp only[conT,sumP];show (if valB (conT x).outer x&&decide (x<=1114111) then some (IntKind.i64.wrap (0+valP (conT x).outer x)) else none)=some x;rw[ho,h1,h2,A7 hx.2,Int.zero_add,IntWalk.i64_in _ (by omega)];rfl
theorem ze8{gs:List (List Span)}:∀{w:List Int},Win (gs.map symI) w->w.all symB=true:=by
 induction gs with
 |nil=>intro w hw;rw[zjz.1 hw];rfl
 |cons g gs ih =>
  intro w hw;obtain⟨x,r,rfl,h1,h2⟩:=win_cons.1 hw;have hm:=((Jt g).2 x).1 h1;rw[List.all_cons,ih h2,Dx,symB];exact A7 hm.1
theorem Z1{x:Int}{i o:Int}{gs:List (List Span)}(h4:gs.length<=4)(hr:FY (conT x) i o gs.length=true)(hx:0<=x/\x<=1114111)(ho:Ga o x=true):Nr (conT x) i o gs=true:=by
 refine (Vy h4).2 ⟨hr,λw hw=>?_⟩;rw[fitW,PG hx (ze8 hw)];simp[hx,ho]
theorem z8n(x:Int):AV.le (.lst 6 [.agg [.int .i64 0,.int .i64 0,.int .i64 21,.int .i64 0,.int .i64 x,.nilS]]) (FU [conT x]) :=
 AV.le_lst rfl (BP _) (Bp (AV.le_agg (Bp (AV.le_refl _) (Bp (AV.le_refl _) (Bp (AV.le_refl _) (Bp (AV.le_refl _) (Bp (AV.le_refl _) (Bp (AV.le_nilS (by decide)) Fo))))))) Fo)
set_option maxRecDepth 100000
theorem Z2{d:Desc}{x:List Int}:askV d x=0↔FO d=0/\x.length<=1024/\x.all (Ga d.in_)=true:=by
 unfold askV;by_cases h:FO d=0
 ·rw[Ac (by simp[h])]
  by_cases h2:1024<x.length
  ·rw[Ae h2];constructor
   ·intro h;cases h
   ·intro h;omega
  ·rw[Ac h2]
   cases h3:x.all (Ga d.in_) with
   |true=>simp[h];omega
   |false=>simp
 ·rw[Ae h];constructor
  ·intro h;cases h
  ·intro h';exact absurd h'.1 h
theorem ze9{s v:Int}(h:Ga s v=true):0<=v/\v<1114112:=by
 simp only[Ga,Ad] at h;omega
theorem zkm{d:Desc}(h:FO d=0){n:Nat}(hn:d.states=n):Goes d n:=by
 obtain⟨h1,h2,h3⟩:=Iv h;have hw:=zk0 h;refine⟨λr hr=>?_⟩;have h4:=h2 r hr;have h5:=hw.r r hr;rw[hn] at h5;simp only[Gt,eatB,Ab,Cb,B3] at h4;obtain⟨_,_,_,⟨h6,h7⟩,_⟩:=h4;refine⟨h5.1,h5.2,by omega,λhe=>?_⟩;simp only[Dr,B3] at he;omega
theorem IP{d:Desc}{x:List Int}(h:askV d x=0):∃n,M2 d x n:=by
 obtain⟨h1,h2,h3⟩:=Z2.1 h;obtain⟨n,hn,hn1,hn2,hc,hl⟩:=wf_n h1;have hw:=zk0 h1;have hst:=hw.start;have hff:=hw.f;rw[hn] at hst hff;obtain⟨_,k2,k3⟩:=Iv h1;refine⟨n,hn,hn2,hst,hw.rl,hw.fl,h2,λv hv=>?_,zkm h1 hn,hff,λr hr=>?_,λf hf=>?_,hc⟩
 ·have:=ze9 (AJ.1 h3 v hv);omega
 ·have h4:=k2 r hr
  simp only[Gt,eatB,Ab,Cb,B3] at h4;obtain⟨_,_,h5,⟨h6,h7⟩,h8⟩:=h4;obtain⟨g1,g2⟩:=GP h5;obtain⟨w1,w2⟩:=HC h8;exact⟨⟨by omega,λg hg=>by have:=g2 g hg;omega⟩,⟨w1,λt ht=>by have:=w2 t ht;omega⟩,by omega,by omega⟩
 ·have h4:=k3 f hf
  simp only[Fc,Ab] at h4;obtain⟨_,h5,h8⟩:=h4;obtain⟨g1,g2⟩:=GP h5;obtain⟨w1,w2⟩:=HC h8;exact⟨⟨by omega,λg hg=>by have:=g2 g hg;omega⟩,w1,λt ht=>by have:=w2 t ht;omega⟩
noncomputable def runA (d:Desc) (x:List Int) (mo:Int):AV:=if askV d x≠0 then .tup [.nilS,.int .i64 (askV d x)] else if mo<1 then .tup [.nilS,.int .i64 1] else outA d x mo.toNat
theorem GT(d:Desc)(x:List Int)(hf:IH d)(hl:x.length<=9223372036854775807)(h32:∀v∈x,-2147483648<=v/\v<=2147483647)(mo:Int)(hmo:mo<=9223372036854775807)(hB:askV d x=0->Nat.min mo.toNat (outW d x 0 d.start).length<=200000):
 PC Tryz.prog 26 [Cu d,A4 x,.int .i64 mo] (runA d x mo):=by
 have hq:=Px d x hf hl h32;have pR:=BF d.rules;have pFi:=B9 d.finals;have pX:A6 (x.map (AV.int .i32))=true:=AE .i32 _;unfold runA;by_cases h:askV d x=0
 ·rw[Ac (by simp[h])]
  rw[h] at hq;by_cases h1:mo<1
  ·rw[Ae h1]
   refine BA I8 ?_;unfold GZ;(with_reducible repeat'(first|simp (disch:=omega) only[push_cast,↓zz,seval,pR,pFi,pX]|apply Aa|refine sp_ ?_ ?_<;>intro hc<;>push_cast at hc|refine ee hq ?_|(refine cc hq ?_;(simp(disch:=omega)only[push_cast,↓zz,seval,pR,pFi,pX]);(fail_if_success change False))|omega|intro _))
  ·rw[Ac h1]
   obtain⟨n,hk⟩:=IP h;obtain⟨m,rfl⟩:∃m:Nat,mo=m:=⟨mo.toNat,by omega⟩;rw[Int.toNat_natCast] at hB ⊢;exact X6 d x hk hq m (by omega) (by omega) (hB h)
 ·rw[Ae h]
  generalize askV d x=k at *;refine BA I8 ?_;unfold GZ;(with_reducible repeat'(first|simp (disch:=omega) only[push_cast,↓zz,seval,pR,pFi,pX,h]|apply Aa|refine sp_ ?_ ?_<;>intro hc<;>push_cast at hc|refine ee hq ?_|(refine cc hq ?_;(simp(disch:=omega)only[push_cast,↓zz,seval,pR,pFi,pX,h]);(fail_if_success change False))|omega|intro _))
  all_goals trace_state
theorem z8o{l:List Rule}{n:Nat}(hl:∀r∈l,(0<=r.from_/\r.from_<n)/\0<=r.to_/\r.to_<n)(hc:¬cycP l n){ord:List Nat}{s:Nat}(hs:s<n)(hso:s∉ord):∃t,t<n/\t∉ord/\∀r∈l,Dr r=true->r.from_=(t:Nat)->r.to_.toNat∈ord:=by
 refine AU λhno=>?_
 have hx:∀t,t<n->t∉ord->∃i,i<l.length/\Dr (nth l i)=true/\(nth l i).from_=(t:Nat)/\(nth l i).to_.toNat∉ord:=λt h1 h2=>by
  refine AU λh3=>hno ⟨t,h1,h2,λr hr he hf=>?_⟩;refine AU λh4=>h3 ?_;obtain⟨i,hi,rfl⟩:=Bm hr;exact⟨i,hi,by rw[Fq hi];exact he,by rw[Fq hi];exact hf,by rw[Fq hi];exact h4⟩
 have key:∀k:Nat,∃(q:List Nat) (t:Nat),okP l (s:Nat) q/\endP l (s:Nat) q=(t:Nat)/\t<n/\t∉ord/\k<=q.length:=λk=>by
  induction k with
  |zero=>exact⟨[],s,trivial,rfl,hs,hso,Af _⟩
  |succ k ih =>
   obtain⟨q,t,q1,q2,q3,q4,q5⟩:=ih;obtain⟨i,i1,i2,i3,i4⟩:=hx t q3 q4;have hr:=hl _ (AL i1);refine⟨q++[i],(nth l i).to_.toNat,?_,?_,by omega,i4,by simp;omega⟩
   ·rw[Tr,q2];exact⟨q1,Tq.2 ⟨i1,i2,i3⟩,trivial⟩
   ·rw[N8,q2]
    show (nth l i).to_=_;omega
 obtain⟨q,t,q1,_,_,_,q5⟩:=key (n+2);have:=z7m hl hc (by omega) q1;omega
theorem zkn{l:List Rule}{n:Nat}(hl:∀r∈l,(0<=r.from_/\r.from_<n)/\0<=r.to_/\r.to_<n)(hc:¬cycP l n):∃ord,Topo l n ord:=by
 have hole:∀ord:List Nat,ord.Nodup->(∀a∈ord,a<n)->∀s,s<n->s∉ord->ord.length<n:=λord h1 h2 s hs hso=>by
  have:=IK (l:=s::ord) (m:=List.range n) (BO.2 ⟨hso,h1⟩) λa ha=>by
   rcases Ai.1 ha with rfl|ha
   ·exact Bf.2 hs
   ·exact Bf.2 (h2 a ha)
  simp at this;omega
 have key:∀k,k<=n->∃ord:List Nat,ord.length=k/\Xs l ord/\ord.Nodup/\∀a∈ord,a<n:=λk=>by
  induction k with
  |zero=>exact λ_=>⟨[],rfl,λi hi=>absurd hi (AP _),De,λa h=>by cases h⟩
  |succ k ih =>
   intro hk;obtain⟨ord,o1,o2,o3,o4⟩:=ih (by omega)
   obtain⟨s,hs,hso⟩:∃s,s<n/\s∉ord:=by
    refine AU λhno=>?_
    have:=IK (l:=List.range n) (m:=ord) Dk λa ha=>by
     refine AU λh=>hno ⟨a,Bf.1 ha,h⟩
    simp at this;omega
   obtain⟨t,t1,t2,t3⟩:=z8o hl hc hs hso;refine⟨ord++[t],by simp[o1],V9 o2 λr hr he hf=>⟨r.to_.toNat,?_,t3 r hr he hf⟩,?_,λa ha=>?_⟩
   ·have:=hl r hr;omega
   ·refine CH.2 ⟨o3,BO.2 ⟨by simp,De⟩,λa ha b hb=>?_⟩
    rw[Ao.1 hb];rintro rfl;exact t2 ha
   ·rcases Am.1 ha with h|h
    ·exact o4 a h
    ·rw[Ao.1 h];exact t1
 obtain⟨ord,o1,o2,o3,o4⟩:=key n (Af _);refine⟨ord,o3,λs=>⟨o4 s,λhs=>?_⟩,o2⟩;refine AU λh=>?_;have:=hole ord o3 o4 s hs h;omega
theorem R3{d:Desc}{x:List Int}{n:Nat}(hk:M2 d x n):∃ord,Topo d.rules n ord:=zkn (λr hr=>⟨(hk.goes.r r hr).1,(hk.goes.r r hr).2.1⟩) hk.cyc
theorem VM{d:Desc}{x:List Int}{n:Nat}(hk:M2 d x n){a:Nat}{s:Int}(ha:a<=x.length)(hs:0<=s/\s<n):Kb d x a s (outW d x a s):=by
 obtain⟨ord,ht⟩:=R3 hk;have:=Hy hk.goes ht ha (t:=s.toNat) (by omega)
 rwa [Bl hs.1] at this
theorem PH{d:Desc}{x:List Int}{n:Nat}(hk:M2 d x n){w:List Int}(hw:w∈outW d x 0 d.start):w.length<=100000000:=by
 obtain⟨ord,ht⟩:=R3 hk;have h1:=((VM hk (Aw _) hk.start).2 w).1 hw;have h2:=hk.start;have e:((d.start.toNat:Nat):Int)=d.start:=Bl h2.1;rw[<-e] at h1;exact LQ hk.goes ht ⟨λr hr=>(hk.rb r hr).2.1.1,λf hf=>(hk.fb f hf).2.1⟩ hk.n1 hk.xl (Aw _) (by omega) h1
set_option maxRecDepth 100000
theorem X7{d:Desc}{x:List Int}{n:Nat}(hk:M2 d x n){a:Nat}{s:Int}(ha:a<=x.length)(hs:0<=s/\s<n):outW d x a s=J1 (outL d x (outW d x) a s) :=
 Xp (Ts λr hr hf hgo=>by
  obtain⟨_,htt,_,_⟩:=hk.goes.r r hr;have:=FE hgo;have:=(hk.goes.r r hr).2.2.1
  exact VM hk (by omega) htt)
theorem KJ(d:Desc)(x:List Int)(hl:x.length<=9223372036854775807):PC Tryz.prog 23 [Cu d,A4 x] (.bool (!Gq d||(decide (12<x.length)&&decide (x.length<=1024)))):=by
 have hS:=Xm d;have pR:=BF d.rules;have pF:=B9 d.finals;have pX:A6 (x.map (AV.int .i32))=true:=AE .i32 _;generalize Gq d=b at *;refine BA Sc ?_;unfold Lf;cases b with
 |false =>
  rw[E3,Bool.true_or];(with_reducible repeat'(first|simp (disch:=omega) only[push_cast,↓zz,seval,pR,pF,pX]|apply Aa|refine sp_ ?_ ?_<;>intro hc<;>push_cast at hc|refine ee hS ?_|(refine cc hS ?_;(simp(disch:=omega)only[push_cast,↓zz,seval,pR,pF,pX]);(fail_if_success change False))|omega|intro _))
 |true =>
  by_cases h1:12<x.length
  ·by_cases h2:x.length<=1024
   ·rw[A7 h1,A7 h2,Dy,G9,Dx]
    (with_reducible repeat'(first|simp (disch:=omega) only[push_cast,↓zz,seval,pR,pF,pX]|apply Aa|refine sp_ ?_ ?_<;>intro hc<;>push_cast at hc|refine ee hS ?_|(refine cc hS ?_;(simp(disch:=omega)only[push_cast,↓zz,seval,pR,pF,pX]);(fail_if_success change False))|omega|intro _))
    all_goals first|omega|trace_state
   ·rw[A7 h1,AM h2,Dy,G9,Cm]
    (with_reducible repeat'(first|simp (disch:=omega) only[push_cast,↓zz,seval,pR,pF,pX]|apply Aa|refine sp_ ?_ ?_<;>intro hc<;>push_cast at hc|refine ee hS ?_|(refine cc hS ?_;(simp(disch:=omega)only[push_cast,↓zz,seval,pR,pF,pX]);(fail_if_success change False))|omega|intro _))
    all_goals first|omega|trace_state
  ·rw[AM h1,Dy,G9,AI]
   (with_reducible repeat'(first|simp (disch:=omega) only[push_cast,↓zz,seval,pR,pF,pX]|apply Aa|refine sp_ ?_ ?_<;>intro hc<;>push_cast at hc|refine ee hS ?_|(refine cc hS ?_;(simp(disch:=omega)only[push_cast,↓zz,seval,pR,pF,pX]);(fail_if_success change False))|omega|intro _))
   all_goals first|omega|trace_state
def exR:Desc:=⟨1,1,1,0,[⟨0,0,[[⟨97,97⟩]],1,[conT 120]⟩,⟨0,0,[[⟨97,97⟩]],1,[conT 121]⟩],[⟨0,[],[]⟩]⟩
theorem VN:FO exR=0:=by
 refine (Xf (by decide) (λr hr=>?_) (λf hf=>?_) ?_).2
 ·simp only[exR,Ai,As,AH] at hr
  rcases hr with rfl|rfl
  ·simp only[Gt,EZ,Ab,List.all_cons,List.all_nil]
   exact⟨by decide,by decide,VK (Jz.2 (by decide)),by decide,by decide,Z1 (by decide) (by decide) (by decide) (by decide),trivial⟩
  ·simp only[Gt,EZ,Ab,List.all_cons,List.all_nil]
   exact⟨by decide,by decide,VK (Jz.2 (by decide)),by decide,by decide,Z1 (by decide) (by decide) (by decide) (by decide),trivial⟩
 ·simp only[exR,Ao] at hf
  subst hf;decide
 ·rintro⟨C,hC,j,hj⟩
  obtain⟨_,r,hr,he,_,hf⟩:=hC j hj;simp only[exR,Ai,As,AH] at hr;rcases hr with rfl|rfl<;>simp[Dr] at he
theorem z8p:askV exR [97,97]=0:=Z2.2 ⟨VN,by decide,by decide⟩
theorem zko:outW exR [97,97] 0 exR.start=[[120,120],[120,121],[121,120],[121,121]]:=by
 obtain⟨n,hk⟩:=IP z8p;have hn:(0:Int)<=0/\(0:Int)<n:=by have:=hk.start;exact this
 have w1:∀a,a<2->∀gs,CM [97,97] [conT 120] [[gs]] a=[120]:=λa ha gs=>by
  simp only[CM,C4,Bj,Bt];rw[PG (by decide) (by rcases (show a=0\/a=1 by omega) with rfl|rfl<;>rfl)];rfl
 have w2:∀a,a<2->∀gs,CM [97,97] [conT 121] [[gs]] a=[121]:=λa ha gs=>by
  simp only[CM,C4,Bj,Bt];rw[PG (by decide) (by rcases (show a=0\/a=1 by omega) with rfl|rfl<;>rfl)];rfl
 have h2:outW exR [97,97] 2 0=[[]]:=by
  rw[X7 hk (by decide) hn];rfl
 have h1:outW exR [97,97] 1 0=[[120],[121]]:=by
  rw[X7 hk (by decide) hn];have e:∀S:Nat->Int->List (List Int),outL exR [97,97] S 1 0=(S 2 0).map (CM [97,97] [conT 120] [[⟨97,97⟩]] 1++·)++((S 2 0).map (CM [97,97] [conT 121] [[⟨97,97⟩]] 1++·)++[]):=λS=>rfl
  rw[e,h2,w1 1 (by decide),w2 1 (by decide)];rfl
 show outW exR [97,97] 0 0=_;rw[X7 hk (by decide) hn];have e:∀S:Nat->Int->List (List Int),outL exR [97,97] S 0 0=(S 1 0).map (CM [97,97] [conT 120] [[⟨97,97⟩]] 0++·)++((S 1 0).map (CM [97,97] [conT 121] [[⟨97,97⟩]] 0++·)++[]):=λS=>rfl
 rw[e,h1,w1 0 (by decide),w2 0 (by decide)];rfl
abbrev exRV:AV:=.agg [.int .i64 1,.int .i64 1,.int .i64 1,.int .i64 0,.lst 5 [.agg [.int .i64 0,.int .i64 0,Cv [[⟨97,97⟩]],.int .i64 1,.lst 6 [.agg [.int .i64 0,.int .i64 0,.int .i64 21,.int .i64 0,.int .i64 120,.nilS]]],.agg [.int .i64 0,.int .i64 0,Cv [[⟨97,97⟩]],.int .i64 1,.lst 6 [.agg [.int .i64 0,.int .i64 0,.int .i64 21,.int .i64 0,.int .i64 121,.nilS]]]],.lst 3 [.agg [.int .i64 0,.nilS,.nilS]]]
theorem z8q:AV.le exRV (Cu exR):=by
 refine AV.le_agg (Bp (AV.le_refl _) (Bp (AV.le_refl _) (Bp (AV.le_refl _) (Bp (AV.le_refl _) (Bp (AV.le_lst rfl (BF _) ?_) (Bp (AV.le_lst rfl (B9 _) ?_) Fo))))))
 ·refine Bp (AV.le_agg (Bp (AV.le_refl _) (Bp (AV.le_refl _) (Bp (AV.le_refl _) (Bp (AV.le_refl _) (Bp (z8n 120) Fo)))))) (Bp (AV.le_agg (Bp (AV.le_refl _) (Bp (AV.le_refl _) (Bp (AV.le_refl _) (Bp (AV.le_refl _) (Bp (z8n 121) Fo)))))) Fo)
 ·exact Bp (AV.le_agg (Bp (AV.le_refl _) (Bp (AV.le_nilS (by decide)) (Bp (AV.le_nilS (by decide)) Fo)))) Fo
theorem KN:PC Tryz.prog 24 [] (.bool true):=by
 have hf:=z8m VN;have h4:=GT exR [97,97] hf (by decide) (by decide) 4 (by decide) λ_=>Bb (Gg _ _) (by decide);have h3:=GT exR [97,97] hf (by decide) (by decide) 3 (by decide) λ_=>Bb (Gg _ _) (by decide);unfold runA outA at h4 h3;rw[Ac (by simp[z8p]),Ac (by decide),zko] at h4 h3;rw[Ae (by decide)] at h4;rw[Ac (by decide)] at h3;have h4:=Jb h4 (Bp z8q (Bp (AV.le_refl _) (Bp (AV.le_refl _) Fo)));have h3:=Jb h3 (Bp z8q (Bp (AV.le_refl _) (Bp (AV.le_refl _) Fo)));have hrs:Kt [120,121]=[120,121]:=by decide +kernel
 refine pc_t' Sd ?_;unfold Lg;refine Ub (W_T ?_);(with_reducible repeat'(first|simp (disch:=omega) only[push_cast,↓zz,seval]|apply Aa|refine sp_ ?_ ?_<;>intro hc<;>push_cast at hc|omega|intro _));refine Ub (W_T ?_);(with_reducible repeat'(first|simp (disch:=omega) only[push_cast,↓zz,seval]|apply Aa|refine sp_ ?_ ?_<;>intro hc<;>push_cast at hc|omega|intro _));refine Ub (W_T ?_);(with_reducible repeat'(first|simp (disch:=omega) only[push_cast,↓zz,seval]|apply Aa|refine sp_ ?_ ?_<;>intro hc<;>push_cast at hc|omega|intro _));refine U3 (z0j (l':=[⟨0,2,false,[]⟩,⟨0,2,false,[]⟩,⟨0,2,false,[]⟩,⟨0,2,false,[]⟩,⟨0,2,false,[]⟩,⟨0,2,false,[]⟩,⟨6,1,true,[exRV]⟩]) (g:=6) (d:=8) [0,1,2,3,4,5] (by decide) (by simp) rfl (by decide) ?_ ?_) (W_T ?_)
 ·(simp(disch:=omega)only[push_cast,↓zz,seval])
 ·rfl
 (with_reducible repeat'(first|simp (disch:=omega) only[push_cast,↓zz,seval,hrs]|apply Aa|refine sp_ ?_ ?_<;>intro hc<;>push_cast at hc|(have q_:=(h4);refine ee q_ ?_;clear q_)|(have q_:=(h3);refine ee q_ ?_;clear q_)|(have q_:=(h4);refine cc q_ ?_;clear q_;(simp(disch:=omega)only[push_cast,↓zz,seval,hrs]);(fail_if_success change False))|(have q_:=(h3);refine cc q_ ?_;clear q_;(simp(disch:=omega)only[push_cast,↓zz,seval,hrs]);(fail_if_success change False))|omega|intro _))
 all_goals
  refine⟨[120,121],rfl,?_⟩;(with_reducible repeat'(first|simp (disch:=omega) only[push_cast,↓zz,seval,hrs]|apply Aa|refine sp_ ?_ ?_<;>intro hc<;>push_cast at hc|(have q_:=(h4);refine ee q_ ?_;clear q_)|(have q_:=(h3);refine ee q_ ?_;clear q_)|(have q_:=(h4);refine cc q_ ?_;clear q_;(simp(disch:=omega)only[push_cast,↓zz,seval,hrs]);(fail_if_success change False))|(have q_:=(h3);refine cc q_ ?_;clear q_;(simp(disch:=omega)only[push_cast,↓zz,seval,hrs]);(fail_if_success change False))|omega|intro _))
 all_goals trace_state
set_option maxRecDepth 100000
theorem zea{d:Desc}{x:List Int}{mo:Int}(h:askV d x≠0):runA d x mo=.tup [.nilS,.int .i64 (askV d x)]:=by unfold runA;rw[Ae h]
theorem zeb{d:Desc}{x:List Int}{mo:Nat}(h:askV d x=0)(h1:1<=mo)(hle:(outW d x 0 d.start).length<=mo):runA d x mo=.tup [EW (outW d x 0 d.start),.int .i64 0]:=by
 unfold runA outA;rw[Ac (by simp[h]),Ac (by omega),Int.toNat_natCast,Ae hle]
theorem z8r{d:Desc}{x:List Int}{mo:Nat}(h:askV d x=0)(h1:1<=mo)(hle:mo<(outW d x 0 d.start).length):runA d x mo=.tup [.nilS,.int .i64 5]:=by
 unfold runA outA;rw[Ac (by simp[h]),Ac (by omega),Int.toNat_natCast,Ac (by omega)]
set_option maxRecDepth 100000
theorem zkp(s:Int)(l:List Int)(hl:l.length<=1000000000000)(h32:∀x∈l,-2147483648<=x/\x<=2147483647):PC Tryz.prog 31 [.int .i64 s,A4 l] (.bool (l.all (Ga s))):=by
 have pI:A6 (l.map (AV.int .i32))=true:=AE .i32 _;refine BA U4 ?_;unfold M9;(with_reducible repeat'(first|simp (disch:=omega) only[push_cast,↓zz,seval,pI]|apply Aa|refine sp_ ?_ ?_<;>intro hc<;>push_cast at hc|omega|intro _))
 refine AQ (AX (λ(k:Nat)=>k<=l.length/\l.all (Ga s)=(l.drop k).all (Ga s)) (λk=>l.length-k)
  (λk=>[(0,.int .i64 s),(1,A4 l),(5,.int .i64 k)]) (λ_=>[]) (λ_ _=>[]) 0 (by simp) ?_ ?_)
 ·(with_reducible repeat'(first|simp (disch:=omega) only[push_cast,↓zz,seval,pI]|apply Aa|refine sp_ ?_ ?_<;>intro hc<;>push_cast at hc|omega|intro _))
 rintro k ⟨hk,hr⟩;rcases Ah k l.length with hkl|hkl
 ·have hI:=zd7 s (nth l k) (h32 _ (AL hkl))
  rw[drop_at hkl,List.all_cons] at hr;generalize Ga s (nth l k)=b at *;cases b with
  |true =>
   refine W_T ?_;(with_reducible repeat'(first|simp (disch:=omega) only[push_cast,↓zz,seval,pI]|apply Aa|refine sp_ ?_ ?_<;>intro hc<;>push_cast at hc|refine ee hI ?_|(refine cc hI ?_;(simp(disch:=omega)only[push_cast,↓zz,seval,pI]);(fail_if_success change False))|omega|intro _))
   all_goals
    refine⟨k+1,?_⟩;(with_reducible repeat'(first|simp (disch:=omega) only[push_cast,↓zz,seval]|apply Aa|refine sp_ ?_ ?_<;>intro hc<;>push_cast at hc|omega|intro _));simpa using hr
  |false =>
   refine W_T ?_;(with_reducible repeat'(first|simp (disch:=omega) only[push_cast,↓zz,seval,pI]|apply Aa|refine sp_ ?_ ?_<;>intro hc<;>push_cast at hc|refine ee hI ?_|(refine cc hI ?_;(simp(disch:=omega)only[push_cast,↓zz,seval,pI]);(fail_if_success change False))|omega|intro _))
   all_goals (rw[hr];rfl)
 ·rw[Aj hkl] at hr
  refine W_T ?_;(with_reducible repeat'(first|simp (disch:=omega) only[push_cast,↓zz,seval,pI]|apply Aa|refine sp_ ?_ ?_<;>intro hc<;>push_cast at hc|omega|intro _))
  all_goals (rw[hr];rfl)
end Go.Proofs.YtbcjoeadpjfcfaaGreat
