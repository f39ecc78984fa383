/-
  Parts of the proof that the law holds whatever the input; without conditions.
-/
import Derived.Shelf.SlSortCmp.Whole1
import Derived.Shelf.Small.Bits
import Derived.Ground.SlsfProg
import Derived.Ground.NamesProg
import Derived.Test.YtflibbceibjddaaGreatProg
import Derived.Test.YtflibbceibjddaaGreatNE7
import Derived.Test.YtflibbceibjddaaGreatNE6
import Derived.Test.YtflibbceibjddaaGreatNE4
import Derived.Test.YtflibbceibjddaaGreatNE5
set_option linter.unusedSimpArgs false
set_option linter.unusedVariables false
set_option linter.unusedSectionVars false
set_option maxRecDepth 100000
namespace Go.Proofs.YtflibbceibjddaaGreat
open Abs O1 O2 O3
def I0{β:Type}[Inhabited β](fr:β->Int)(l:List β)(k:Nat)(s:Nat):List Nat:=(List.range k).filter λi=>decide (fr (nth l i)=(s:Int))
section
variable {β:Type}[Inhabited β]{fr:β->Int}{l:List β}
theorem OX(k s:Nat):(I0 fr l k s).length<=k:=by
 have:=BM (λi=>decide (fr (nth l i)=(s:Int))) (List.range k);simpa [I0] using this
theorem Q1{k i:Nat}(hi:fr (nth l k)=i):I0 fr l (k+1)=setD (I0 fr l k) i (I0 fr l k i++[k]):=by
 funext s;simp only[I0,FR,CC,Cb,List.filter_nil,hi,Ai,setD];by_cases e:s=i
 ·subst e;simp
 ·rw[Ac (by omega),Ac e];simp
end
def fiI(l:List HB)(s:Nat):List Nat:=I0 (·.from_) l l.length s
theorem zb5(l:List Rule):I0 (·.from_) l l.length=ruI l:=rfl
def bgL(d:Desc)(x:List Int)(R F:AV)(n:Nat)(T1 T2:Grp):List Grp:=[⟨1,1,true,[.ptr 1 1 0 0]⟩,⟨11,1,true,[rnB d x R F .nilS .nilS]⟩,T1,T2,⟨6,1,true,[EM d]⟩]
def bgR(d:Desc)(x:List Int)(n k:Nat)(V:Nat->Nat):List Grp:=bgL d x (.ref 2 1 0 n) (.ref 3 1 0 n) n ⟨1,1,true,fT 5 n V (I0 (·.from_) d.rules k)⟩ ⟨1,1,true,List.replicate n .nilS⟩++fF 1 e1 n V (I0 (·.from_) d.rules k)
def bgF(d:Desc)(x:List Int)(n k:Nat)(V:Nat->Nat):List Grp:=bgL d x (ruV d.rules n) (.ref 3 1 0 n) n ⟨0,2,false,[]⟩ ⟨1,1,true,fT 5 n V (I0 (·.from_) d.finals k)⟩++fF 1 e1 n V (I0 (·.from_) d.finals k)
theorem VS(d:Desc)(x:List Int)(n k:Nat)(V:Nat->Nat):(bgR d x n k V).length=n+5:=by simp[bgR,bgL,Qu]
theorem VT(d:Desc)(x:List Int)(n k:Nat)(V:Nat->Nat):(bgF d x n k V).length=n+5:=by simp[bgF,bgL,Qu]
theorem HZ{d:Desc}{x:List Int}{R F:AV}{n m:Nat}{T1 T2:Grp}(hm:5<=m)(hR:ltV m R)(hF:ltV m F)(h1:ltL m T1.xs)(h2:ltL m T2.xs):∀G∈bgL d x R F n T1 T2,ltL m G.xs:=λG hG=>by
 have q1:ltV m (FD d.rules):=Cy _ _ (Ca _);have q2:ltV m (Gv d.finals):=Cy _ _ (Cr _);have q3:ltV m (AD x):=Cy _ _ (AB .i32 _);simp only[bgL,Af,Aj,Ar] at hG;rcases hG with rfl|rfl|rfl|rfl|rfl
 ·exact⟨(show 1<m by omega),trivial⟩
 ·exact⟨⟨trivial,trivial,trivial,trivial,q1,q2,q3,hR,hF,trivial,trivial,trivial⟩,trivial⟩
 ·exact h1
 ·exact h2
 ·exact CS _ _ (by simp[AF,HV])
theorem Z5(d:Desc)(x:List Int)(n k:Nat)(V:Nat->Nat):∀G∈bgR d x n k V,ltL (bgR d x n k V).length G.xs:=λG hG=>by
 rw[VS];rcases Am.1 hG with hG|hG
 ·have a1:ltV (n+5) (.ref 2 1 0 n):=show 2<n+5 by omega
  have a2:ltV (n+5) (.ref 3 1 0 n):=show 3<n+5 by omega
  exact HZ (by omega) a1 a2 (zd4 (by omega)) (CS _ _ (Jd n)) G hG
 ·exact zd5 (λ_=>rfl) G hG
theorem Z6(d:Desc)(x:List Int)(n k:Nat)(V:Nat->Nat):∀G∈bgF d x n k V,ltL (bgF d x n k V).length G.xs:=λG hG=>by
 rw[VT];rcases Am.1 hG with hG|hG
 ·have a1:ltV (n+5) (ruV d.rules n):=Cy _ _ (show AF _=true from FZ λ_=>rfl)
  have a2:ltV (n+5) (.ref 3 1 0 n):=show 3<n+5 by omega
  exact HZ (T1:=⟨0,2,false,[]⟩) (by omega) a1 a2 trivial (zd4 (by omega)) G hG
 ·exact zd5 (λ_=>rfl) G hG
theorem XQ{d:Desc}{x:List Int}{R F:AV}{n:Nat}{T1 T2:Grp}{Fm:List Grp}(hF:Fm.length=n)(t:Nat)(ht:t=2\/t=3):Er 0 (fKs t 5 n) (bgL d x R F n T1 T2++Fm)=bgL d x R F n (if t=2 then T1.dead else T1) (if t=3 then T2.dead else T2)++Fm.map Grp.dead:=by
 have m0:(0:Nat)∉fKs t 5 n:=Kk (by omega) (by omega);have m1:(1:Nat)∉fKs t 5 n:=Kk (by omega) (by omega);have m4:(4:Nat)∉fKs t 5 n:=Kk (by omega) (by omega)
 have hK:Er 5 (fKs t 5 n) Fm=Fm.map Grp.dead:=z4t λj hj=>by
  rw[Cd];exact z4r (by omega)
 rw[Uj];have e5:0+(bgL d x R F n T1 T2).length=5:=rfl;rw[e5,hK,bgL,FK,FK,FK,FK,FK,Js,Ac m0,Ac m1,Ac m4];rcases ht with rfl|rfl
 ·rw[Ae (show (0+1+1:Nat)∈fKs 2 5 n by simp[fKs]),Ac (show (0+1+1+1:Nat)∉fKs 2 5 n from Kk (by omega) (by omega))]
  rfl
 ·rw[Ac (show (0+1+1:Nat)∉fKs 3 5 n from Kk (by omega) (by omega)),Ae (show (0+1+1+1:Nat)∈fKs 3 5 n by simp[fKs])]
  rfl
theorem Z7{m b:Nat}{env:Env}(d:Desc)(x:List Int)(n:Nat)(V:Nat->Nat):Ent m b env (Abs.hl (bgR d x n d.rules.length V)) env (Abs.hl (bgL d x (ruV d.rules n) (.ref 3 1 0 n) n ⟨0,2,false,[]⟩ ⟨1,1,true,List.replicate n .nilS⟩++(fF 1 e1 n V (ruI d.rules)).map Grp.dead)):=by
 have h1:(Abs.hl (bgR d x n d.rules.length V)).at_ 2=⟨1,1,true,fT 5 n V (ruI d.rules)⟩:=rfl
 have h2:∀i,i<n->(Abs.hl (bgR d x n d.rules.length V)).at_ (i+5)=gG 1 e1 (V i) (ruI d.rules i):=λi hi=>by
  rw[bgR,Dn,bgL];simp only[List.cons_append,List.nil_append,DK];exact zao hi
 obtain⟨f1,f2⟩:=z4s (w:=1) (e:=e1) (by decide) (λ_=>rfl) h1 h2;refine Lf (g:=1) (w:=11) (v:=1) (d:=2) (ex:=true) (xs:=[rnB d x (.ref 2 1 0 n) (.ref 3 1 0 n) .nilS .nilS]) (ys:=[rnB d x (ruV d.rules n) (.ref 3 1 0 n) .nilS .nilS]) (fKs 2 5 n) (by decide) (by rw[VS];omega) rfl (Kk (by decide) (by omega)) ?_ ?_
 ·refine⟨_,[],rfl,.inr ⟨_,_,rfl,rfl,?_⟩,rfl⟩
  refine⟨_,_,rfl,.inl rfl,_,_,rfl,.inl rfl,_,_,rfl,.inl rfl,_,_,rfl,.inl rfl,_,_,rfl,.inl rfl,_,_,rfl,.inl rfl,_,_,rfl,.inl rfl,_,_,rfl,.inr ⟨f1,f2.symm⟩,_,_,rfl,.inl rfl,_,_,rfl,.inl rfl,_,_,rfl,.inl rfl,rfl⟩
 ·rw[bgR,XQ Qu 2 (.inl rfl),zb5]
  rfl
theorem Z8{m b:Nat}{env:Env}(d:Desc)(x:List Int)(n:Nat)(V:Nat->Nat):Ent m b env (Abs.hl (bgF d x n d.finals.length V)) env (Abs.hl (bgL d x (ruV d.rules n) (.lst 1 (fD 1 e1 n (fiI d.finals))) n ⟨0,2,false,[]⟩ ⟨0,2,false,[]⟩++(fF 1 e1 n V (fiI d.finals)).map Grp.dead)):=by
 have h1:(Abs.hl (bgF d x n d.finals.length V)).at_ 3=⟨1,1,true,fT 5 n V (fiI d.finals)⟩:=rfl
 have h2:∀i,i<n->(Abs.hl (bgF d x n d.finals.length V)).at_ (i+5)=gG 1 e1 (V i) (fiI d.finals i):=λi hi=>by
  rw[bgF,Dn,bgL];simp only[List.cons_append,List.nil_append,DK];exact zao hi
 obtain⟨f1,f2⟩:=z4s (w:=1) (e:=e1) (by decide) (λ_=>rfl) h1 h2;refine Lf (g:=1) (w:=11) (v:=1) (d:=2) (ex:=true) (xs:=[rnB d x (ruV d.rules n) (.ref 3 1 0 n) .nilS .nilS]) (ys:=[rnB d x (ruV d.rules n) (.lst 1 (fD 1 e1 n (fiI d.finals))) .nilS .nilS]) (fKs 3 5 n) (by decide) (by rw[VT];omega) rfl (Kk (by decide) (by omega)) ?_ ?_
 ·refine⟨_,[],rfl,.inr ⟨_,_,rfl,rfl,?_⟩,rfl⟩
  refine⟨_,_,rfl,.inl rfl,_,_,rfl,.inl rfl,_,_,rfl,.inl rfl,_,_,rfl,.inl rfl,_,_,rfl,.inl rfl,_,_,rfl,.inl rfl,_,_,rfl,.inl rfl,_,_,rfl,.inl rfl,_,_,rfl,.inr ⟨f1,f2.symm⟩,_,_,rfl,.inl rfl,_,_,rfl,.inl rfl,rfl⟩
 ·rw[bgF,XQ Qu 3 (.inr rfl)]
  rfl
theorem zd8(d:Desc)(x:List Int)(n k:Nat)(V:Nat->Nat):bgR d x n k V=⟨1,1,true,[.ptr 1 1 0 0]⟩::⟨11,1,true,[rnB d x (.ref 2 1 0 n) (.ref 3 1 0 n) .nilS .nilS]⟩::⟨1,1,true,fT 5 n V (I0 (·.from_) d.rules k)⟩::⟨1,1,true,List.replicate n .nilS⟩::⟨6,1,true,[EM d]⟩::fF 1 e1 n V (I0 (·.from_) d.rules k):=rfl
theorem zd9(d:Desc)(x:List Int)(n k:Nat)(V:Nat->Nat):bgF d x n k V=⟨1,1,true,[.ptr 1 1 0 0]⟩::⟨11,1,true,[rnB d x (ruV d.rules n) (.ref 3 1 0 n) .nilS .nilS]⟩::⟨0,2,false,[]⟩::⟨1,1,true,fT 5 n V (I0 (·.from_) d.finals k)⟩::⟨6,1,true,[EM d]⟩::fF 1 e1 n V (I0 (·.from_) d.finals k):=rfl
def fiV(l:List HB)(n:Nat):AV:=.lst 1 (fD 1 e1 n (fiI l))
theorem zlx(n:Nat):List.replicate n (AV.bool false)=spB n λ_=>false:=by
 refine Cm (by simp[spB]) λi h1 h2=>?_;simp[spB]
theorem zb6{H:A3}{g v:Nat}{l:List Nat}(h:H.at_ g=gG 1 e1 v l):CI 2 (H.only [g]) (.ref g v 0 l.length)/\frzV 2 (H.only [g]) (.ref g v 0 l.length)=.lst 1 (l.map e1):=by
 have hat:(H.only [g]).at_ g=gG 1 e1 v l:=by
  show (if g∈[g] then H.at_ g else (H.at_ g).dead)=_;rw[Ae (by simp),h]
 have htl:(((gG 1 e1 v l).xs.drop 0).take l.length)=l.map e1:=by
  rw[B3];exact Ay (by simp[gG])
 have hp:AF (l.map e1)=true:=Ez (λ_=>rfl) _;constructor
 ·refine⟨by rw[hat];rfl,by rw[hat];exact Nat.one_pos,by rw[hat];simp[gG],?_⟩
  rw[hat,htl];exact (FH _ 1 hp).1
 ·show AV.lst _ _=_
  rw[hat,htl];congr 1;exact (FH _ 1 hp).2
def bgS(d:Desc)(x:List Int)(n v:Nat)(dn:Nat->Bool)(ord:List Nat):List Grp:=srtL d x n (fiV d.finals n) v dn ord++[⟨1,1,true,[.ptr 0 1 0 0]⟩,⟨6,1,true,[EM d]⟩]
theorem Z9(d:Desc)(x:List Int)(n v:Nat)(dn:Nat->Bool)(ord:List Nat):∀G∈bgS d x n v dn ord,ltL 5 G.xs:=λG hG=>by
 rcases Am.1 hG with hG|hG
 ·have h1:ltV 5 (FD d.rules):=Cy _ _ (Ca _)
  have h2:ltV 5 (Gv d.finals):=Cy _ _ (Cr _);have h3:ltV 5 (AD x):=Cy _ _ (AB .i32 _);have h4:ltV 5 (ruV d.rules n):=Cy _ _ (FZ λ_=>rfl);have h5:ltV 5 (fiV d.finals n):=Cy _ _ (FZ λ_=>rfl);simp only[srtL,Af,Aj,Ar] at hG;rcases hG with rfl|rfl|rfl
  ·exact⟨⟨trivial,trivial,trivial,trivial,h1,h2,h3,h4,h5,(show 2<5 by omega),trivial,trivial⟩,trivial⟩
  ·exact CS _ _ (BV.2 λy hy=>by obtain⟨i,_,rfl⟩:=Av.1 hy;rfl)
  ·exact CS _ _ (Ez (λ_=>rfl) _)
 ·simp only[Af,Aj,Ar] at hG
  rcases hG with rfl|rfl
  ·exact⟨(show 0<5 by omega),trivial⟩
  ·exact CS _ _ (by simp[AF,HV])
theorem ZA{m b:Nat}{env:Env}(d:Desc)(x:List Int)(n v:Nat)(dn:Nat->Bool)(ord:List Nat):Ent m b env (Abs.hl (bgS d x n v dn ord)) env (Abs.hl [⟨11,1,true,[rnB d x (ruV d.rules n) (fiV d.finals n) (.lst 1 (ord.map e1)) .nilS]⟩,⟨1,1,true,spB n dn⟩,(gG 1 e1 v ord).dead,⟨1,1,true,[.ptr 0 1 0 0]⟩,⟨6,1,true,[EM d]⟩]):=by
 have h1:(Abs.hl (bgS d x n v dn ord)).at_ 2=gG 1 e1 v ord:=rfl;obtain⟨f1,f2⟩:=zb6 h1;refine Lf (g:=0) (w:=11) (v:=1) (d:=2) (ex:=true) (xs:=[rnB d x (ruV d.rules n) (fiV d.finals n) (.ref 2 v 0 ord.length) .nilS]) (ys:=[rnB d x (ruV d.rules n) (fiV d.finals n) (.lst 1 (ord.map e1)) .nilS]) [2] (by decide) (by simp[bgS,srtL]) rfl (by decide) ?_ rfl;refine⟨_,[],rfl,.inr ⟨_,_,rfl,rfl,?_⟩,rfl⟩;exact⟨_,_,rfl,.inl rfl,_,_,rfl,.inl rfl,_,_,rfl,.inl rfl,_,_,rfl,.inl rfl,_,_,rfl,.inl rfl,_,_,rfl,.inl rfl,_,_,rfl,.inl rfl,_,_,rfl,.inl rfl,_,_,rfl,.inl rfl,_,_,rfl,.inr ⟨f1,f2.symm⟩,_,_,rfl,.inl rfl,rfl⟩
theorem zb7{y:AV}{l:List Grp}(d:Nat)(ks:List Nat)(hok:CI d ((Abs.hl l).only ks) y){z:AV}(hz:frzV d ((Abs.hl l).only ks) y=z)(hp:z.pure=true):Ent 1 0 (λ_=>y) (Abs.hl l) (λ_=>z) (Abs.hl []):=by
 refine (Vb 0 d ks hok).trans ((OI (H':=Abs.hl ([]++Er 0 ks l)) ?_ ?_).trans ((NO (A4 _) (λG hG=>by cases hG) λi hi=>?_).trans (Tl trivial λi hi=>?_)))
 ·simp[Abs.hl,A3.kill,Gh]
 ·intro g hg
  show (Er 0 ks l).getD g default=if g∈ks then (l.getD g default).dead else l.getD g default
  rw[Ih 0 ks l g hg,Bb]
 ·obtain rfl:i=0:=by omega
  show ltV 0 (if (0:Nat)=0 then frzV d ((Abs.hl l).only ks) y else y);rw[Ae rfl,hz];exact Cy _ _ hp
 ·obtain rfl:i=0:=by omega
  show leS [] (if (0:Nat)=0 then frzV d ((Abs.hl l).only ks) y else y) z;rw[Ae rfl,hz];exact EF _ _
def bgV(d:Desc)(x:List Int)(n m:Nat)(ord:List Nat)(at_:Nat)(L:Nat->Nat->Bool):List Grp:=[⟨11,1,true,[rnB d x (ruV d.rules n) (fiV d.finals n) (.lst 1 (ord.map e1)) (.ref 3 1 0 m)]⟩,⟨1,1,true,[.ptr 0 1 0 0]⟩,⟨6,1,true,[EM d]⟩,⟨1,1,true,lvB n m L⟩,⟨1,1,true,[.int .i64 at_]⟩]
theorem z58(d:Desc)(x:List Int){n:Nat}(hdn:d.states=n)(hn:n<=1024)(hrl:d.rules.length<=4096)(hfl:d.finals.length<=4096)(hs:0<=d.start/\d.start<n)(hgo:Goes d n)(hcy:¬cycP d.rules n)(hlf:∀r∈d.finals,0<=r.from_/\r.from_<n)(hxl:x.length<=1024)(h32:∀v∈x,-2147483648<=v/\v<=2147483647)
 (hgb:∀r∈d.rules,(r.guards.length<=1000000/\∀g∈r.guards,g.length<=1000000)/\0<=r.eat/\r.eat<=1000000) :
 B6 Tryz.prog 60 [EM d,AD x] (Abs.hl []) λy H'=>H'=Abs.hl []/\∃ord L,y=Ec d x (ruV d.rules n) (fiV d.finals n) (.lst 1 (ord.map e1)) (.lst 1 (lvB n ((x.length+1) * n) L))/\Topo d.rules n ord/\LivE d x n L:=by
 have pR:=Ca d.rules;have pFi:=Cr d.finals;have pX:AF (x.map (AV.int .i32))=true:=AB .i32 _;have pN:=Jd n;have hl:∀r∈d.rules,0<=r.from_/\r.from_<n:=λr hr=>(hgo.r r hr).1;have hl2:∀r∈d.rules,(0<=r.from_/\r.from_<n)/\0<=r.to_/\r.to_<n:=λr hr=>⟨(hgo.r r hr).1,(hgo.r r hr).2.1⟩;refine DT (GI Vg (W_T ?_));unfold NV;(with_reducible repeat'(first|simp (disch:=omega) only[push_cast,↓zz,seval,pR,pFi,hdn]|apply Aa|refine sp_ ?_ ?_<;>intro hc<;>push_cast at hc|omega|intro _));refine zgl [1,2,3,4] [1,1,11,1] [none,none,none,none,some 1,none,none,some 2,none,some 3,some 4] (by simp) (by decide) ?_;(with_reducible repeat'(first|simp (disch:=omega) only[push_cast,↓zz,seval,yy,Af,Aj,Ar,B8,Dm,B9,BX,BW,pR,pFi,pX,hdn]|apply Aa|refine sp_ ?_ ?_<;>intro hc<;>push_cast at hc|omega|intro _))
 refine Bs (P9 (srcs:=[.grp 4,.grp 3,.grp 1,.grp 2,.grp 0]) (live:=[(1,AD x),(2,.ptr 4 1 0 0),(5,.ptr 0 1 0 0),(29,FD d.rules),(30,.int .i64 d.rules.length),(31,.int .i64 0)])
  (heap:=bgL d x (.ref 2 1 0 n) (.ref 3 1 0 n) n ⟨1,1,true,List.replicate n .nilS⟩ ⟨1,1,true,List.replicate n .nilS⟩) ?_ (L5 (z4q (α:=Nat) (w:=1) (e:=e1) (n:=n) (t:=2) (by decide) (by simp[bgL]) rfl) ?_))
 ·unfold bgL rnB
  (with_reducible repeat'(first|simp (disch:=omega) only[push_cast,↓zz,seval,pR,pFi,pX,hdn,pN]|apply Aa|refine sp_ ?_ ?_<;>intro hc<;>push_cast at hc|omega|intro _))
 refine JY (λ(q:Nat × (Nat->Nat))=>q.1<=d.rules.length) (λq=>d.rules.length-q.1)
  (λq=>E5 [(1,AD x),(2,.ptr 4 1 0 0),(5,.ptr 0 1 0 0),(29,FD d.rules),(30,.int .i64 d.rules.length),(31,.int .i64 q.1)]) (λq=>Abs.hl (bgR d x n q.1 q.2)) (0,λ_=>1) (by simp) Ent.refl ?_
 rintro⟨k,V⟩ hk;simp only at hk ⊢;rcases Ak k d.rules.length with hkl|hkl
 ·have hr:=hl _ (Bo hkl)
  have hsu:=λi=>Q1 (fr:=λ(r:Rule)=>r.from_) (l:=d.rules) (k:=k) (i:=i);generalize hre:nth d.rules k=r at *;have hgr:=Cc r.guards;have hot:=CO r.out;obtain⟨i,hi⟩:∃i:Nat,r.from_=i:=⟨r.from_.toNat,by omega⟩;have hin:i<n:=by omega
  obtain⟨D,hD⟩:∃D,D=I0 (λ(r:Rule)=>r.from_) d.rules k:=⟨_,rfl⟩;have hFl:(fF 1 e1 n V D).length=n:=Qu;have hTl:(fT 5 n V D).length=n:=zd0;have gI:∀G,(fF 1 e1 n V D++[G]).getD i default=gG 1 e1 (V i) (D i):=λG=>by rw[zd3 hFl hin];exact zao hin
  have gR:∀G,(fF 1 e1 n V D++[G]).getD n default=G:=λG=>by rw[Nq hFl];rfl
  have sR:∀G G',setQ (fF 1 e1 n V D++[G]) n G'=some (fF 1 e1 n V D++[G']):=λG G'=>by rw[Ui _ _ hFl];rfl
  have tI:(fT 5 n V D).getD i .any=.ref (i+5) (V i) 0 (D i).length:=zlv hin;have sI:∀G G',setQ (fF 1 e1 n V D++[G]) i G'=some ((fF 1 e1 n V D).set i G'++[G]):=λG G'=>VI (by omega);have gR2:∀G G',((fF 1 e1 n V D).set i G'++[G]).getD n default=G:=λG G'=>by rw[Nq (by rw[DV];exact hFl)];rfl
  have hSB:∀R G,Db 5 [i+5] (fF 1 e1 n V D++[R]) ((fF 1 e1 n V D).set i G++[R]):=λR G=>XL (by omega) (by simp;omega);have hEx:=zhe (e:=e1) (D i);have hel:(D i).length<=k:=by rw[hD];exact OX k i
  have eT:(fT 5 n V D).set i (.ref (i+5) (V i+1) 0 ((D i).length+1))=fT 5 n (setV V i (V i+1)) (setD D i (D i++[k])):=by
   have:=zd1 (o:=5) (V:=V) (D:=D) (l:=D i++[k]) hin
   rwa [Ah] at this
  have eF:(fF 1 e1 n V D).set i ⟨1,V i+1,false,(D i).map e1++[.int .i64 k]⟩=fF 1 e1 n (setV V i (V i+1)) (setD D i (D i++[k])):=by
   have:=zd2 (V:=V) (D:=D) (w:=1) (e:=e1) (l:=D i++[k]) (by simp) hin;rw[Ao] at this;exact this
  have hsu:=hsu i hi;rw[<-hD] at hsu;rw[zd8,<-hD];unfold rnB;have hni:¬n=i:=by omega
  simp only[gG] at gI;refine W_T ?_;(with_reducible repeat'(first|simp (disch:=omega) only[push_cast,↓zz,seval,xx,Af,Aj,Ar,B8,Dm,B9,BX,BW,pR,pFi,pX,hdn,hre,hi,hgr,hot,hFl,hTl,gI,gR,sR,tI,sI,gR2,hEx,hni]|apply Aa|refine sp_ ?_ ?_<;>intro hc<;>push_cast at hc|refine Hv [i+5] ?_|omega|intro _))
  ·exact hSB _ _
  refine⟨(k+1,setV V i (V i+1)),Gl (gar:=[⟨5,1,true,[.agg [.int .i64 i,.int .i64 r.to_,DZ r.guards,.int .i64 r.eat,HC r.out]]⟩]) _ ?_ (A4 _) (Z5 _ _ _ _ _) ?_,by simp only;omega,by simp only;omega⟩
  ·rw[zd8,hsu,<-eT,<-eF]
   unfold rnB;rw[hdn];rfl
  ·have hRv:ltV (n+5) (FD d.rules):=Cy _ _ pR
   have hXv:ltV (n+5) (AD x):=Cy _ _ pX;rw[VS];exact⟨rfl,hXv,rfl,(show 4<n+5 by omega),rfl,(show 0<n+5 by omega),rfl,hRv,rfl,trivial,rfl,trivial,trivial⟩
 obtain rfl:k=d.rules.length:=by omega
 have cl1:∀G∈bgL d x (ruV d.rules n) (.ref 3 1 0 n) n ⟨0,2,false,[]⟩ ⟨1,1,true,List.replicate n .nilS⟩,ltL 5 G.xs:=HZ (by omega) (Cy _ _ (show AF _=true from FZ λ_=>rfl)) (show 3<5 by omega) trivial (CS _ _ pN);refine L5 ((Z7 d x n V).trans (Gl (l0:=bgL d x (ruV d.rules n) (.ref 3 1 0 n) n ⟨0,2,false,[]⟩ ⟨1,1,true,List.replicate n .nilS⟩) [(1,AD x),(2,.ptr 4 1 0 0),(5,.ptr 0 1 0 0),(29,FD d.rules),(30,.int .i64 d.rules.length),(31,.int .i64 d.rules.length)] rfl (A4 _) cl1 ?_)) ?_
 ·have hRv:ltV 5 (FD d.rules):=Cy _ _ pR
  have hXv:ltV 5 (AD x):=Cy _ _ pX;exact⟨rfl,hXv,rfl,(show 4<5 by omega),rfl,(show 0<5 by omega),rfl,hRv,rfl,trivial,rfl,trivial,trivial⟩
 clear cl1 V;unfold bgL rnB;refine W_T ?_;(with_reducible repeat'(first|simp (disch:=omega) only[push_cast,↓zz,seval,pR,pFi,pX,hdn]|apply Aa|refine sp_ ?_ ?_<;>intro hc<;>push_cast at hc|omega|intro _));have cl2:∀G∈bgL d x (ruV d.rules n) (.ref 3 1 0 n) n ⟨0,2,false,[]⟩ ⟨1,1,true,List.replicate n .nilS⟩,ltL 5 G.xs:=HZ (by omega) (Cy _ _ (show AF _=true from FZ λ_=>rfl)) (show 3<5 by omega) trivial (CS _ _ pN);refine Bs (L5 ((Gl (l0:=bgL d x (ruV d.rules n) (.ref 3 1 0 n) n ⟨0,2,false,[]⟩ ⟨1,1,true,List.replicate n .nilS⟩) (gar:=[]) [(1,AD x),(2,.ptr 4 1 0 0),(5,.ptr 0 1 0 0),(56,Gv d.finals),(57,.int .i64 d.finals.length),(58,.int .i64 0)] ?_ (A4 _) cl2 ?_).trans (z4q (α:=Nat) (w:=1) (e:=e1) (n:=n) (t:=3) (by decide) (by simp[bgL]) rfl)) ?_)
 ·unfold bgL rnB
  rw[hdn];rfl
 ·have hFv:ltV 5 (Gv d.finals):=Cy _ _ pFi
  have hXv:ltV 5 (AD x):=Cy _ _ pX;exact⟨rfl,hXv,rfl,(show 4<5 by omega),rfl,(show 0<5 by omega),rfl,hFv,rfl,trivial,rfl,trivial,trivial⟩
 clear cl2
 refine JY (λ(q:Nat × (Nat->Nat))=>q.1<=d.finals.length) (λq=>d.finals.length-q.1)
  (λq=>E5 [(1,AD x),(2,.ptr 4 1 0 0),(5,.ptr 0 1 0 0),(56,Gv d.finals),(57,.int .i64 d.finals.length),(58,.int .i64 q.1)]) (λq=>Abs.hl (bgF d x n q.1 q.2)) (0,λ_=>1) (by simp) Ent.refl ?_
 rintro⟨k,V⟩ hk;simp only at hk ⊢;rcases Ak k d.finals.length with hkl|hkl
 ·have hr:=hlf _ (Bo hkl)
  have hsu:=λi=>Q1 (fr:=λ(r:HB)=>r.from_) (l:=d.finals) (k:=k) (i:=i);generalize hre:nth d.finals k=r at *;have hgr:=Cc r.guards;have hot:=CO r.out;obtain⟨i,hi⟩:∃i:Nat,r.from_=i:=⟨r.from_.toNat,by omega⟩;have hin:i<n:=by omega
  obtain⟨D,hD⟩:∃D,D=I0 (λ(r:HB)=>r.from_) d.finals k:=⟨_,rfl⟩;have hFl:(fF 1 e1 n V D).length=n:=Qu;have hTl:(fT 5 n V D).length=n:=zd0;have gI:∀G,(fF 1 e1 n V D++[G]).getD i default=gG 1 e1 (V i) (D i):=λG=>by rw[zd3 hFl hin];exact zao hin
  have gR:∀G,(fF 1 e1 n V D++[G]).getD n default=G:=λG=>by rw[Nq hFl];rfl
  have sR:∀G G',setQ (fF 1 e1 n V D++[G]) n G'=some (fF 1 e1 n V D++[G']):=λG G'=>by rw[Ui _ _ hFl];rfl
  have tI:(fT 5 n V D).getD i .any=.ref (i+5) (V i) 0 (D i).length:=zlv hin;have sI:∀G G',setQ (fF 1 e1 n V D++[G]) i G'=some ((fF 1 e1 n V D).set i G'++[G]):=λG G'=>VI (by omega);have gR2:∀G G',((fF 1 e1 n V D).set i G'++[G]).getD n default=G:=λG G'=>by rw[Nq (by rw[DV];exact hFl)];rfl
  have hSB:∀R G,Db 5 [i+5] (fF 1 e1 n V D++[R]) ((fF 1 e1 n V D).set i G++[R]):=λR G=>XL (by omega) (by simp;omega);have hEx:=zhe (e:=e1) (D i);have hel:(D i).length<=k:=by rw[hD];exact OX k i
  have eT:(fT 5 n V D).set i (.ref (i+5) (V i+1) 0 ((D i).length+1))=fT 5 n (setV V i (V i+1)) (setD D i (D i++[k])):=by
   have:=zd1 (o:=5) (V:=V) (D:=D) (l:=D i++[k]) hin
   rwa [Ah] at this
  have eF:(fF 1 e1 n V D).set i ⟨1,V i+1,false,(D i).map e1++[.int .i64 k]⟩=fF 1 e1 n (setV V i (V i+1)) (setD D i (D i++[k])):=by
   have:=zd2 (V:=V) (D:=D) (w:=1) (e:=e1) (l:=D i++[k]) (by simp) hin;rw[Ao] at this;exact this
  have hsu:=hsu i hi;rw[<-hD] at hsu;rw[zd9,<-hD];unfold rnB;have hni:¬n=i:=by omega
  simp only[gG] at gI;refine W_T ?_;(with_reducible repeat'(first|simp (disch:=omega) only[push_cast,↓zz,seval,xx,Af,Aj,Ar,B8,Dm,B9,BX,BW,pR,pFi,pX,hdn,hre,hi,hgr,hot,hFl,hTl,gI,gR,sR,tI,sI,gR2,hEx,hni]|apply Aa|refine sp_ ?_ ?_<;>intro hc<;>push_cast at hc|refine Hv [i+5] ?_|omega|intro _))
  ·exact hSB _ _
  refine⟨(k+1,setV V i (V i+1)),Gl (gar:=[⟨3,1,true,[.agg [.int .i64 i,DZ r.guards,HC r.out]]⟩]) _ ?_ (A4 _) (Z6 _ _ _ _ _) ?_,by simp only;omega,by simp only;omega⟩
  ·rw[zd9,hsu,<-eT,<-eF]
   unfold rnB;rw[hdn];rfl
  ·have hFv:ltV (n+5) (Gv d.finals):=Cy _ _ pFi
   have hXv:ltV (n+5) (AD x):=Cy _ _ pX;rw[VT];exact⟨rfl,hXv,rfl,(show 4<n+5 by omega),rfl,(show 0<n+5 by omega),rfl,hFv,rfl,trivial,rfl,trivial,trivial⟩
 obtain rfl:k=d.finals.length:=by omega
 have cl1:∀G∈bgL d x (ruV d.rules n) (fiV d.finals n) n ⟨0,2,false,[]⟩ ⟨0,2,false,[]⟩,ltL 5 G.xs:=HZ (by omega) (Cy _ _ (show AF _=true from FZ λ_=>rfl)) (Cy _ _ (show AF _=true from FZ λ_=>rfl)) trivial trivial;refine L5 ((Z8 d x n V).trans (Gl (l0:=bgL d x (ruV d.rules n) (fiV d.finals n) n ⟨0,2,false,[]⟩ ⟨0,2,false,[]⟩) [(1,AD x),(2,.ptr 4 1 0 0),(5,.ptr 0 1 0 0),(56,Gv d.finals),(57,.int .i64 d.finals.length),(58,.int .i64 d.finals.length)] rfl (A4 _) cl1 ?_)) ?_
 ·have hFv:ltV 5 (Gv d.finals):=Cy _ _ pFi
  have hXv:ltV 5 (AD x):=Cy _ _ pX;exact⟨rfl,hXv,rfl,(show 4<5 by omega),rfl,(show 0<5 by omega),rfl,hFv,rfl,trivial,rfl,trivial,trivial⟩
 clear cl1 V;unfold bgL rnB;have pB:∀on,AF (spB n on)=true:=λon=>BV.2 λy hy=>by obtain⟨i,_,rfl⟩:=Av.1 hy;rfl
 have pRU:AF (fD 1 e1 n (ruI d.rules))=true:=FZ λ_=>rfl;have pFI:AF (fD 1 e1 n (fiI d.finals))=true:=FZ λ_=>rfl;have pFIv:(fiV d.finals n).pure=true:=pFI;refine W_T ?_;(with_reducible repeat'(first|simp (disch:=omega) only[push_cast,↓zz,seval,pR,pFi,pX,hdn]|apply Aa|refine sp_ ?_ ?_<;>intro hc<;>push_cast at hc|omega|intro _))
 refine Bs (P9 (srcs:=[.grp 1,.grp 5,.virt 1,.grp 0,.grp 4]) (live:=[(1,AD x),(2,.ptr 4 1 0 0),(5,.ptr 3 1 0 0),(10,.ref 1 1 0 n),(86,.int .i64 n),(87,.int .i64 0)])
  (heap:=bgS d x n 1 (λ_=>false) []) ?_ ?_)
 ·unfold bgS srtL rnB ruV fiV gG
  (with_reducible repeat'(first|simp (disch:=omega) only[push_cast,↓zz,seval,pR,pFi,pX,hdn,pB,zlx,pRU,pFI,List.length_nil,AA]|apply Aa|refine sp_ ?_ ?_<;>intro hc<;>push_cast at hc|omega|intro _))
 refine JY (λ(q:Nat × Nat × (Nat->Bool) × List Nat)=>q.1<=n/\Hold (Q0 d.rules n q.1 q.2.2.1 q.2.2.2)) (λq=>n-q.1)
  (λq=>E5 [(1,AD x),(2,.ptr 4 1 0 0),(5,.ptr 3 1 0 0),(10,.ref 1 1 0 n),(86,.int .i64 n),(87,.int .i64 q.1)]) (λq=>Abs.hl (bgS d x n q.2.1 q.2.2.1 q.2.2.2)) (0,1,(λ_=>false),[]) ⟨A4 _,⟨VO _ _⟩⟩ Ent.refl ?_
 rintro⟨k,v,dn,ord⟩ ⟨hk,⟨hA⟩⟩;simp only at hk hA ⊢;have hXv:ltV 5 (AD x):=Cy _ _ pX;rcases Ak k n with hkn|hkn
 ·have hS:=zav d x hn hrl hl2 hcy (fiV d.finals n) pFIv (Jc dn n) k v dn ord (Ad _) hkn (Z3 hA)
  rw[bgS,srtL];refine W_T ?_;(with_reducible repeat'(first|simp (disch:=omega) only[push_cast,↓zz,seval]|apply Aa|refine sp_ ?_ ?_<;>intro hc<;>push_cast at hc|omega|intro _));refine z4u (l0:=srtL d x n (fiV d.finals n) v dn ord) (extra:=[⟨1,1,true,[.ptr 0 1 0 0]⟩,⟨6,1,true,[EM d]⟩]) rfl hS ?_ (F4 d x n _ pFIv _ _ _) ?_
  ·exact⟨(show 0<3 by omega),trivial,(show 1<3 by omega),trivial⟩
  rintro y H' ⟨v2,dn2,new,rfl,rfl,hpost⟩;refine⟨_,rfl,rfl,trivial,F4 d x n _ pFIv _ _ _,?_⟩;have hA2:=VP hA hpost;(with_reducible repeat'(first|simp (disch:=omega) only[push_cast,↓zz,seval]|apply Aa|refine sp_ ?_ ?_<;>intro hc<;>push_cast at hc|omega|intro _));refine⟨(k+1,v2,dn2,ord++new),Gl (gar:=[]) _ (A9 _).symm (A4 _) (Z9 d x n _ _ _) ?_,⟨by omega,⟨hA2⟩⟩,by simp only;omega⟩;exact⟨rfl,hXv,rfl,(show 4<5 by omega),rfl,(show 3<5 by omega),rfl,(show 1<5 by omega),rfl,trivial,rfl,trivial,trivial⟩
 obtain rfl:k=n:=by omega
 have hT:=VQ hA
 refine L5 (ZA d x k v dn ord) (P9 (srcs:=[.grp 0,.grp 3,.grp 4]) (live:=[(1,AD x),(2,.ptr 2 1 0 0),(5,.ptr 1 1 0 0),(86,.int .i64 k),(87,.int .i64 k)])
  (heap:=[⟨11,1,true,[rnB d x (ruV d.rules k) (fiV d.finals k) (.lst 1 (ord.map e1)) .nilS]⟩,⟨1,1,true,[.ptr 0 1 0 0]⟩,⟨6,1,true,[EM d]⟩]) ?_ ?_)
 ·have pO:AF (ord.map e1)=true:=Ez (λ_=>rfl) _
  unfold rnB ruV fiV;(with_reducible repeat'(first|simp (disch:=omega) only[push_cast,↓zz,seval,pR,pFi,pX,hdn,pRU,pFI,pO]|apply Aa|refine sp_ ?_ ?_<;>intro hc<;>push_cast at hc|omega|intro _))
 have pO:AF (ord.map e1)=true:=Ez (λ_=>rfl) _;have hmx:(x.length+1) * k<=1025 * 1024:=Cx (by omega) hn;obtain⟨m,hm⟩:∃m,m=(x.length+1) * k:=⟨_,rfl⟩;have hmi:((x.length:Int)+1) * (k:Int)=(m:Int):=by rw[hm];norm_cast
 rw[<-hm] at hmx;obtain⟨s0,hs0⟩:∃s0:Nat,d.start=s0:=⟨d.start.toNat,by omega⟩
 have hsm:s0<m:=by
  have:=GP (a:=0) (k:=x.length) (t:=s0) (n:=k) (by omega) (A4 _);rw[hm];omega
 have hst:(List.replicate m (AV.bool false)).set s0 (.bool true)=lvB k m (setP (λ_ _=>false) 0 s0 true):=by
  have:=z4w (n:=k) (m:=m) (a:=0) (t:=s0) (L:=λ_ _=>false) (v:=true) (by omega) (by omega);rw[Fh,Bb,<-zaw] at this;exact this
 have pLv:∀L,AF (lvB k m L)=true:=λL=>Nr;unfold rnB;refine W_T ?_;(with_reducible repeat'(first|simp (disch:=omega) only[push_cast,↓zz,seval,pR,pFi,pX,hdn,hmi,hs0,hst,pLv,List.length_replicate]|apply Aa|refine sp_ ?_ ?_<;>intro hc<;>push_cast at hc|omega|intro _));have hstn:d.start.toNat=s0:=by omega
 refine Bs (B5 (λ(q:Nat × (Nat->Nat->Bool))=>q.1<=x.length+1/\Hold (Liv d x k ord q.1 0 q.2)) (λq=>x.length+1-q.1)
  (λq=>[(1,AD x),(2,.ptr 2 1 0 0),(5,.ptr 1 1 0 0),(12,.ptr 4 1 0 0)]) (λq=>bgV d x k m ord q.1 q.2) (λenv _=>[.grp 0,.grp 1,.grp 2,.grp 3,Dp 1 (env 12)]) (0,setP (λ_ _=>false) 0 d.start.toNat true) ⟨A4 _,⟨zax hs (EG hT)⟩⟩ ?_ ?_)
 ·unfold bgV rnB ruV fiV
  (with_reducible repeat'(first|simp (disch:=omega) only[push_cast,↓zz,seval,pR,pFi,pX,hdn,hs0,hstn,pLv,pRU,pFI,pO,Int.toNat_natCast]|apply Aa|refine sp_ ?_ ?_<;>intro hc<;>push_cast at hc|omega|intro _))
 rintro⟨at_,L⟩ ⟨ha,⟨hI⟩⟩;simp only at ha hI ⊢;have hol:=EG hT;rcases Ak at_ (x.length+1) with hal|hal
 ·have hB:=OW ord (by omega)
  have hit:=z57 ord (by omega);unfold bgV rnB ruV fiV;refine W_T ?_;(with_reducible repeat'(first|simp (disch:=omega) only[push_cast,↓zz,seval,pR,pFi,pX,hdn,pLv,pRU,pFI,pO]|apply Aa|refine sp_ ?_ ?_<;>intro hc<;>push_cast at hc|refine ee hB ?_|(refine cc hB ?_;(simp(disch:=omega)only[push_cast,↓zz,seval,pR,pFi,pX,hdn,pLv,pRU,pFI,pO]);(fail_if_success change False))|omega|intro _))
  refine QX (WH (σ:=Nat->Nat->Bool) (λj L=>Hold (Liv d x k ord at_ j L)) [(1,AD x),(2,.ptr 2 1 0 0),(5,.ptr 1 1 0 0),(12,.ptr 4 1 0 0),(122,.fn 134 [.cptr (.lst 1 (ord.map e1))])] (λL=>bgV d x k m ord at_ L)
   [.grp 0,.grp 1,.grp 2,.grp 3,.grp 4] 5 L hit ?_ (λ_=>rfl) rfl ?_ rfl rfl (Z4 _) (z56 _) (by simp) ⟨hI⟩ ?_ ?_)
  ·unfold bgV rnB ruV fiV
   (with_reducible repeat'(first|simp (disch:=omega) only[push_cast,↓zz,seval,pR,pFi,pX,hdn,pLv,pRU,pFI,pO]|apply Aa|refine sp_ ?_ ?_<;>intro hc<;>push_cast at hc|omega|intro _))
  ·(with_reducible repeat'(first|simp (disch:=omega) only[push_cast,↓zz,seval,pO]|apply Aa|refine sp_ ?_ ?_<;>intro hc<;>push_cast at hc|omega|intro _))
  ·rintro j row L hrow ⟨hI⟩
   obtain⟨hj,rfl⟩:=z54 hrow;clear hrow hit;have hjk:j<k:=by omega
   obtain⟨s,hse⟩:∃s,s=nth ord (k-1-j):=⟨_,rfl⟩;have hsn:s<k:=(hT.all _).1 (by rw[hse];exact Bo (by omega));rw[hol,<-hse,show e1 s=AV.int .i64 ((s:Nat):Int) from rfl];have hat:at_<=x.length:=by omega
   have hpm:=GP hsn hat;rw[<-hm] at hpm;have aL:∀L,(lvB k m L).getD (at_ * k+s) .any=.bool (L at_ s):=λL=>zd7 hsn hpm;have lL:∀L,(lvB k m L).length=m:=λL=>Kl;have hmul:(at_:Int) * (k:Int)=((at_ * k:Nat):Int):=by norm_cast
   have hmulb:at_ * k<=1024 * 1024:=Cx (by omega) hn
   have hset:∀L e t,at_+e<=x.length->t<k->(lvB k m L).set ((at_+e) * k+t) (.bool true)=lvB k m (setP L (at_+e) t true)/\(at_+e) * k+t<m:=λL e t he htk=>by
    have:=GP htk he;rw[<-hm] at this;exact⟨z4w htk this,this⟩
   generalize hpe:at_ * k+s=p at *;generalize at_ * k=an at *;have hpi:(an:Int)+(s:Int)=(p:Int):=by omega
   have aLv:=aL L;have aR:(fD 1 e1 k (ruI d.rules)).getD s .any=.lst 1 ((ruI d.rules s).map e1):=zap hsn;have aR2:(fD 1 e1 k (ruI d.rules))[s]? = some (.lst 1 ((ruI d.rules s).map e1)):=XJ hsn;have lRU:(fD 1 e1 k (ruI d.rules)).length=k:=XI;have pRI:AF ((ruI d.rules s).map e1)=true:=Ez (λ_=>rfl) _;refine W_T ?_;(with_reducible repeat'(first|simp (disch:=omega) only[push_cast,↓zz,seval]|apply Aa|refine sp_ ?_ ?_<;>intro hc<;>push_cast at hc|omega|intro _));unfold bgV rnB ruV fiV;refine W_T ?_;cases hLs:L at_ s with
   |false =>
    rw[hLs] at aLv;(with_reducible repeat'(first|simp (disch:=omega) only[push_cast,↓zz,seval,pR,pFi,pX,hdn,pLv,lL,pRU,pFI,pO,hmul,hpi,aLv,aR,aR2,lRU,pRI]|apply Aa|refine sp_ ?_ ?_<;>intro hc<;>push_cast at hc|omega|intro _));exact⟨L,Bv _ _,⟨zb0 hI hT hjk hse hLs⟩⟩
   |true =>
    rw[hLs] at aLv;(with_reducible repeat'(first|simp (disch:=omega) only[push_cast,↓zz,seval,pR,pFi,pX,hdn,pLv,lL,pRU,pFI,pO,hmul,hpi,aLv,aR,aR2,lRU,pRI]|apply Aa|refine sp_ ?_ ?_<;>intro hc<;>push_cast at hc|omega|intro _))
    refine Bs (B5 (λ(q:Nat × (Nat->Nat->Bool))=>q.1<=(ruI d.rules s).length/\Hold (LivS d x k ord at_ j s q.1 q.2)) (λq=>(ruI d.rules s).length-q.1)
     (λq=>[(1,AD x),(2,.ptr 2 1 0 0),(5,.ptr 1 1 0 0),(12,.ptr 4 1 0 0),(144,.lst 1 ((ruI d.rules s).map e1)),(145,.int .i64 (ruI d.rules s).length),(146,.int .i64 q.1)]) (λq=>bgV d x k m ord at_ q.2) (λ_ _=>[]) (0,L) ⟨A4 _,⟨z4x hI hLs⟩⟩ ?_ ?_)
    ·unfold bgV rnB ruV fiV
     (with_reducible repeat'(first|simp (disch:=omega) only[push_cast,↓zz,seval,pR,pFi,pX,hdn,pLv,pRU,pFI,pO,pRI]|apply Aa|refine sp_ ?_ ?_<;>intro hc<;>push_cast at hc|omega|intro _))
    rintro⟨i0,L2⟩ ⟨hi0,⟨hI2⟩⟩;simp only at hi0 hI2 ⊢;unfold bgV rnB ruV fiV;have hIl:=VL d.rules s;rcases Ak i0 (ruI d.rules s).length with hil|hil
    ·obtain⟨i,hi⟩:∃i,i=nth (ruI d.rules s) i0:=⟨_,rfl⟩
     have him:i∈ruI d.rules s:=by rw[hi];exact Bo hil
     obtain⟨i1,i2⟩:=H5.1 him;have aI:((ruI d.rules s).map e1).getD i0 .any=.int .i64 i:=by rw[hi];simp[nth,List.getD,hil]
     have hr:=Bo i1;obtain⟨hg1,hg2⟩:=hgb _ hr;obtain⟨_,htt,_,_⟩:=hgo.r _ hr;have hF:=RI d x (.lst 1 (fD 1 e1 k (ruI d.rules))) (.lst 1 (fD 1 e1 k (fiI d.finals))) (.lst 1 (ord.map e1)) (.lst 1 (lvB k m L2)) (nth d.rules i).guards at_ pRU pFI pO (pLv L2) (by omega) h32 hg1.2 hg1.1 (by omega);simp only[Ec,hdn] at hF;have hyes:=λhg=>zay hI2 hgo hT hjk hse hil hg;have hno:=λhg=>zhk hI2 (k:=i0) hg;rw[<-hi] at hyes hno;have tL:List.take m (lvB k m L2)=lvB k m L2:=Ay (by rw[Kl];exact Ad _);generalize hre:nth d.rules i=r at *;have hgr:=Cc r.guards;have hot:=CO r.out;obtain⟨e,he⟩:∃e:Nat,r.eat=e:=⟨r.eat.toNat,by omega⟩;obtain⟨t,htq⟩:∃t:Nat,r.to_=t:=⟨r.to_.toNat,by omega⟩;have het:r.eat.toNat=e:=by omega
     have htt2:r.to_.toNat=t:=by omega
     rw[het,htt2] at hyes;cases hb:goB x r.guards at_ with
     |false =>
      rw[hb] at hF;have hno:=hno hb;refine W_T ?_;(with_reducible repeat'(first|simp (disch:=omega) only[push_cast,↓zz,seval,pR,pFi,pX,hdn,pLv,lL,pRU,pFI,pO,pRI,aI,hre,hgr,hot,tL]|apply Aa|refine sp_ ?_ ?_<;>intro hc<;>push_cast at hc|refine ee hF ?_|(refine cc hF ?_;(simp(disch:=omega)only[push_cast,↓zz,seval,pR,pFi,pX,hdn,pLv,lL,pRU,pFI,pO,pRI,aI,hre,hgr,hot,tL]);(fail_if_success change False))|omega|intro _));exact⟨(i0+1,L2),⟨by simp,Bv _ _⟩,⟨by omega,⟨hno⟩⟩,by simp only;omega⟩
     |true =>
      rw[hb] at hF;have hyes:=hyes hb;have hle:=JH hb;have hge:=(hgo.r _ hr).2.2.1;rw[het] at hge;obtain⟨hs1,hs2⟩:=hset L2 e t (by omega) (by omega);have hae:(at_:Int)+(e:Int)=((at_+e:Nat):Int):=by norm_cast
      have hmul2:((at_+e:Nat):Int) * (k:Int)=(((at_+e) * k:Nat):Int):=by norm_cast
      have hmulb2:(at_+e) * k<=1024 * 1024:=Cx (by omega) hn;generalize hpe2:(at_+e) * k+t=p2 at *;generalize (at_+e) * k=an2 at *;have hpi2:(an2:Int)+(t:Int)=(p2:Int):=by omega
      generalize hbe:at_+e=b2 at *;refine W_T ?_;(with_reducible repeat'(first|simp (disch:=omega) only[push_cast,↓zz,seval,pR,pFi,pX,hdn,pLv,lL,pRU,pFI,pO,pRI,aI,hre,hgr,hot,tL,he,htq,hae,hmul2,hpi2,hs1]|apply Aa|refine sp_ ?_ ?_<;>intro hc<;>push_cast at hc|refine ee hF ?_|(refine cc hF ?_;(simp(disch:=omega)only[push_cast,↓zz,seval,pR,pFi,pX,hdn,pLv,lL,pRU,pFI,pO,pRI,aI,hre,hgr,hot,tL,he,htq,hae,hmul2,hpi2,hs1]);(fail_if_success change False))|omega|intro _));exact⟨(i0+1,setP L2 b2 t true),⟨by simp,Bv _ _⟩,⟨by omega,⟨hyes⟩⟩,by simp only;omega⟩
    ·obtain rfl:i0=(ruI d.rules s).length:=by omega
     have hend:=zaz hI2 hT hjk hse;refine W_T ?_;(with_reducible repeat'(first|simp (disch:=omega) only[push_cast,↓zz,seval,pR,pFi,pX,hdn,pLv,lL,pRU,pFI,pO,pRI]|apply Aa|refine sp_ ?_ ?_<;>intro hc<;>push_cast at hc|omega|intro _));exact⟨L2,Bv _ _,⟨hend⟩⟩
  ·rintro L ⟨hI⟩
   rw[OV,hol] at hI;have hI2:=zhl hI hT;unfold bgV rnB ruV fiV;(with_reducible repeat'(first|simp (disch:=omega) only[push_cast,↓zz,seval,pR,pFi,pX,hdn,pLv,pRU,pFI,pO]|apply Aa|refine sp_ ?_ ?_<;>intro hc<;>push_cast at hc|omega|intro _));refine⟨(at_+1,L),⟨Bv _ _,by simp⟩,⟨by omega,⟨hI2⟩⟩,by simp only;omega⟩
 ·obtain rfl:at_=x.length+1:=by omega
  have hE:=zhm hI;have tL:∀L,List.take m (lvB k m L)=lvB k m L:=λL=>Ay (by rw[Kl];exact Ad _);unfold bgV rnB ruV fiV;refine W_T ?_;(with_reducible repeat'(first|simp (disch:=omega) only[push_cast,↓zz,seval,pR,pFi,pX,hdn,pLv,pRU,pFI,pO]|apply Aa|refine sp_ ?_ ?_<;>intro hc<;>push_cast at hc|omega|intro _));refine⟨_,_,zb7 4 [0,3] (z:=Ec d x (ruV d.rules k) (fiV d.finals k) (.lst 1 (ord.map e1)) (.lst 1 (lvB k m L))) ?_ ?_ ?_,rfl,ord,L,?_,hT,hE⟩
  ·(simp(disch:=omega)only[push_cast,↓zz,seval,pR,pFi,pX,pLv,pRU,pFI,pO,Kl,tL])
  ·(simp(disch:=omega)only[push_cast,↓zz,seval,pR,pFi,pX,pLv,pRU,pFI,pO,Kl,tL])
   have e:(k:Int)=d.states:=hdn.symm;rw[e];rfl
  ·simp[AV.pure,AF,pR,pFi,pX,pLv,pRU,pFI,pO,ruV,fiV]
  ·rw[hm];rfl
set_option maxRecDepth 100000
def C6:List Int->List Int->Nat
 |[],_=>0
 |_,[]=>0
 |a::l,b::m=>if a=b then C6 l m+1 else 0
def cmpL:List Int->List Int->Int
 |[],[]=>0
 |[],_::_=>-1
 |_::_,[]=>1
 |a::l,b::m=>if a<b then -1 else if b<a then 1 else cmpL l m
theorem RQ:∀a b:List Int,C6 a b<=a.length/\C6 a b<=b.length
 |[],_=>by simp[C6]
 |_::_,[]=>by simp[C6]
 |a::l,b::m=>by
  have:=RQ l m;simp only[C6];split<;>simp<;>omega
theorem Q2{a b:List Int}{k:Nat}(h1:k<a.length)(h2:k<b.length)(he:nth a k=nth b k):C6 (a.drop k) (b.drop k)=C6 (a.drop (k+1)) (b.drop (k+1))+1:=by
 rw[drop_at h1,drop_at h2,C6,Ae he]
theorem Q3{a b:List Int}{k:Nat}(h:¬(k<a.length/\k<b.length/\nth a k=nth b k)):C6 (a.drop k) (b.drop k)=0:=by
 by_cases h1:k<a.length
 ·by_cases h2:k<b.length
  ·rw[drop_at h1,drop_at h2,C6,Ac λe=>h ⟨h1,h2,e⟩]
  ·rw[As (l:=b) (by omega)]
   cases a.drop k<;>rfl
 ·rw[As (l:=a) (by omega)];rfl
theorem OY:∀a b:List Int,cmpL a b=if C6 a b=a.length/\C6 a b=b.length then 0 else if C6 a b=a.length then -1 else if C6 a b=b.length then 1 else if nth a (C6 a b)<nth b (C6 a b) then -1 else if nth b (C6 a b)<nth a (C6 a b) then 1 else 0
 |[],[]=>rfl
 |[],_::_=>by simp[cmpL,C6]
 |_::_,[]=>by simp[cmpL,C6]
 |a::l,b::m=>by
  by_cases e:a=b
  ·subst e
   have h1:C6 (a::l) (a::m)=C6 l m+1:=by rw[C6,Ae rfl]
   have h2:cmpL (a::l) (a::m)=cmpL l m:=by rw[cmpL,Ac (Int.lt_irrefl _),Ac (Int.lt_irrefl _)]
   rw[h1,h2,OY l m];simp only[List.length_cons,Nat.add_right_cancel_iff,K2];rfl
  ·have h1:C6 (a::l) (b::m)=0:=by rw[C6,Ac e]
   have n1:¬(0=l.length+1):=by omega
   have n2:¬(0=m.length+1):=by omega
   rw[h1,cmpL];rw[List.length_cons,List.length_cons,Ac (show ¬(0=l.length+1/\0=m.length+1) from λh=>n1 h.1),Ac n1,Ac n2];by_cases h2:a<b
   ·rw[Ae h2,Ae (show nth (a::l) 0<nth (b::m) 0 from h2)]
   ·have h3:b<a:=by omega
    rw[Ac h2,Ac (show ¬nth (a::l) 0<nth (b::m) 0 from h2),Ae h3,Ae (show nth (b::m) 0<nth (a::l) 0 from h3)]
theorem ZB(a b:List Int)(hl:a.length<=1000000000):PC Tryz.prog 140 [AD a,AD b] (.int .i64 (C6 a b)):=by
 have pa:AF (a.map (AV.int .i32))=true:=AB .i32 _;have pb:AF (b.map (AV.int .i32))=true:=AB .i32 _;refine Cg TA ?_;unfold M3;(with_reducible repeat'(first|simp (disch:=omega) only[push_cast,↓zz,seval]|apply Aa|refine sp_ ?_ ?_<;>intro hc<;>push_cast at hc|omega|intro _))
 refine Bs (B5 (λ(k:Nat)=>k<=a.length/\C6 a b=k+C6 (a.drop k) (b.drop k)) (λk=>a.length-k)
  (λk=>[(0,AD a),(1,AD b),(5,.int .i64 k)]) (λs=>[]) (λenv _=>[]) 0 (by simp) ?_ ?_)
 ·(with_reducible repeat'(first|simp (disch:=omega) only[push_cast,↓zz,seval,pa,pb]|apply Aa|refine sp_ ?_ ?_<;>intro hc<;>push_cast at hc|omega|intro _))
 rintro k ⟨hk,hr⟩;refine W_T ?_;by_cases h:k<a.length/\k<b.length/\nth a k=nth b k
 ·obtain⟨h1,h2,h3⟩:=h
  have hs:=Q2 h1 h2 h3;(with_reducible repeat'(first|simp (disch:=omega) only[push_cast,↓zz,seval,pa,pb,h3]|apply Aa|refine sp_ ?_ ?_<;>intro hc<;>push_cast at hc|omega|intro _))
  all_goals
   refine⟨k+1,?_⟩;(with_reducible repeat'(first|simp (disch:=omega) only[push_cast,↓zz,seval,pa,pb]|apply Aa|refine sp_ ?_ ?_<;>intro hc<;>push_cast at hc|omega|intro _))
 ·have hs:=Q3 h
  rw[hs] at hr;by_cases h1:k<a.length
  ·by_cases h2:k<b.length
   ·have h3:¬nth a k=nth b k:=λe=>h ⟨h1,h2,e⟩
    (with_reducible repeat'(first|simp (disch:=omega) only[push_cast,↓zz,seval,pa,pb,h3]|apply Aa|refine sp_ ?_ ?_<;>intro hc<;>push_cast at hc|omega|intro _))
    all_goals first|omega|trace_state
   ·(with_reducible repeat'(first|simp (disch:=omega) only[push_cast,↓zz,seval,pa,pb]|apply Aa|refine sp_ ?_ ?_<;>intro hc<;>push_cast at hc|omega|intro _))
    all_goals first|omega|trace_state
  ·(with_reducible repeat'(first|simp (disch:=omega) only[push_cast,↓zz,seval,pa,pb]|apply Aa|refine sp_ ?_ ?_<;>intro hc<;>push_cast at hc|omega|intro _))
   all_goals first|omega|trace_state
theorem Us(x:Int):PC Tryz.prog 166 [.int .i32 x] (.bool false):=by
 refine Cg MU ?_;unfold I5;(with_reducible repeat'(first|simp (disch:=omega) only[push_cast,↓zz,seval]|apply Aa|refine sp_ ?_ ?_<;>intro hc<;>push_cast at hc|omega|intro _))
 all_goals trace_state
theorem zb8(x y:Int):PC Tryz.prog 141 [.int .i32 x,.int .i32 y] (.int .i64 (if x<y then -1 else if y<x then 1 else 0)):=by
 have hx:=Us x;have hy:=Us y;refine Cg KG ?_;unfold Hm;by_cases h1:x<y
 ·rw[Ae h1]
  (with_reducible repeat'(first|simp (disch:=omega) only[push_cast,↓zz,seval,h1]|apply Aa|refine sp_ ?_ ?_<;>intro hc<;>push_cast at hc|refine ee hx ?_|refine ee hy ?_|((first|refine cc hx ?_|refine cc hy ?_);(simp(disch:=omega)only[push_cast,↓zz,seval,h1]);(fail_if_success change False))|omega|intro _))
 ·rw[Ac h1]
  by_cases h2:y<x
  ·rw[Ae h2]
   (with_reducible repeat'(first|simp (disch:=omega) only[push_cast,↓zz,seval,h1,h2]|apply Aa|refine sp_ ?_ ?_<;>intro hc<;>push_cast at hc|refine ee hx ?_|refine ee hy ?_|((first|refine cc hx ?_|refine cc hy ?_);(simp(disch:=omega)only[push_cast,↓zz,seval,h1,h2]);(fail_if_success change False))|omega|intro _))
  ·rw[Ac h2]
   (with_reducible repeat'(first|simp (disch:=omega) only[push_cast,↓zz,seval,h1,h2]|apply Aa|refine sp_ ?_ ?_<;>intro hc<;>push_cast at hc|refine ee hx ?_|refine ee hy ?_|((first|refine cc hx ?_|refine cc hy ?_);(simp(disch:=omega)only[push_cast,↓zz,seval,h1,h2]);(fail_if_success change False))|omega|intro _))
   all_goals trace_state
theorem MK(a b:List Int)(ha:a.length<=1000000000)(hb:b.length<=1000000000):PC Tryz.prog 105 [AD a,AD b] (.int .i64 (cmpL a b)):=by
 have pa:AF (a.map (AV.int .i32))=true:=AB .i32 _;have pb:AF (b.map (AV.int .i32))=true:=AB .i32 _;have hF:=ZB a b ha;have hfl:=RQ a b;have hC:=zb8 (nth a (C6 a b)) (nth b (C6 a b));rw[OY];generalize hf:C6 a b=f at *;refine Cg Pn ?_;unfold JC;by_cases h1:f=a.length
 ·by_cases h2:f=b.length
  ·rw[Ae ⟨h1,h2⟩]
   (with_reducible repeat'(first|simp (disch:=omega) only[push_cast,↓zz,seval,pa,pb]|apply Aa|refine sp_ ?_ ?_<;>intro hc<;>push_cast at hc|refine ee hF ?_|(refine cc hF ?_;(simp(disch:=omega)only[push_cast,↓zz,seval,pa,pb]);(fail_if_success change False))|omega|intro _))
   all_goals first|omega|trace_state
  ·rw[Ac (λh=>h2 h.2),Ae h1]
   (with_reducible repeat'(first|simp (disch:=omega) only[push_cast,↓zz,seval,pa,pb]|apply Aa|refine sp_ ?_ ?_<;>intro hc<;>push_cast at hc|refine ee hF ?_|(refine cc hF ?_;(simp(disch:=omega)only[push_cast,↓zz,seval,pa,pb]);(fail_if_success change False))|omega|intro _))
   all_goals first|omega|trace_state
 ·rw[Ac (λh=>h1 h.1),Ac h1]
  by_cases h2:f=b.length
  ·rw[Ae h2]
   (with_reducible repeat'(first|simp (disch:=omega) only[push_cast,↓zz,seval,pa,pb]|apply Aa|refine sp_ ?_ ?_<;>intro hc<;>push_cast at hc|refine ee hF ?_|(refine cc hF ?_;(simp(disch:=omega)only[push_cast,↓zz,seval,pa,pb]);(fail_if_success change False))|omega|intro _))
   all_goals first|omega|trace_state
  ·rw[Ac h2]
   (with_reducible repeat'(first|simp (disch:=omega) only[push_cast,↓zz,seval,pa,pb]|apply Aa|refine sp_ ?_ ?_<;>intro hc<;>push_cast at hc|refine ee hF ?_|refine ee hC ?_|((first|refine cc hF ?_|refine cc hC ?_);(simp(disch:=omega)only[push_cast,↓zz,seval,pa,pb]);(fail_if_success change False))|omega|intro _))
   all_goals first|omega|trace_state
set_option maxRecDepth 100000
theorem RR:∀a b:List Int,cmpL a b=0↔a=b
 |[],[]=>by simp[cmpL]
 |[],_::_=>by simp[cmpL]
 |_::_,[]=>by simp[cmpL]
 |a::l,b::m=>by
  simp only[cmpL,EW];by_cases h1:a<b
  ·rw[Ae h1];constructor
   ·intro h;cases h
   ·intro h;omega
  ·rw[Ac h1]
   by_cases h2:b<a
   ·rw[Ae h2];constructor
    ·intro h;cases h
    ·intro h;omega
   ·rw[Ac h2,RR l m]
    have:a=b:=by omega
    simp[this]
theorem Ut:∀a b:List Int,cmpL a b<0↔ltW a b=true
 |[],[]=>by simp[cmpL,ltW]
 |[],_::_=>by simp[cmpL,ltW]
 |_::_,[]=>by simp[cmpL,ltW]
 |a::l,b::m=>by
  simp only[cmpL,ltW];by_cases h1:a<b
  ·rw[Ae h1,Ae h1];simp
  ·rw[Ac h1,Ac h1]
   by_cases h2:b<a
   ·rw[Ae h2,Ae h2];simp
   ·rw[Ac h2,Ac h2];exact Ut l m
theorem z59(a b:List Int)(ha:a.length<=1000000000)(hb:b.length<=1000000000):PC Tryz.prog 107 [AD a,AD b] (.bool (decide (a=b))):=by
 have hC:=MK a b ha hb;have hz:decide (cmpL a b=0)=decide (a=b):=BH.2 (RR a b);refine Cg Rk ?_;unfold KB;rw[<-hz];generalize cmpL a b=c at *;(with_reducible repeat'(first|simp (disch:=omega) only[push_cast,↓zz,seval]|apply Aa|refine sp_ ?_ ?_<;>intro hc<;>push_cast at hc|refine ee hC ?_|(refine cc hC ?_;(simp(disch:=omega)only[push_cast,↓zz,seval]);(fail_if_success change False))|omega|intro _))
 all_goals trace_state
def Cu(l:List (List Int)):Nat->List (List Int)
 |0=>[]
 |k+1=>if 0<k/\nth l k=nth l (k-1) then Cu l k else Cu l k++[nth l k]
theorem OZ{l:List (List Int)}:∀(k:Nat),k<=l.length->∀w,w∈Cu l k↔w∈l.take k
 |0,_,w=>by simp[Cu]
 |k+1,hk,w=>by
  have ih:=OZ (l:=l) k (by omega) w;rw[take_at (by omega),Cu];split
  ·rename_i h
   rw[ih,Am,An];constructor
   ·exact .inl
   ·rintro (h1|rfl)
    ·exact h1
    ·rw[h.2]
     have e:l.take k=l.take (k-1)++[nth l (k-1)]:=by
      have:=take_at (l:=l) (i:=k-1) (by omega)
      rwa [show k-1+1=k by omega] at this
     rw[e];simp
  ·rw[Am,ih,Am]
theorem Uu{l:List (List Int)}{k:Nat}(hk:k<=l.length){w:List Int}(h:w∈l.take k):∃i,i<k/\w=nth l i:=by
 obtain⟨i,hi,rfl⟩:=Bt h;rw[BG] at hi;refine⟨i,by omega,?_⟩;rw[Gi (by omega),List.getElem_take]
theorem Q4{l:List (List Int)}(hs:l.Pairwise λa b=>ltW b a=false):∀(k:Nat),k<=l.length->Ix (Cu l k)
 |0,_=>List.Pairwise.nil
 |k+1,hk=>by
  have ih:=Q4 hs k (by omega)
  have hle:∀i j,i<j->j<l.length->ltW (nth l j) (nth l i)=false:=λi j hij hj=>by
   rw[Gi hj,Gi (by omega)];exact Cs.1 hs i j (by omega) hj hij
  rw[Cu];split
  ·exact ih
  ·rename_i hne
   refine D4.2 ⟨ih,DW _ _,λa ha b hb=>?_⟩;rw[An.1 hb];obtain⟨i,hi,rfl⟩:=Uu (by omega) ((OZ k (by omega) a).1 ha);cases hlt:ltW (nth l i) (nth l k) with
   |true=>rfl
   |false =>
    exfalso;have e:=HW _ _ hlt (hle i k hi (by omega));refine hne ⟨by omega,?_⟩;by_cases h1:i=k-1
    ·rw[<-e,h1]
    ·have h2:=hle i (k-1) (by omega) (by omega)
     have h3:=hle (k-1) k (by omega) (by omega);rw[<-e] at h3 ⊢;exact HW _ _ h3 h2
theorem Uv(l:List (List Int)):∀k,(Cu l k).length<=k
 |0=>by simp[Cu]
 |k+1=>by
  have:=Uv l k;rw[Cu];split
  ·omega
  ·simp;omega
theorem ZC{l m:List (List Int)}(h:m.Pairwise λa b=>ltW b a=false)(hp:m.Perm l):Hg l=Cu m m.length:=Nl (Q4 h _ (Ad _)) λw=>by
 rw[OZ _ (Ad _),A6];exact hp.mem_iff
theorem z5a{α:Type}[Inhabited α](a b:List α)(k:Nat):nth (a++b) (a.length+k)=nth b k:=by
 simp[nth,List.getD,AH]
theorem XR{α:Type}[Inhabited α](l:List α)(i k:Nat):nth (l.drop i) k=nth l (i+k):=by
 simp[nth,List.getD]
theorem set_mid{α:Type}(C J D:List α)(h v:α):(C++(h::J)++D).set C.length v=(C++[v])++J++D:=by simp
theorem Li(ex:Bool)(l:List (List Int))(hl:l.length<=1000000000)(hw:∀w∈l,w.length<=1000000000):B6 Tryz.prog 106 [.ref 0 1 0 l.length,.fn 107 []] (Abs.hl [⟨1,1,ex,l.map AD⟩]) λy H' =>
 y=.ref 0 1 0 (Cu l l.length).length/\∃z,AF z=true/\H'=Abs.hl [⟨1,1,ex,(Cu l l.length).map AD++z⟩]:=by
 have pL:=B2 l;have hc1:=Uv l l.length;refine WJ (b:=1) Gn rfl ?_;unfold EA;by_cases h2:l.length<2
 ·have hce:Cu l l.length=l:=by
   match l,h2 with
   |[],_=>rfl
   |[a],_=>rfl
  (with_reducible repeat'(first|simp (disch:=omega) only[push_cast,↓zz,seval,pL]|apply Aa|refine sp_ ?_ ?_<;>intro hc<;>push_cast at hc|omega|intro _))
  all_goals
   refine SU [] (.ref 0 1 0 (Cu l l.length).length) [⟨1,1,ex,(Cu l l.length).map AD++[]⟩] ?_ ⟨rfl,[],rfl,rfl⟩;rw[hce,A9];(with_reducible repeat'(first|simp (disch:=omega) only[push_cast,↓zz,seval,pL]|apply Aa|refine sp_ ?_ ?_<;>intro hc<;>push_cast at hc|omega|intro _))
 ·have hcl:∀i,(∀j,1<=j->j<i->nth l j≠nth l (j-1))->i<=l.length->Cu l i=l.take i:=λi=>by
   induction i with
   |zero=>intro _ _;simp[Cu]
   |succ i ih =>
    intro hj hi;rw[Cu,ih (λj h1 h2=>hj j h1 (by omega)) (by omega),take_at (by omega)];by_cases h0:0<i
    ·rw[Ac λh=>hj i (by omega) (by omega) h.2]
    ·rw[Ac λh=>h0 h.1]
  have hfn:∀a∈l,∀b∈l,PC Tryz.prog 107 [AD a,AD b] (.bool (decide (a=b))):=λa ha b hb=>z59 a b (hw a ha) (hw b hb);(with_reducible repeat'(first|simp (disch:=omega) only[push_cast,↓zz,seval,pL]|apply Aa|refine sp_ ?_ ?_<;>intro hc<;>push_cast at hc|omega|intro _))
  refine Bs (B5 (λ(i:Nat)=>(1<=i/\i<=l.length)/\Hold (∀j,1<=j->j<i->nth l j≠nth l (j-1))) (λi=>l.length-i)
   (λi=>[(0,.ref 0 1 0 l.length),(1,.fn 107 []),(5,.int .i64 i)]) (λ_=>[⟨1,1,ex,l.map AD⟩]) (λ_ _=>[]) 1 ⟨by omega,⟨λj h1 h2=>by omega⟩⟩ ?_ ?_)
  ·(with_reducible repeat'(first|simp (disch:=omega) only[push_cast,↓zz,seval,pL]|apply Aa|refine sp_ ?_ ?_<;>intro hc<;>push_cast at hc|omega|intro _))
  rintro i ⟨⟨hi1,hi⟩,⟨hno⟩⟩;rcases Ak i l.length with hil|hil
  ·have m1:nth l i∈l:=Bo hil
   have m2:nth l (i-1)∈l:=Bo (by omega);have hF:=hfn _ m1 _ m2;have a1:((l.map AD).getD i .any)=AD (nth l i):=by simp[nth,List.getD,hil]
   have a2:((l.map AD).getD (i-1) .any)=AD (nth l (i-1)):=by
    have:i-1<l.length:=by omega
    simp[nth,List.getD,this]
   have hci:=hcl i hno (by omega);have hi0:((i:Int)-1).toNat=i-1:=by omega
   generalize hu:nth l i=u at *;generalize hv:nth l (i-1)=v at *;have pu:AF (u.map (AV.int .i32))=true:=AB .i32 _;have pv:AF (v.map (AV.int .i32))=true:=AB .i32 _;refine W_T ?_;by_cases he:u=v
   ·rw[AJ he] at hF
    (with_reducible repeat'(first|simp (disch:=omega) only[push_cast,↓zz,seval,pL,hu,hv,pu,pv,hi0,a1,a2]|apply Aa|refine sp_ ?_ ?_<;>intro hc<;>push_cast at hc|refine ee hF ?_|(refine cc hF ?_;(simp(disch:=omega)only[push_cast,↓zz,seval,pL,hu,hv,pu,pv,hi0,a1,a2]);(fail_if_success change False))|omega|intro _));have hst:Cu l (i+1)=l.take i:=by rw[Cu,Ae ⟨by omega,by rw[hu,hv];exact he⟩,hci]
    have hstep:∀k,Cu l (i+k+1)=if nth l (i+k)=nth l (i+k-1) then Cu l (i+k) else Cu l (i+k)++[nth l (i+k)]:=λk=>by
     rw[Cu];by_cases h:nth l (i+k)=nth l (i+k-1)
     ·rw[Ae ⟨by omega,h⟩,Ae h]
     ·rw[Ac λhh=>h hh.2,Ac h]
    clear hno hcl hF a1 a2 pu pv
    refine Bs (B5 (λ(q:Nat × List (List Int))=>(1<=q.1/\i+q.1<=l.length)/\(Cu l (i+q.1)).length+q.2.length=i+q.1-1) (λq=>l.length-q.1)
     (λq=>[(0,.ref 0 1 0 l.length),(1,.fn 107 []),(5,.int .i64 (Cu l (i+q.1)).length),(6,.ref 0 1 i (l.length-i)),(7,.int .i64 q.1)])
     (λq=>[⟨1,1,ex,(Cu l (i+q.1)++q.2++l.drop (i+q.1-1)).map AD⟩]) (λ_ _=>[]) (1,[]) ⟨by omega,by simp only[hst];simp;omega⟩ ?_ ?_)
    ·have hX:Cu l (i+1)++[]++l.drop (i+1-1)=l:=by rw[hst,A9,Nat.add_sub_cancel,Ci]
     have hCl:(Cu l (i+1)).length=i:=by rw[hst,BG];omega
     simp only[hX,hCl];(with_reducible repeat'(first|simp (disch:=omega) only[push_cast,↓zz,seval,pL]|apply Aa|refine sp_ ?_ ?_<;>intro hc<;>push_cast at hc|omega|intro _))
    rintro⟨k,J⟩ ⟨⟨hk1,hk⟩,hJ⟩;simp only at hk1 hk hJ ⊢;have hXl:(Cu l (i+k)++J++l.drop (i+k-1)).length=l.length:=by simp only[Ah,List.length_drop];omega
    have hCJ:(Cu l (i+k)++J).length=i+k-1:=by rw[Ah];exact hJ
    rcases Ak (i+k) l.length with hkl|hkl
    ·have n1:nth (Cu l (i+k)++J++l.drop (i+k-1)) (i+k)=nth l (i+k):=by
      have:=z5a (Cu l (i+k)++J) (l.drop (i+k-1)) 1;rw[hCJ,XR] at this
      rwa [show i+k-1+1=i+k by omega] at this
     have n2:nth (Cu l (i+k)++J++l.drop (i+k-1)) (i+k-1)=nth l (i+k-1):=by
      have:=z5a (Cu l (i+k)++J) (l.drop (i+k-1)) 0;rw[hCJ,XR,Nat.add_zero] at this;exact this
     have m1:nth l (i+k)∈l:=Bo hkl;have m2:nth l (i+k-1)∈l:=Bo (by omega);have hF:=hfn _ m1 _ m2;have hs:=hstep k
     have hdr:l.drop (i+k-1)=nth l (i+k-1)::l.drop (i+k):=by
      have:=drop_at (l:=l) (i:=i+k-1) (by omega)
      rwa [show i+k-1+1=i+k by omega] at this
     obtain⟨h,J',hJ'⟩:∃h J',J++[nth l (i+k-1)]=h::J':=by
      cases J with
      |nil=>exact⟨_,[],rfl⟩
      |cons a J=>exact⟨a,J++[_],rfl⟩
     have hJl:J'.length=J.length:=by have:=DL List.length hJ';simp at this;omega
     have hXe:Cu l (i+k)++J++l.drop (i+k-1)=Cu l (i+k)++(h::J')++l.drop (i+k):=by
      rw[hdr,<-hJ'];simp
     have hset:(Cu l (i+k)++J++l.drop (i+k-1)).set (Cu l (i+k)).length (nth l (i+k))=Cu l (i+k)++[nth l (i+k)]++J'++l.drop (i+k):=by rw[hXe,set_mid]
     have hsame:Cu l (i+k)++J++l.drop (i+k-1)=Cu l (i+k)++(J++[nth l (i+k-1)])++l.drop (i+k):=by rw[hdr];simp
     have pX:=B2 (Cu l (i+k)++J++l.drop (i+k-1));have hmset:((Cu l (i+k)++J++l.drop (i+k-1)).map AD).set (Cu l (i+k)).length (AD (nth l (i+k)))=(Cu l (i+k)++[nth l (i+k)]++J'++l.drop (i+k)).map AD:=by rw[<-List.map_set,hset]
     have hidx:(i:Int)+k=((i+k:Nat):Int):=by omega
     have e1':i+(k-1)=i+k-1:=by omega
     have hk0:((k:Int)-1).toNat=k-1:=by omega
     have hcl2:(Cu l (i+k)).length<l.length:=by omega
     generalize hX:Cu l (i+k)++J++l.drop (i+k-1)=X at *;generalize hu2:nth l (i+k)=u2 at *;generalize hv2:nth l (i+k-1)=v2 at *;have pu:AF (u2.map (AV.int .i32))=true:=AB .i32 _;have pv:AF (v2.map (AV.int .i32))=true:=AB .i32 _;refine W_T ?_;by_cases he2:u2=v2
     ·rw[AJ he2] at hF
      rw[Ae he2] at hs;(with_reducible repeat'(first|simp (disch:=omega) only[push_cast,↓zz,seval,pX,hXl,n1,n2,pu,pv,hk0,e1']|apply Aa|refine sp_ ?_ ?_<;>intro hc<;>push_cast at hc|refine ee hF ?_|(refine cc hF ?_;(simp(disch:=omega)only[push_cast,↓zz,seval,pX,hXl,n1,n2,pu,pv,hk0,e1']);(fail_if_success change False))|omega|intro _))
      all_goals
       refine⟨(k+1,J++[v2]),?_⟩;have e2:i+(k+1)-1=i+k:=by omega
       have hsm:(Cu l (i+k)).map AD++(J.map AD++AD v2::(l.drop (i+k)).map AD)=X.map AD:=by rw[hsame];simp
       simp only[<-Bl,hs,e2];(with_reducible repeat'(first|simp (disch:=omega) only[push_cast,↓zz,seval,pX,hsm]|apply Aa|refine sp_ ?_ ?_<;>intro hc<;>push_cast at hc|omega|intro _))
     ·rw[Bf he2] at hF
      rw[Ac he2] at hs;have pX1:=B2 (Cu l (i+k)++[u2]++J'++l.drop (i+k));(with_reducible repeat'(first|simp (disch:=omega) only[push_cast,↓zz,seval,pX,hXl,n1,n2,pu,pv,hk0,e1',hmset]|apply Aa|refine sp_ ?_ ?_<;>intro hc<;>push_cast at hc|refine ee hF ?_|(refine cc hF ?_;(simp(disch:=omega)only[push_cast,↓zz,seval,pX,hXl,n1,n2,pu,pv,hk0,e1',hmset]);(fail_if_success change False))|omega|intro _))
      all_goals
       refine⟨(k+1,J'),?_⟩;have e2:i+(k+1)-1=i+k:=by omega
       simp only[<-Bl,hs,e2];(with_reducible repeat'(first|simp (disch:=omega) only[push_cast,↓zz,seval,pX1,Ah,List.length_cons,List.length_nil]|apply Aa|refine sp_ ?_ ?_<;>intro hc<;>push_cast at hc|omega|intro _))
    ·have hkn:i+k=l.length:=by omega
     rw[hkn] at hXl hCJ hJ ⊢;have hm:(Cu l l.length++J++l.drop (l.length-1)).map AD=(Cu l l.length).map AD++(J++l.drop (l.length-1)).map AD:=by rw[Az,Ao]
     have hmt:((Cu l l.length++J++l.drop (l.length-1)).map AD).take (Cu l l.length).length=(Cu l l.length).map AD:=by rw[hm];exact DX (by simp)
     have hmd:((Cu l l.length++J++l.drop (l.length-1)).map AD).drop l.length=[]:=As (by rw[Bi,hXl];exact Ad _);have pX:=B2 (Cu l l.length++J++l.drop (l.length-1));have pC:=B2 (Cu l l.length);have pN:=Jd (l.length-(Cu l l.length).length);generalize Cu l l.length++J++l.drop (l.length-1)=X at *;generalize Cu l l.length=C at *;have hcn:C.length+(l.length-C.length)=l.length:=by omega
     refine W_T ?_;(with_reducible repeat'(first|simp (disch:=omega) only[push_cast,↓zz,seval,pX,hXl,hmt,hmd,hcn,A9]|apply Aa|refine sp_ ?_ ?_<;>intro hc<;>push_cast at hc|omega|intro _))
     all_goals
      refine SU [] (.ref 0 1 0 C.length) [⟨1,1,ex,C.map AD++List.replicate (l.length-C.length) .nilS⟩] ?_ ⟨rfl,_,pN,rfl⟩;(with_reducible repeat'(first|simp (disch:=omega) only[push_cast,↓zz,seval,pX,pC,pN]|apply Aa|refine sp_ ?_ ?_<;>intro hc<;>push_cast at hc|omega|intro _))
   ·rw[Bf he] at hF
    have hnx:Hold (∀j,1<=j->j<i+1->nth l j≠nth l (j-1)):=⟨λj h1 h2=>by
     by_cases e:j=i
     ·subst e;rw[hu,hv];exact he
     ·exact hno j h1 (by omega)⟩
    clear hno hcl;(with_reducible repeat'(first|simp (disch:=omega) only[push_cast,↓zz,seval,pL,hu,hv,pu,pv,hi0,a1,a2]|apply Aa|refine sp_ ?_ ?_<;>intro hc<;>push_cast at hc|refine ee hF ?_|(refine cc hF ?_;(simp(disch:=omega)only[push_cast,↓zz,seval,pL,hu,hv,pu,pv,hi0,a1,a2]);(fail_if_success change False))|omega|intro _))
    all_goals
     refine⟨i+1,?_⟩;(with_reducible repeat'(first|simp (disch:=omega) only[push_cast,↓zz,seval,pL]|apply Aa|refine sp_ ?_ ?_<;>intro hc<;>push_cast at hc|omega|intro _))
     all_goals first|exact⟨by omega,hnx⟩|exact hnx|trace_state
  ·obtain rfl:i=l.length:=by omega
   have hce:=hcl l.length hno (Ad _);rw[A6] at hce;clear hno hcl;refine W_T ?_;(with_reducible repeat'(first|simp (disch:=omega) only[push_cast,↓zz,seval,pL]|apply Aa|refine sp_ ?_ ?_<;>intro hc<;>push_cast at hc|omega|intro _))
   all_goals
    refine SU [] (.ref 0 1 0 (Cu l l.length).length) [⟨1,1,ex,(Cu l l.length).map AD++[]⟩] ?_ ⟨rfl,[],rfl,rfl⟩;rw[hce,A9];(with_reducible repeat'(first|simp (disch:=omega) only[push_cast,↓zz,seval,pL]|apply Aa|refine sp_ ?_ ?_<;>intro hc<;>push_cast at hc|omega|intro _))
   all_goals trace_state
theorem VU{l:List HB}{s i:Nat}:i∈fiI l s↔i<l.length/\(nth l i).from_=s:=by simp[fiI,I0]
theorem zhp(l:List HB)(s:Nat):(fiI l s).length<=l.length:=OX _ _
section
variable (d:Desc)(x:List Int)(S:Nat->Nat->List (List Int))(at_ s:Nat)
def finW(k:Nat):List (List Int):=((fiI d.finals s).take k).flatMap λi=>if (nth d.finals i).guards.length+at_=x.length/\goB x (nth d.finals i).guards at_=true then [Gd x (nth d.finals i).out (nth d.finals i).guards at_] else []
def toW(i:Nat):List (List Int):=S (at_+(nth d.rules i).eat.toNat) (nth d.rules i).to_.toNat
def rulW(k:Nat):List (List Int):=((ruI d.rules s).take k).flatMap λi=>if goB x (nth d.rules i).guards at_=true then (toW d S at_ i).map (Gd x (nth d.rules i).out (nth d.rules i).guards at_++·) else []
def allW:List (List Int):=finW d x at_ s (fiI d.finals s).length++rulW d x S at_ s (ruI d.rules s).length
variable {d x S at_ s}{k:Nat}
theorem z5b:finW d x at_ s 0=[]:=rfl
theorem z5c:rulW d x S at_ s 0=[]:=rfl
theorem zb9(hk:k<(fiI d.finals s).length){f:HB}(hf:nth d.finals (nth (fiI d.finals s) k)=f)(h:(decide (f.guards.length+at_=x.length)&&goB x f.guards at_)=true):finW d x at_ s (k+1)=finW d x at_ s k++[Gd x f.out f.guards at_]:=by
 simp only[Ab,Ai] at h;rw[finW,take_at hk,CX,C5,hf,Ae h];rfl
theorem zhq(hk:k<(fiI d.finals s).length){f:HB}(hf:nth d.finals (nth (fiI d.finals s) k)=f)(h:(decide (f.guards.length+at_=x.length)&&goB x f.guards at_)=false):finW d x at_ s (k+1)=finW d x at_ s k:=by
 rw[finW,take_at hk,CX,C5,hf,Ac,A9]
 ·rfl
 rintro⟨h1,h2⟩;rw[h2,AJ h1] at h;cases h
theorem XS(hk:k<(ruI d.rules s).length){r:Rule}(hf:nth d.rules (nth (ruI d.rules s) k)=r)(h:goB x r.guards at_=true):rulW d x S at_ s (k+1)=rulW d x S at_ s k++(S (at_+r.eat.toNat) r.to_.toNat).map (Gd x r.out r.guards at_++·):=by
 rw[rulW,take_at hk,CX,C5,hf,Ae h,toW,hf];rfl
theorem z5d(hk:k<(ruI d.rules s).length){r:Rule}(hf:nth d.rules (nth (ruI d.rules s) k)=r)(h:goB x r.guards at_=false):rulW d x S at_ s (k+1)=rulW d x S at_ s k:=by
 rw[rulW,take_at hk,CX,C5,hf,Ac (by rw[h];simp),A9];rfl
theorem XT:(finW d x at_ s k).length<=k:=by
 induction k with
 |zero=>simp[finW]
 |succ k ih =>
  rcases Ak k (fiI d.finals s).length with h|h
  ·rw[finW,take_at h,CX,Ah,C5]
   rw[finW] at ih;split
   ·rw[List.length_singleton];omega
   ·rw[List.length_nil];omega
  ·rw[finW,Ay (by omega)]
   rw[finW,Ay h] at ih;omega
theorem zba{w:List Int}:w∈finW d x at_ s (fiI d.finals s).length↔∃f∈d.finals,f.from_=(s:Nat)/\(f.guards.length+at_=x.length/\goB x f.guards at_=true)/\w=Gd x f.out f.guards at_:=by
 rw[finW,A6,DI];constructor
 ·rintro⟨i,hi,hw⟩
  obtain⟨i1,i2⟩:=VU.1 hi;split at hw
  ·rename_i h
   exact⟨_,Bo i1,i2,h,by simpa using hw⟩
  ·cases hw
 ·rintro⟨f,hf,h1,h2,rfl⟩
  obtain⟨i,hi,rfl⟩:=Bt hf;have e:nth d.finals i=d.finals[i]:=Gi hi;exact⟨i,VU.2 ⟨hi,by rw[e];exact h1⟩,by rw[e,Ae h2];simp⟩
theorem zbb{w:List Int}:w∈rulW d x S at_ s (ruI d.rules s).length↔∃r∈d.rules,r.from_=(s:Nat)/\goB x r.guards at_=true/\∃v∈S (at_+r.eat.toNat) r.to_.toNat,w=Gd x r.out r.guards at_++v:=by
 rw[rulW,A6,DI];constructor
 ·rintro⟨i,hi,hw⟩
  obtain⟨i1,i2⟩:=H5.1 hi;split at hw
  ·rename_i h
   obtain⟨v,hv,rfl⟩:=Av.1 hw;exact⟨_,Bo i1,i2,h,v,hv,rfl⟩
  ·cases hw
 ·rintro⟨r,hr,h1,h2,v,hv,rfl⟩
  obtain⟨i,hi,rfl⟩:=Bt hr;have e:nth d.rules i=d.rules[i]:=Gi hi;refine⟨i,H5.2 ⟨hi,by rw[e];exact h1⟩,?_⟩;rw[e,Ae h2,toW,e];exact Av.2 ⟨v,hv,rfl⟩
theorem z5e:Hg (allW d x S at_ s)=Hg (outL d x (λa t=>S a t.toNat) at_ (s:Nat)):=by
 refine (Nl (J2 _) λw=>?_);rw[Jb,allW,Am,zba,zbb,outL,Am,Av,DI];constructor
 ·rintro (⟨f,hf,rfl⟩|⟨r,hr,hw⟩)
  ·obtain⟨h1,h2⟩:=Bq.1 hf
   simp only[Ab,Ai] at h2;exact .inl ⟨f,h1,h2.1,h2.2,rfl⟩
  ·obtain⟨h1,h2⟩:=Bq.1 hr
   simp only[Ab,Ai] at h2;obtain⟨v,hv,rfl⟩:=Av.1 hw;exact .inr ⟨r,h1,h2.1,h2.2,v,hv,rfl⟩
 ·rintro (⟨f,h1,h2,h3,rfl⟩|⟨r,h1,h2,h3,v,hv,rfl⟩)
  ·exact .inl ⟨f,Bq.2 ⟨h1,by simp[h2,h3.1,h3.2]⟩,rfl⟩
  ·exact .inr ⟨r,Bq.2 ⟨h1,by simp[h2,h3]⟩,Av.2 ⟨v,hv,rfl⟩⟩
end
def IF(o:Option (List Int))(w:List Int):Option (List Int):=match o with
 |none=>some w
 |some m=>if cmpL w m<0 then some w else some m
structure LeastI(C:List (List Int))(o:Option (List Int)):Prop where
 no:o=none->C=[]
 yes:∀m,o=some m->m∈C/\∀c∈C,ltW c m=false
section
variable {d:Desc}{x:List Int}{n:Nat}{ord:List Nat}{L:Nat->Nat->Bool}{at_ j:Nat}
structure LeaI(d:Desc)(x:List Int)(L:Nat->Nat->Bool)(ord:List Nat)(at_ j:Nat)(B:Nat->Nat->Option (List Int)):Prop where
 past:∀a t,a<=x.length->L a t=true->Past ord at_ j a t->B a t=(outW d x a t).head?
 rest:∀a t,¬Past ord at_ j a t->B a t=none
variable {B:Nat->Nat->Option (List Int)}
variable {y:List Int}{M:Nat->Nat->Nat->Bool}
end
set_option maxRecDepth 100000
theorem zbc{σ:Type}(d:Desc)(x:List Int){n:Nat}{ord:List Nat}{L:Nat->Nat->Bool}(RU FI:AV)(hRU:RU.pure=true)(hFI:FI.pure=true)(hdn:d.states=n)(hn:n<=1024)(hx:x.length<=1024)(ht:Topo d.rules n ord)
 (f:Nat) (caps:List AV) (N:Nat) (heap:σ->List Grp) (hN:∀s,(heap s).length=N) (hcl:∀s,∀G∈heap s,ltL N G.xs) (hcaps:ltL N caps)
 (Inv:Nat->Nat->σ->Prop) (s0:σ) (h0:Inv x.length 0 s0)
 (call:∀a j s,a<=x.length->j<n->Inv a j s->L a (nth ord j)=true->B6 Tryz.prog f (.int .i64 a::.int .i64 (nth ord j:Nat)::caps) (Abs.hl (heap s)) λy H'=>y=.tup []/\∃s',H'=Abs.hl (heap s')/\Inv a (j+1) s')
 (skip:∀a j s,a<=x.length->j<n->Inv a j s->L a (nth ord j)=false->Inv a (j+1) s)
 (row:∀a s,a+1<=x.length->Inv (a+1) n s->Inv a 0 s) :
 B6 Tryz.prog 61 [Ec d x RU FI (.lst 1 (ord.map e1)) (.lst 1 (lvB n ((x.length+1) * n) L)),.fn f caps] (Abs.hl (heap s0)) λy H'=>y=.tup []/\∃s,H'=Abs.hl (heap s)/\Inv 0 n s:=by
 have pR:=Ca d.rules;have pFi:=Cr d.finals;have pX:AF (x.map (AV.int .i32))=true:=AB .i32 _;have pO:AF (ord.map e1)=true:=Ez (λ_=>rfl) _;have hol:=EG ht;have lL:(lvB n ((x.length+1) * n) L).length=(x.length+1) * n:=Kl;have pL:AF (lvB n ((x.length+1) * n) L)=true:=Nr;have hmx:(x.length+1) * n<=1025 * 1024:=Cx (by omega) hn;have pN:(Ec d x RU FI (.lst 1 (ord.map e1)) (.lst 1 (lvB n ((x.length+1) * n) L))).pure=true:=by simp[AV.pure,AF,pR,pFi,pX,pO,pL,hRU,hFI]
 have aL:∀a t,a<=x.length->t<n->(lvB n ((x.length+1) * n) L).getD (a * n+t) .any=.bool (L a t):=λa t ha htn=>zd7 htn (GP htn ha);have pl:∀a t,a<=x.length->t<n->a * n+t<(x.length+1) * n:=λa t ha htn=>GP htn ha;generalize hm:(x.length+1) * n=m at *;generalize hLV:lvB n m L=LV at *;refine DT (GI L9 (W_T ?_));unfold HI;(with_reducible repeat'(first|simp (disch:=omega) only[push_cast,↓zz,seval,pR,pFi,pX,pO,pL,hRU,hFI]|apply Aa|refine sp_ ?_ ?_<;>intro hc<;>push_cast at hc|omega|intro _))
 refine Bs (JY (λ(q:Nat × σ)=>q.1<=x.length+1/\Hold ((q.1=0->Inv 0 n q.2)/\∀a,q.1=a+1->Inv a 0 q.2)) (λq=>q.1)
  (λq=>E5 [(0,Ec d x RU FI (.lst 1 (ord.map e1)) (.lst 1 LV)),(1,.fn f caps),(4,.int .i64 ((q.1:Int)-1))]) (λq=>Abs.hl (heap q.2)) (x.length+1,s0) ⟨Ad _,⟨⟨λh=>(by cases h),λa h=>?_⟩⟩⟩ ?_ ?_)
 ·obtain rfl:x.length=a:=by simpa using h
  exact h0
 ·refine Gl (gar:=[]) _ (A9 _).symm (DD ((hN _).trans (hN _).symm)) (by rw[hN];exact hcl _) ?_
  rw[hN];refine⟨rfl,trivial,rfl,hcaps,?_,trivial,trivial⟩;show AV.int _ _=_;congr 1;simp only;omega
 rintro⟨k,s⟩ ⟨hk,⟨⟨hI0,hI⟩⟩⟩;simp only at hk hI0 hI ⊢;rcases Nat.eq_zero_or_pos k with rfl|hk0
 ·have hI0:=hI0 rfl
  refine W_T ?_;(with_reducible repeat'(first|simp (disch:=omega) only[push_cast,↓zz,seval,pR,pFi,pX,pO,pL,hRU,hFI]|apply Aa|refine sp_ ?_ ?_<;>intro hc<;>push_cast at hc|omega|intro _))
  all_goals exact⟨_,_,Ent.refl,rfl,s,rfl,hI0⟩
 ·obtain⟨a,rfl⟩:∃a,k=a+1:=⟨k-1,by omega⟩
  have hIa:=hI a rfl;clear hI0 hI;have ha:a<=x.length:=by omega
  refine W_T ?_;(with_reducible repeat'(first|simp (disch:=omega) only[push_cast,↓zz,seval,pR,pFi,pX,pO,pL,hRU,hFI]|apply Aa|refine sp_ ?_ ?_<;>intro hc<;>push_cast at hc|omega|intro _))
  refine Bs (JY (λ(q:Nat × σ)=>q.1<=n/\Hold (Inv a q.1 q.2)) (λq=>n-q.1)
   (λq=>E5 [(0,Ec d x RU FI (.lst 1 (ord.map e1)) (.lst 1 LV)),(1,.fn f caps),(4,.int .i64 a),(19,.lst 1 (ord.map e1)),(20,.int .i64 n),(21,.int .i64 q.1)]) (λq=>Abs.hl (heap q.2)) (0,s) ⟨A4 _,⟨hIa⟩⟩ ?_ ?_)
  ·refine Gl (gar:=[]) _ (A9 _).symm (DD ((hN _).trans (hN _).symm)) (by rw[hN];exact hcl _) ?_
   rw[hN];have hO:ltV N (.lst 1 (ord.map e1)):=Cy _ _ pO;refine⟨rfl,trivial,rfl,hcaps,?_,trivial,rfl,hO,?_,trivial,rfl,trivial,trivial⟩
   ·show AV.int _ _=_
    congr 1;omega
   ·show AV.int _ _=_
    congr 1;omega
  rintro⟨j,s1⟩ ⟨hj,⟨hI⟩⟩;simp only at hj hI ⊢;have hO:ltV N (.lst 1 (ord.map e1)):=Cy _ _ pO;rcases Ak j n with hjn|hjn
  ·have aO:(ord.map e1).getD j .any=.int .i64 (nth ord j:Nat):=by simp[nth,List.getD,hol,hjn]
   have htn:nth ord j<n:=(ht.all _).1 (Bo (by omega));have hcall:=call a j s1 ha hjn hI;have hskip:=skip a j s1 ha hjn hI;have aK:=aL a _ ha htn;have hpm:=pl a _ ha htn;generalize nth ord j=t at *;have hmul:((a:Int) * (n:Int))=((a * n:Nat):Int):=by norm_cast
   generalize hpe:a * n+t=p at *;generalize a * n=an at *;have hpi:(an:Int)+(t:Int)=(p:Int):=by omega
   cases hL:L a t with
   |true =>
    rw[hL] at aK;refine W_T ?_;(with_reducible repeat'(first|simp (disch:=omega) only[push_cast,↓zz,seval,pR,pFi,pX,pO,pL,hRU,hFI,aO,hdn,hmul,hpi,aK]|apply Aa|refine sp_ ?_ ?_<;>intro hc<;>push_cast at hc|omega|intro _));refine z4u (extra:=[]) (A9 _).symm (hcall hL) ?_ (by rw[hN];exact hcl _) ?_
    ·rw[hN];exact⟨trivial,trivial,hcaps⟩
    rintro y H' ⟨rfl,s2,rfl,hI2⟩;refine⟨_,rfl,by rw[hN,hN],trivial,by rw[hN];exact hcl _,?_⟩;rw[A9];(with_reducible repeat'(first|simp (disch:=omega) only[push_cast,↓zz,seval]|apply Aa|refine sp_ ?_ ?_<;>intro hc<;>push_cast at hc|omega|intro _));refine⟨(j+1,s2),Gl (gar:=[]) _ (A9 _).symm (DD ((hN _).trans (hN _).symm)) (by rw[hN];exact hcl _) ?_,⟨by omega,⟨hI2⟩⟩,by simp only;omega⟩;rw[hN];exact⟨rfl,trivial,rfl,hcaps,rfl,trivial,rfl,hO,rfl,trivial,rfl,trivial,trivial⟩
   |false =>
    rw[hL] at aK;refine W_T ?_;(with_reducible repeat'(first|simp (disch:=omega) only[push_cast,↓zz,seval,pR,pFi,pX,pO,pL,hRU,hFI,aO,hdn,hmul,hpi,aK]|apply Aa|refine sp_ ?_ ?_<;>intro hc<;>push_cast at hc|omega|intro _));refine⟨(j+1,s1),Gl (gar:=[]) _ (A9 _).symm (DD ((hN _).trans (hN _).symm)) (by rw[hN];exact hcl _) ?_,⟨by omega,⟨hskip hL⟩⟩,by simp only;omega⟩;rw[hN];exact⟨rfl,trivial,rfl,hcaps,rfl,trivial,rfl,hO,rfl,trivial,rfl,trivial,trivial⟩
  ·obtain rfl:j=n:=by omega
   refine W_T ?_;(with_reducible repeat'(first|simp (disch:=omega) only[push_cast,↓zz,seval,pR,pFi,pX,pO,pL,hRU,hFI]|apply Aa|refine sp_ ?_ ?_<;>intro hc<;>push_cast at hc|omega|intro _));refine⟨(a,s1),Gl (gar:=[]) _ (A9 _).symm (DD ((hN _).trans (hN _).symm)) (by rw[hN];exact hcl _) ?_,⟨by omega,⟨⟨λh=>?_,λa' h=>?_⟩⟩⟩,by simp only;omega⟩
   ·rw[hN]
    exact⟨rfl,trivial,rfl,hcaps,rfl,trivial,trivial⟩
   ·have h:a=0:=h
    subst h;exact hI
   ·have h:a=a'+1:=h
    subst h;exact row a' s1 (by omega) hI
end Go.Proofs.YtflibbceibjddaaGreat
namespace Go.Proofs
open Go.Shelf
def Tryz.sortWd_ren:Go.Shelf.Ren:=⟨fun|6=>104|15=>139|14=>138|28=>164|29=>165|20=>156|21=>157|22=>158|23=>159|24=>160|25=>161|26=>162|27=>163|46=>181|47=>182|48=>183|49=>184|50=>185|57=>205|n=>n,fun|22=>41|24=>23|25=>136|3=>3|39=>179|0=>0|53=>196|55=>198|4=>4|46=>190|45=>189|50=>141|5=>5|9=>9|66=>212|70=>216|76=>237|77=>103|n=>n,fun|n=>n⟩
theorem Tryz.sortWd:Go.Proofs.SlLaysF.n6 Tryz.prog Tryz.sortWd_ren:={
 mixed:=by kernel_rfl
 f6:=⟨Tryz.f104.name,by decide,Tryz.func104.trans (congrArg some (by kernel_rfl))⟩
 f14:=⟨Tryz.f138.name,by decide,Tryz.func138.trans (congrArg some (by kernel_rfl))⟩
 f15:=Tryz.func139.trans (congrArg some (by kernel_rfl))
 f20:=⟨Tryz.f156.name,by decide,Tryz.func156.trans (congrArg some (by kernel_rfl))⟩
 f21:=⟨Tryz.f157.name,by decide,Tryz.func157.trans (congrArg some (by kernel_rfl))⟩
 f22:=⟨Tryz.f158.name,by decide,Tryz.func158.trans (congrArg some (by kernel_rfl))⟩
 f23:=⟨Tryz.f159.name,by decide,Tryz.func159.trans (congrArg some (by kernel_rfl))⟩
 f24:=⟨Tryz.f160.name,by decide,Tryz.func160.trans (congrArg some (by kernel_rfl))⟩
 f25:=⟨Tryz.f161.name,by decide,Tryz.func161.trans (congrArg some (by kernel_rfl))⟩
 f26:=⟨Tryz.f162.name,by decide,Tryz.func162.trans (congrArg some (by kernel_rfl))⟩
 f27:=⟨Tryz.f163.name,by decide,Tryz.func163.trans (congrArg some (by kernel_rfl))⟩
 f28:=Tryz.func164.trans (congrArg some (by kernel_rfl))
 f29:=Tryz.func165.trans (congrArg some (by kernel_rfl))
 f46:=⟨Tryz.f181.name,by decide,Tryz.func181.trans (congrArg some (by kernel_rfl))⟩
 f47:=Tryz.func182.trans (congrArg some (by kernel_rfl))
 f48:=Tryz.func183.trans (congrArg some (by kernel_rfl))
 f49:=⟨Tryz.f184.name,by decide,Tryz.func184.trans (congrArg some (by kernel_rfl))⟩
 f50:=⟨Tryz.f185.name,by decide,Tryz.func185.trans (congrArg some (by kernel_rfl))⟩
 f57:=⟨Tryz.f205.name,by decide,Tryz.func205.trans (congrArg some (by kernel_rfl))⟩
 t0:=Tryz.underlying0
 a0:=Tryz.isAgg0
 z0:=Tryz.sizeOf0
 v0:=Tryz.zeroValue0
 t3:=Tryz.underlying3
 a3:=Tryz.isAgg3
 z3:=Tryz.sizeOf3
 v3:=Tryz.zeroValue3
 t4:=Tryz.underlying4
 a4:=Tryz.isAgg4
 z4:=Tryz.sizeOf4
 v4:=Tryz.zeroValue4
 t5:=Tryz.underlying5
 a5:=Tryz.isAgg5
 z5:=Tryz.sizeOf5
 v5:=Tryz.zeroValue5
 t9:=Tryz.underlying9
 a9:=Tryz.isAgg9
 z9:=Tryz.sizeOf9
 v9:=Tryz.zeroValue9
 t22:=Tryz.underlying41
 a22:=Tryz.isAgg41
 z22:=Tryz.sizeOf41
 v22:=Tryz.zeroValue41
 a24:=Tryz.isAgg23
 z24:=Tryz.sizeOf23
 t25:=Tryz.underlying136
 a25:=Tryz.isAgg136
 z25:=Tryz.sizeOf136
 v25:=Tryz.zeroValue136
 t39:=Tryz.underlying179
 a39:=Tryz.isAgg179
 z39:=Tryz.sizeOf179
 v39:=Tryz.zeroValue179
 t45:=Tryz.underlying189
 a45:=Tryz.isAgg189
 z45:=Tryz.sizeOf189
 v45:=Tryz.zeroValue189
 t46:=Tryz.underlying190
 a46:=Tryz.isAgg190
 z46:=Tryz.sizeOf190
 v46:=Tryz.zeroValue190
 t50:=Tryz.underlying141
 a50:=Tryz.isAgg141
 z50:=Tryz.sizeOf141
 v50:=Tryz.zeroValue141
 t53:=Tryz.underlying196
 a53:=Tryz.isAgg196
 z53:=Tryz.sizeOf196
 v53:=Tryz.zeroValue196
 t55:=Tryz.underlying198
 a55:=Tryz.isAgg198
 z55:=Tryz.sizeOf198
 v55:=Tryz.zeroValue198
 t66:=Tryz.underlying212
 a66:=Tryz.isAgg212
 z66:=Tryz.sizeOf212
 v66:=Tryz.zeroValue212
 t70:=Tryz.underlying216
 a70:=Tryz.isAgg216
 z70:=Tryz.sizeOf216
 v70:=Tryz.zeroValue216
 t76:=Tryz.underlying237
 a76:=Tryz.isAgg237
 z76:=Tryz.sizeOf237
 v76:=Tryz.zeroValue237
 t77:=Tryz.underlying103
 a77:=Tryz.isAgg103
 z77:=Tryz.sizeOf103
 v77:=Tryz.zeroValue103 }
end Go.Proofs
set_option maxRecDepth 100000
namespace Go.Proofs.YtflibbceibjddaaGreat
open Abs O1 O2 O3 Go.Shelf Go.RowKit Go.Lib Go.Sort
def WV(S:MS):Type:={ p:List Int × Value // VRel S (AD p.1) p.2/\p.1.length<=1000000000 }
instance (S:MS):Inhabited (WV S):=⟨⟨([],.slice none 0 0),⟨rfl,Nat.one_pos,none,0,[],rfl,⟨Ad _,λ_=>rfl⟩,rfl,λh=>absurd rfl h⟩,A4 _⟩⟩
def encW(S:MS)(p:WV S):Value:=p.val.2
def cfW(S:MS)(p q:WV S):Int:=cmpL p.val.1 q.val.1
theorem ltCW(S:MS)(p q:WV S):ltOf (cfW S) p q=ltW p.val.1 q.val.1:=by
 unfold ltOf cfW;cases h:ltW p.val.1 q.val.1 with
 |true=>exact AJ ((Ut _ _).2 h)
 |false=>exact Bf λhh=>by rw[(Ut _ _).1 hh] at h;cases h
theorem ZD(a b c:List Int)(h1:ltW a b=false)(h2:ltW b c=false):ltW a c=false:=by
 cases h:ltW a c with
 |false=>rfl
 |true =>
  exfalso;cases hba:ltW b a with
  |true=>have:=GC b a c hba h;rw[h2] at this;cases this
  |false =>
   have e:=HW a b h1 hba;subst e;rw[h2] at h;cases h
theorem swoW(S:MS):SWO (ltOf (cfW S)) where
 irrefl x:=by rw[ltCW];exact FB _
 trans x y z h1 h2:=by rw[ltCW] at *;exact GC _ _ _ h1 h2
 ntrans x y z h1 h2:=by rw[ltCW] at *;exact ZD _ _ _ h1 h2
theorem z5f:∀{a b:World},a.heap=b.heap->a.tape=b.tape->a.drawn=b.drawn->a.os=b.os->a.output=b.output->a=b
 |⟨_,_,_,_,_⟩,⟨_,_,_,_,_⟩,rfl,rfl,rfl,rfl,rfl=>rfl
theorem JI{α:Type}[Inhabited α](enc:α->Value)(w:World)(b m:Nat)(d:Array α)(os:Array Obj):w.heap.size<=(sortWorld enc w b 0 m d os).heap.size:=by
 show _<=((w.heap.modify _ _)++os).size;rw[Fw,CJ];omega
theorem Je{α:Type}[Inhabited α](enc:α->Value)(w:World)(b m:Nat)(d:Array α)(os:Array Obj){k:Nat}(hk:k<w.heap.size)(hb:b≠k):(sortWorld enc w b 0 m d os).heap[k]? = w.heap[k]? := by
 show ((w.heap.modify _ _)++os)[k]? = _;rw[BE (by rw[CJ];exact hk),Dr,Ac hb]
theorem ZE(S:MS){H:A3}(hS:SRel S H){blk:Nat}(hni:¬(S.im blk\/S.keep blk))(size:Nat):CmpLays1 Tryz.prog 105 #[] (encW S) (cfW S) blk 0 size S.w:=by
 intro m os dk _ x y;obtain⟨W,hW⟩:∃W,W=sortWorld (encW S) S.w blk 0 m dk os:=⟨_,rfl⟩;rw[<-hW];have hsz:S.w.heap.size<=W.heap.size:=by rw[hW];exact JI ..
 have hkept:∀b,S.im b->W.heap[b]? = S.w.heap[b]? := λb hb=>by rw[hW];exact Je _ _ _ _ _ _ (hS.im b (.inl hb)) λe=>hni (e ▸ .inl hb)
 have ev1:Evi S { S with w:=W }:=⟨hkept,λ_ h=>h,Ad _,λ_ _=>Ad _,λ_ _ _=>⟨rfl,rfl,rfl⟩⟩
 let S2:MS:=⟨W,S.im,λb=>b<W.heap.size,0,λ_=>0,λ_=>0,λ_=>0,λ_=>0,0⟩
 have down:∀p:WV S,VRel S2 (AD p.val.1) p.val.2:=λp=>by
  have h:=VRel.moni ev1 _ p.property.1;rw[<-Rb (AD p.val.1)] at h;exact QZ (A:=S2) (B:={ S with w:=W }) (σ:=λg=>g) (m:=0) rfl (λb hb=>hb) (λg hg=>absurd hg (AZ _)) (AD p.val.1) trivial h
 have hS2:SRel S2 A3.nil:=⟨rfl,λg hg=>absurd hg (AZ _),λg _ hg=>absurd hg (AZ _),λb hb=>hb.elim (λh=>AY (hS.im b (.inl h)) hsz) id⟩;refine ((MK x.val.1 y.val.1 x.property.2 y.property.2).2 S2 [encW S x,encW S y] hS2 ⟨_,_,rfl,down x,_,_,rfl,down y,rfl⟩).mono λe w' hh=>?_;obtain⟨v,S',z,H',rfl,rfl,ev,_,hv,rfl,_⟩:=hh;have hv':v=.int .i64 (cmpL x.val.1 y.val.1):=hv;subst hv';have hsz2:W.heap.size<=S'.w.heap.size:=ev.size;refine⟨rfl,S'.w.drawn-W.drawn,S'.w.heap.extract W.heap.size S'.w.heap.size,z5f ?_ ev.tape.1 ?_ ev.os ev.output⟩
 ·show S'.w.heap=W.heap++_
  refine Array.ext_getElem? λi=>?_;rcases Ak i W.heap.size with hi|hi
  ·rw[BE hi]
   exact ev.kept i (.inr hi)
  ·rw[Array.getElem?_append_right hi,Array.getElem?_extract]
   rcases Ak i S'.w.heap.size with h2|h2
   ·rw[Ae (by omega)];congr 1;omega
   ·rw[Ac (by omega),C4 (by omega)]
 ·show S'.w.drawn=W.drawn+(S'.w.drawn-W.drawn)
  have:=ev.tape.2;have h2:W.drawn<=S'.w.drawn:=this;omega
theorem Q5{S:MS}:∀{l:List (List Int)}{vs:List Value},(∀w∈l,w.length<=1000000000)->AG S (l.map AD) vs->∃pl:List (WV S),pl.map (λp=>p.val.1)=l/\pl.map (encW S)=vs
 |[],vs,_,h=>⟨[],rfl,h.symm⟩
 |x::l,vs,hl,⟨v,r,hv,h1,h2⟩=>by
  obtain⟨pl,a,b⟩:=Q5 (λw hw=>hl w (by simp[hw])) h2;exact⟨⟨(x,v),h1,hl x (by simp)⟩::pl,by show x::pl.map _=x::l;rw[a],by rw[hv,<-b];rfl⟩
theorem Uw{S:MS}(p:WV S):∃a n c,encW S p=.slice a n c:=by
 obtain⟨_,_,a,cap,vs,hv,_⟩:=p.property.1;exact⟨a,_,cap,hv⟩
theorem oneW(S:MS):OneCell (encW S):=λp=>by
 obtain⟨a,n,c,h⟩:=Uw p;rw[h];rfl
theorem XU{S:MS}(p:WV S):(encW S p).cells=#[encW S p]:=by
 obtain⟨a,n,c,h⟩:=Uw p;rw[h];rfl
theorem zbd{S:MS}{b:Nat}{cells:Array Value}{T:TypeId}{pl:List (WV S)}(hb:S.w.heap[b]? = some (.cells cells T (0,0)))(hf:Gr cells 1 (pl.map (encW S))):Holds (encW S) S.w b 0 pl.toArray:=by
 intro j hj;have hi:j<pl.length:=by simpa using hj
 have he:(pl.map (encW S))[j]? = some (encW S pl[j]):=by simp[hi]
 obtain⟨_,_,h3⟩:=hf _ _ he;have h4:=h3 0 Nat.one_pos;rw[Nat.mul_one,Nat.add_zero,XU] at h4;have hg:pl.toArray[j]! = pl[j]:=by simp[hi]
 refine⟨?_,?_⟩
 ·rw[hg]
  simp only[World.cell?,hb,Bb,Option.isSome_none,A8,Bp,h4,id];rfl
 ·simp[World.frozen?,hb]
theorem zhr{S:MS}{b n:Nat}{cells:Array Value}{T:TypeId}{d:Array (WV S)}{os:Array Obj}(hb:S.w.heap[b]? = some (.cells cells T (0,0)))(hsz:d.size<=cells.size):
 ∃cells',(sortWorld (encW S) S.w b 0 n d os).heap[b]? = some (.cells cells' T (0,0))/\cells'.size=cells.size/\Gr cells' 1 (d.toList.map (encW S)):=by
 have hlt:b<S.w.heap.size:=(Bh.1 hb).1;refine⟨putCells (encW S) 0 d cells,?_,by simp[putCells],λi v hv=>?_⟩
 ·show ((S.w.heap.modify b _)++os)[b]? = _
  rw[BE (by rw[CJ];exact hlt),Dr,Ae rfl,hb];rfl
 ·rw[Dw] at hv
  obtain⟨x,hx,rfl⟩:=Ag.1 hv;have hi:i<d.size:=by have:=(AN.1 hx).1;simpa using this
  refine⟨by rw[XU];rfl,λc hc=>?_,λj hj=>?_⟩
  ·rw[XU] at hc
   obtain rfl:c=encW S x:=by simpa using hc
   exact oneW S x
  ·obtain rfl:j=0:=by omega
   have hlt2:i<cells.size:=by omega
   have hd:d[i]! = x:=by
    rw[E3] at hx;rw[getElem!_pos d i hi];exact (Bh.1 hx).2
   rw[Nat.mul_one,Nat.add_zero,putCells,E2,D8 hlt2];simp only[Option.map_some,A4,En,Bb,Nat.sub_zero];rw[Ae hi,hd,XU];rfl
def VV(l:List (List Int)):Prop:=l.Pairwise λa b=>ltW b a=false
theorem z5g{S:MS}{d:Array (WV S)}(h:SortedIn (ltOf (cfW S)) 0 d.size d):VV (d.toList.map λp=>p.val.1):=by
 rw[VV,Fx,Cs];intro i j hi hj hij;have hi':i<d.size:=by simpa using hi
 have hj':j<d.size:=by simpa using hj
 have:=h i j (A4 _) hij hj';rw[ltCW,getElem!_pos d j hj',getElem!_pos d i hi'] at this;simpa using this
theorem z5h{S:MS}:∀(pl:List (WV S)),AG S (pl.map λp=>AD p.val.1) (pl.map (encW S))
 |[]=>rfl
 |p::pl=>⟨_,_,rfl,p.property.1,z5h pl⟩
theorem zhs{H:A3}{g ver:Nat}{ex:Bool}{l:List (List Int)}(hg:g<H.n)(hG:H.at_ g=⟨1,ver,ex,l.map AD⟩)(h1:l≠[])(hl:l.length<4611686018427387904)(hw:∀w∈l,w.length<=1000000000):
 B6 Tryz.prog 104 [.ref g ver 0 l.length,.fn 105 []] H λy H'=>y=.tup []/\∃l':List (List Int),l'.Perm l/\VV l'/\H'=H.set g ⟨1,ver,ex,l'.map AD⟩:=by
 have eg:∀args w,(callFunc 105 args).run Tryz.prog w=.ok (.enter 105 args) w:=enters_of Tryz.func105 (by kernel_rfl) rfl;refine⟨enters_of Tryz.func104 (by kernel_rfl) rfl,λS cargs hS hx=>?_⟩;obtain⟨v1,r1,rfl,⟨_,hgn,_,hv1⟩,v2,r2,rfl,⟨lb,rfl,rfl⟩,rfl⟩:=hx;have hgr:=hS.grp g hg;rw[hG] at hgr;obtain⟨a,cap',rfl,hcase⟩:=hv1 hgr.ver;have hpos:0<l.length:=by cases l;exact absurd rfl h1;simp
 obtain⟨rfl,rfl,hcap⟩:=hcase.resolve_right (λh=>by omega);have hlen:l.length<=S.cap g:=by have:=hgr.len (show 0<1 by decide);simpa using this
 obtain⟨⟨cells,T,vs,b1,b2,b3,b4⟩,hni⟩:=hgr.live (show 0<1 by decide) (by omega);obtain⟨pl,e1,rfl⟩:=Q5 hw b3;have b2':cells.size=S.cap g * 1:=b2;have hpl:pl.length=l.length:=by rw[<-e1,Bi]
 have hblk:S.place g<S.w.heap.size:=(Bh.1 b1).1;have hcon:=Any.slices_SortFunc Tryz.sortWd (encW S) (oneW S) (cfW S) (swoW S) 105 #[] (S.place g) 0 (S.cap g-0) pl.toArray S.w eg (ZE S hS hni _) (zbd b1 b4) hblk (by simp;omega);change Calls Tryz.prog 104 _ _ _ at hcon;rw[BN,hpl] at hcon;rw[Fh];refine hcon.mono λe w' ⟨he,d',n,os,hp,hs,hw'⟩=>?_;subst he hw';obtain⟨q1,q2,q3⟩:=hp;have q1:d'.size=l.length:=by simpa [hpl] using q1
 have hperm:(d'.toList.map λp=>p.val.1).Perm l:=by
  rw[D1,D1] at q3;have q4:d'.toList.Perm pl:=by simpa [List.extract,q1,hpl,Ay (show d'.toList.length<=l.length by simp[q1]),Ay (show pl.length<=l.length by omega)] using q3
  rw[<-e1];exact q4.map _
 rw[<-q1] at hs;obtain⟨cells',c1,c2,c3⟩:=zhr (n:=n) (d:=d') (os:=os) b1 (by omega);have hoth:∀b,b≠S.place g->b<S.w.heap.size->(sortWorld (encW S) S.w (S.place g) 0 n d' os).heap[b]? = S.w.heap[b]? := λb hb hlt=>Je _ _ _ _ _ _ hlt (Da hb);have ev1:Evi S { S with w:=sortWorld (encW S) S.w (S.place g) 0 n d' os }:=⟨λb hb=>hoth b (λe=>hni (e ▸ .inl hb)) (hS.im b (.inl hb)),λ_ h=>h,Ad _,λ_ _=>Ad _,λ_ _ _=>⟨rfl,rfl,rfl⟩⟩;have hmm:(d'.toList.map λp=>p.val.1).map AD=d'.toList.map λp=>AD p.val.1:=by rw[CF];rfl
 have hh:=hS.moved hg (by rw[hG];exact (show 0<1 by decide)) (sortWorld (encW S) S.w (S.place g) 0 n d' os) (S.place g) (S.cap g) ⟨1,ver,ex,(d'.toList.map λp=>p.val.1).map AD⟩ rfl ⟨rfl,Dd _ _⟩ rfl
  (JI ..)
  (λb hb hlt=>hoth b (λe=>hb ⟨by omega,e⟩) hlt)
  (.inl ⟨by omega,rfl⟩) (λ_=>⟨cells',T,_,c1,by rw[c2];exact b2',by rw[hmm];exact z5h _,c3⟩) (by simp[q1];exact hlen)
  (λhx=>by have:=hgr.full (show 0<1 by decide) hx;simp at this;simp[q1];exact this) (show 0<1 by decide) (by rw[hgr.ver];exact Ad _) (λ_=>⟨rfl,rfl,by rw[hgr.wid]⟩)
 exact⟨_,_,.tup [],_,rfl,rfl,hh.1,hh.2,⟨[],rfl,rfl⟩,rfl,_,hperm,z5g hs,rfl⟩
set_option maxRecDepth 100000
theorem zbe(l:List (List Int)):B6 Tryz.prog 156 [.ref 0 1 0 0,.int .i64 0,.int .i64 0,.fn 105 []] (Abs.hl [⟨1,1,true,l.map AD⟩]) λy H'=>y=.tup []/\H'=Abs.hl [⟨1,1,true,l.map AD⟩]:=by
 refine G5 (b:=1) Gb rfl ?_;unfold Ef;(with_reducible repeat'(first|simp (disch:=omega) only[push_cast,↓zz,seval]|apply Aa|refine sp_ ?_ ?_<;>intro hc<;>push_cast at hc|omega|intro _))
 refine Bs (B5 (λ(_:Unit)=>True) (λ_=>0) (λ_=>[(0,.ref 0 1 0 0),(1,.int .i64 0),(2,.int .i64 0),(3,.fn 105 []),(8,.int .i64 1)])
  (λ_=>[⟨1,1,true,l.map AD⟩]) (λ_ _=>[]) () trivial ?_ ?_)
 ·(with_reducible repeat'(first|simp (disch:=omega) only[push_cast,↓zz,seval]|apply Aa|refine sp_ ?_ ?_<;>intro hc<;>push_cast at hc|omega|intro _))
 rintro _ _;refine W_T ?_;(with_reducible repeat'(first|simp (disch:=omega) only[push_cast,↓zz,seval]|apply Aa|refine sp_ ?_ ?_<;>intro hc<;>push_cast at hc|omega|intro _))
 all_goals trace_state
theorem pdqW0(l:List (List Int)):B6 Tryz.prog 138 [.ref 0 1 0 0,.int .i64 0,.int .i64 0,.int .i64 0,.fn 105 []] (Abs.hl [⟨1,1,true,l.map AD⟩]) λy H'=>y=.tup []/\H'=Abs.hl [⟨1,1,true,l.map AD⟩]:=by
 refine G5 (b:=1) GM rfl ?_;unfold Fs;(with_reducible repeat'(first|simp (disch:=omega) only[push_cast,↓zz,seval]|apply Aa|refine sp_ ?_ ?_<;>intro hc<;>push_cast at hc|omega|intro _))
 refine Bs (B5 (λ(_:Unit)=>True) (λ_=>0) (λ_=>[(0,.ref 0 1 0 0),(1,.int .i64 0),(2,.int .i64 0),(3,.int .i64 0),(4,.fn 105 []),(10,.bool true),(11,.bool true)])
  (λ_=>[⟨1,1,true,l.map AD⟩]) (λ_ _=>[]) () trivial ?_ ?_)
 ·(with_reducible repeat'(first|simp (disch:=omega) only[push_cast,↓zz,seval]|apply Aa|refine sp_ ?_ ?_<;>intro hc<;>push_cast at hc|omega|intro _))
 rintro _ _;refine W_T ?_;(with_reducible repeat'(first|simp (disch:=omega) only[push_cast,↓zz,seval]|apply Aa|refine sp_ ?_ ?_<;>intro hc<;>push_cast at hc|omega|intro _));refine B6.mono (zbe l) ?_;rintro y H' ⟨rfl,rfl⟩;(with_reducible repeat'(first|simp (disch:=omega) only[push_cast,↓zz,seval]|apply Aa|refine sp_ ?_ ?_<;>intro hc<;>push_cast at hc|omega|intro _))
 all_goals trace_state
theorem zly(l:List (List Int)):B6 Tryz.prog 104 [.ref 0 1 0 0,.fn 105 []] (Abs.hl [⟨1,1,true,l.map AD⟩]) λy H'=>y=.tup []/\H'=Abs.hl [⟨1,1,true,l.map AD⟩]:=by
 refine G5 (b:=1) GF rfl ?_;unfold Fi;(with_reducible repeat'(first|simp (disch:=omega) only[push_cast,↓zz,seval]|apply Aa|refine sp_ ?_ ?_<;>intro hc<;>push_cast at hc|refine ee z93 ?_|(refine cc z93 ?_;(simp(disch:=omega)only[push_cast,↓zz,seval]);(fail_if_success change False))|omega|intro _));refine B6.mono (pdqW0 l) ?_;rintro y H' ⟨rfl,rfl⟩;(with_reducible repeat'(first|simp (disch:=omega) only[push_cast,↓zz,seval]|apply Aa|refine sp_ ?_ ?_<;>intro hc<;>push_cast at hc|omega|intro _))
 all_goals trace_state
theorem VW(l:List Int)(hl:l.length<=1000000000000):PC Tryz.prog 103 [AD l] (AD l):=by
 have hp:AF (l.map (AV.int .i32))=true:=AB .i32 _;cases l with
 |nil =>
  refine zki ?_ ?_
  ·refine Cg EN ?_
   unfold D5;(with_reducible repeat'(first|simp (disch:=omega) only[push_cast,↓zz,seval]|apply Aa|refine sp_ ?_ ?_<;>intro hc<;>push_cast at hc|omega|intro _))
  ·refine Cg EN ?_
   unfold D5;(with_reducible repeat'(first|simp (disch:=omega) only[push_cast,↓zz,seval]|apply Aa|refine sp_ ?_ ?_<;>intro hc<;>push_cast at hc|omega|intro _))
 |cons a l =>
  have hne:((a::l).map (AV.int .i32)).isEmpty=false:=rfl;have hm0:¬(a::l)=[]:=by simp
  generalize (a::l)=m at *;refine Cg EN ?_;unfold D5;(with_reducible repeat'(first|simp (disch:=omega) only[push_cast,↓zz,seval,hne,hp,hm0]|apply Aa|refine sp_ ?_ ?_<;>intro hc<;>push_cast at hc|omega|intro _))
  all_goals trace_state
theorem z5i(l:List (List Int))(hl:l.length<=1000000000)(hw:∀w∈l,w.length<=1000000000):PC Tryz.prog 67 [Et l] (Et (Hg l)):=by
 have pW:=B2 l;refine Cg Vh ?_;unfold NX;(with_reducible repeat'(first|simp (disch:=omega) only[push_cast,↓zz,seval,pW]|apply Aa|refine sp_ ?_ ?_<;>intro hc<;>push_cast at hc|omega|intro _))
 refine Bs (B5 (λ(k:Nat)=>k<=l.length) (λk=>l.length-k)
  (λk=>[(3,.ref 0 1 0 l.length),(9,Et l),(10,.int .i64 l.length),(11,.int .i64 k)]) (λk=>[⟨1,1,true,(l.take k).map AD++List.replicate (l.length-k) .nilS⟩]) (λenv _=>[Dp 1 (env 3)]) 0 (by simp) ?_ ?_)
 ·(with_reducible repeat'(first|simp (disch:=omega) only[push_cast,↓zz,seval,pW,Jd,List.take_zero,AA,List.nil_append,Nat.sub_zero]|apply Aa|refine sp_ ?_ ?_<;>intro hc<;>push_cast at hc|omega|intro _))
 intro k hk;rcases Ak k l.length with hkl|hkl
 ·have hC:=VW (nth l k) (by have:=hw _ (Bo hkl);omega)
  have lT:((l.take k).map AD++List.replicate (l.length-k) AV.nilS).length=l.length:=by simp;omega
  have sT:((l.take k).map AD++List.replicate (l.length-k) AV.nilS).set k (AD (nth l k))=(l.take (k+1)).map AD++List.replicate (l.length-(k+1)) AV.nilS:=by
   have e1:List.replicate (l.length-k) AV.nilS=AV.nilS::List.replicate (l.length-(k+1)) AV.nilS:=by rw[<-List.replicate_succ];congr 1;omega
   have e2:((l.take k).map AD).length=k:=by simp;omega
   rw[e1,Dv _ _ (by omega),e2,Nat.sub_self,List.set_cons_zero,take_at hkl,Ao,Az];rfl
  have pK:AF ((nth l k).map (AV.int .i32))=true:=AB .i32 _;have pT:∀k,AF ((l.take k).map AD++List.replicate (l.length-k) AV.nilS)=true:=λk=>by rw[K1,B2 (l.take k),Jd];rfl
  generalize hwk:nth l k=w at *;generalize hLk:(l.take k).map AD++List.replicate (l.length-k) AV.nilS=T0 at *;have hp0:=pT k;have hp1:=pT (k+1);rw[hLk] at hp0;generalize hLk1:(l.take (k+1)).map AD++List.replicate (l.length-(k+1)) AV.nilS=T1 at *;refine W_T ?_;(with_reducible repeat'(first|simp (disch:=omega) only[push_cast,↓zz,seval,pW,hwk,lT,sT,pK,hp0]|apply Aa|refine sp_ ?_ ?_<;>intro hc<;>push_cast at hc|refine ee hC ?_|(refine cc hC ?_;(simp(disch:=omega)only[push_cast,↓zz,seval,pW,hwk,lT,sT,pK,hp0]);(fail_if_success change False))|omega|intro _))
  all_goals
   refine⟨k+1,?_⟩;(with_reducible repeat'(first|simp (disch:=omega) only[push_cast,↓zz,seval,pW,hLk1,hp1]|apply Aa|refine sp_ ?_ ?_<;>intro hc<;>push_cast at hc|omega|intro _))
 ·obtain rfl:k=l.length:=by omega
  have e1:(l.take l.length).map AD++List.replicate (l.length-l.length) AV.nilS=l.map AD:=by simp
  rw[e1];refine W_T ?_;(with_reducible repeat'(first|simp (disch:=omega) only[push_cast,↓zz,seval,pW]|apply Aa|refine sp_ ?_ ?_<;>intro hc<;>push_cast at hc|omega|intro _));by_cases h0:l=[]
  ·subst h0
   refine B6.mono (zly []) ?_;rintro y H' ⟨rfl,rfl⟩;have hC:=Li true [] (by simp) (λw hw'=>by cases hw');(with_reducible repeat'(first|simp (disch:=omega) only[push_cast,↓zz,seval]|apply Aa|refine sp_ ?_ ?_<;>intro hc<;>push_cast at hc|omega|intro _));refine B6.mono hC ?_;rintro y H' ⟨rfl,z,pz,rfl⟩;have e0:Cu [] 0=[]:=rfl;have e1:Hg []=[]:=rfl;(with_reducible repeat'(first|simp (disch:=omega) only[push_cast,↓zz,seval,pz,e0,e1,List.length_nil,AA,List.nil_append,List.take_zero]|apply Aa|refine sp_ ?_ ?_<;>intro hc<;>push_cast at hc|omega|intro _))
  have hS:=zhs (H:=Abs.hl [⟨1,1,true,l.map AD⟩]) (g:=0) (ver:=1) (ex:=true) (l:=l) (by show 0<1;omega) rfl h0 (by omega) hw;refine B6.mono hS ?_;rintro y H' ⟨rfl,l',hp,hs,rfl⟩;have hl':l'.length=l.length:=hp.length_eq;have hC:=Li true l' (by omega) λw hw'=>hw w (hp.mem_iff.1 hw');have hsw:=ZC hs hp;rw[hl'] at hC hsw;rw[hsw];(with_reducible repeat'(first|simp (disch:=omega) only[push_cast,↓zz,seval]|apply Aa|refine sp_ ?_ ?_<;>intro hc<;>push_cast at hc|omega|intro _));refine B6.mono hC ?_;rintro y H' ⟨rfl,z,pz,rfl⟩;generalize Cu l' l.length=M at *;have pM:=B2 M;have tM:∀z,List.take M.length (M.map AD++z)=M.map AD:=λz=>DX (by simp);(with_reducible repeat'(first|simp (disch:=omega) only[push_cast,↓zz,seval,pz,pM,tM]|apply Aa|refine sp_ ?_ ?_<;>intro hc<;>push_cast at hc|omega|intro _))
  all_goals trace_state
theorem ZF(n:Nat)(h0:0<n)(hn:n<=1000000000):B6 Tryz.prog 102 [.nilS,.int .i64 n] (Abs.hl []) λy H'=>y=.ref 0 1 0 0/\H'=Abs.hl [⟨1,1,false,List.replicate n (AV.int .i32 0)⟩]:=by
 refine G5 (b:=0) Gj rfl ?_;unfold Fe;have e0:((n:Int)-0).toNat=n:=by omega
 (with_reducible repeat'(first|simp (disch:=omega) only[push_cast,↓zz,seval,e0]|apply Aa|refine sp_ ?_ ?_<;>intro hc<;>push_cast at hc|omega|intro _))
 all_goals trace_state
theorem VX:PC Tryz.prog 102 [.nilS,.int .i64 0] .nilS:=by
 refine Cg Gj ?_;unfold Fe;(with_reducible repeat'(first|simp (disch:=omega) only[push_cast,↓zz,seval]|apply Aa|refine sp_ ?_ ?_<;>intro hc<;>push_cast at hc|omega|intro _))
 all_goals trace_state
theorem Ia(l:List Int):AF (l.map (AV.int .i32))=true:=AB .i32 _
def GE(ws:List (List Int))(k:Nat):List AV:=(ws.take k).flatten.map (AV.int .i32)++List.replicate (ws.flatten.length-(ws.take k).flatten.length) (AV.int .i32 0)
theorem Q6{α:Type}(ws:List (List α)){k:Nat}(h:k<ws.length):(ws.take (k+1)).flatten=(ws.take k).flatten++ws[k]:=by
 rw[List.take_succ_eq_append_getElem h,List.flatten_append];simp only[List.flatten_cons,List.flatten_nil,A9]
theorem RS{α:Type}(ws:List (List α))(k:Nat):(ws.take k).flatten.length<=ws.flatten.length:=by
 have:ws.flatten=(ws.take k).flatten++(ws.drop k).flatten:=by rw[<-List.flatten_append,Ci]
 rw[this];simp
theorem Ux(ws:List (List Int))(hk:ws.length<=1000000000)(h0:0<ws.flatten.length)(hl:ws.flatten.length<=1000000000):PC Tryz.prog 66 [.lst 1 (ws.map AD)] (AD ws.flatten):=by
 have pW:AF (ws.map AD)=true:=BV.2 λx hx=>by
  obtain⟨l,_,rfl⟩:=Av.1 hx;exact Ia l
 have aW:∀k,k<ws.length->(ws.map AD).getD k .any=AD (nth ws k):=λk hk=>by simp[nth,List.getD,hk]
 have hG:=ZF ws.flatten.length h0 hl;refine Cg FL ?_;unfold E6;(with_reducible repeat'(first|simp (disch:=omega) only[push_cast,↓zz,seval,pW]|apply Aa|refine sp_ ?_ ?_<;>intro hc<;>push_cast at hc|omega|intro _))
 refine Bs (B5 (λ(k:Nat)=>k<=ws.length) (λk=>ws.length-k)
  (λk=>[(0,.lst 1 (ws.map AD)),(3,.int .i64 (ws.take k).flatten.length),(9,.lst 1 (ws.map AD)),(10,.int .i64 ws.length),(11,.int .i64 k)]) (λ_=>[]) (λ_ _=>[]) 0 (by simp) ?_ ?_)
 ·(with_reducible repeat'(first|simp (disch:=omega) only[push_cast,↓zz,seval,pW,List.flatten_nil,List.length_nil]|apply Aa|refine sp_ ?_ ?_<;>intro hc<;>push_cast at hc|omega|intro _))
 intro k hkw;rcases Ak k ws.length with hkl|hkl
 ·have hn:nth ws k=ws[k]:=by simp[nth,hkl]
  have hf:=Q6 ws hkl;rw[<-hn] at hf;have h1:=RS ws (k+1);have h2:(ws.take (k+1)).flatten.length=(ws.take k).flatten.length+(nth ws k).length:=by rw[hf];simp
  have aK:=aW k hkl;generalize (ws.take k).flatten.length=m at *;refine W_T ?_;(with_reducible repeat'(first|simp (disch:=omega) only[push_cast,↓zz,seval,pW,aK]|apply Aa|refine sp_ ?_ ?_<;>intro hc<;>push_cast at hc|omega|intro _))
  all_goals
   refine⟨k+1,?_⟩;(with_reducible repeat'(first|simp (disch:=omega) only[push_cast,↓zz,seval,pW,h2]|apply Aa|refine sp_ ?_ ?_<;>intro hc<;>push_cast at hc|omega|intro _))
 ·obtain rfl:k=ws.length:=by omega
  rw[Ay (Ad _)];have hzz:(ws.flatten.length:Int)≠0:=by omega
  refine W_T ?_;(with_reducible repeat'(first|simp (disch:=omega) only[push_cast,↓zz,seval,pW]|apply Aa|refine sp_ ?_ ?_<;>intro hc<;>push_cast at hc|omega|intro _))
  (refine Cj [] (hG) (by decide) (by simp) (by (simp(disch:=omega)only[push_cast,↓zz,seval])) (by (simp(disch:=omega)only[push_cast,↓zz,seval])) (by (simp(disch:=omega)only[push_cast,↓zz,seval])) (by (simp(disch:=omega)only[push_cast,↓zz,seval,Af,Aj,Ar,Ax,AO,Au])) ?_)
  rintro y H' ⟨rfl,rfl⟩;refine⟨_,rfl,by simp,?_⟩;(with_reducible repeat'(first|simp (disch:=omega) only[push_cast,↓zz,seval,pW]|apply Aa|refine sp_ ?_ ?_<;>intro hc<;>push_cast at hc|omega|intro _))
  refine Bs (B5 (λ(k:Nat)=>k<=ws.length) (λk=>ws.length-k)
   (λk=>[(6,.ref 0 1 0 (ws.take k).flatten.length),(25,.lst 1 (ws.map AD)),(26,.int .i64 ws.length),(27,.int .i64 k)]) (λk=>[⟨1,1,false,GE ws k⟩]) (λenv _=>[Dp 1 (env 6)]) 0 (by simp) ?_ ?_)
  ·have r0:GE ws 0=List.replicate ws.flatten.length (AV.int .i32 0):=by simp[GE]
   have pZ:∀n,AF (List.replicate n (AV.int .i32 0))=true:=λn=>BV.2 λx hx=>by rw[CR hx];rfl
   (with_reducible repeat'(first|simp (disch:=omega) only[push_cast,↓zz,seval,pW,pZ,r0,List.flatten_nil,List.length_nil]|apply Aa|refine sp_ ?_ ?_<;>intro hc<;>push_cast at hc|omega|intro _))
  intro k hkw
  have pL:∀k,AF (GE ws k)=true:=λk=>by
   rw[GE,K1,Ia,AR];exact BV.2 λx hx=>by rw[CR hx];rfl
  have h1:=RS ws k;have lR:(GE ws k).length=ws.flatten.length:=by simp only[GE,Ah,Bi,List.length_replicate];omega
  rcases Ak k ws.length with hkl|hkl
  ·have hn:nth ws k=ws[k]:=by simp[nth,hkl]
   have hf:=Q6 ws hkl;rw[<-hn] at hf;have h1':=RS ws (k+1);have h2:(ws.take (k+1)).flatten.length=(ws.take k).flatten.length+(nth ws k).length:=by rw[hf];simp
   have aK:=aW k hkl;have pw:=Ia (nth ws k)
   have hR:(GE ws k).take (ws.take k).flatten.length++(nth ws k).map (AV.int .i32)++(GE ws k).drop ((ws.take k).flatten.length+(nth ws k).length)=GE ws (k+1):=by
    have e1:(GE ws k).take (ws.take k).flatten.length=(ws.take k).flatten.map (AV.int .i32):=by
     rw[GE];exact DX (by rw[Bi])
    have e2:(GE ws k).drop ((ws.take k).flatten.length+(nth ws k).length)=List.replicate (ws.flatten.length-(ws.take (k+1)).flatten.length) (AV.int .i32 0):=by
     rw[<-List.drop_drop,GE,List.drop_left' (by rw[Bi]),List.drop_replicate,h2];congr 1;omega
    rw[e1,e2,GE,hf,Ao,Az]
   rw[Az] at hR
   have hQ:(GE ws k).length<=(ws.take k).flatten.length->GE ws k++(nth ws k).map (AV.int .i32)=GE ws (k+1):=λh=>by
    have h0:nth ws k=[]:=Aw (by omega);rw[GE,GE,hf,h0,A9,AA,A9]
   have pT:AF ((GE ws k).take (ws.take k).flatten.length)=true:=BV.2 λx hx=>BV.1 (pL k) x (By hx);have pD:AF ((GE ws k).drop ((ws.take k).flatten.length+(nth ws k).length))=true:=BV.2 λx hx=>BV.1 (pL k) x (BD hx);have hpk:=pL k;have hpk1:=pL (k+1);generalize (ws.take k).flatten.length=m at *;generalize hRk:GE ws k=R at *;generalize hRk1:GE ws (k+1)=R1 at *;refine W_T ?_;(with_reducible repeat'(first|simp (disch:=omega) only[push_cast,↓zz,seval,pW,aK,pw,hpk]|apply Aa|refine sp_ ?_ ?_<;>intro hc<;>push_cast at hc|omega|intro _))
   all_goals
    refine⟨k+1,?_⟩;(with_reducible repeat'(first|simp (disch:=omega) only[push_cast,↓zz,seval,pW,h2,hRk1,hpk1,pw,hpk,pT,pD,hR,hQ]|apply Aa|refine sp_ ?_ ?_<;>intro hc<;>push_cast at hc|omega|intro _))
  ·obtain rfl:k=ws.length:=by omega
   have rE:GE ws ws.length=ws.flatten.map (AV.int .i32):=by simp[GE]
   rw[rE,A6] at *;refine W_T ?_;(with_reducible repeat'(first|simp (disch:=omega) only[push_cast,↓zz,seval,pW,Ia]|apply Aa|refine sp_ ?_ ?_<;>intro hc<;>push_cast at hc|omega|intro _))
   all_goals trace_state
theorem RV(ws:List (List Int))(hk:ws.length<=1000000000)(h0:ws.flatten.length=0):PC Tryz.prog 66 [.lst 1 (ws.map AD)] (AD ws.flatten):=by
 have pW:AF (ws.map AD)=true:=BV.2 λx hx=>by
  obtain⟨l,_,rfl⟩:=Av.1 hx;exact Ia l
 have hE:ws.flatten=[]:=Aw h0
 have aW:∀k,k<ws.length->(ws.map AD).getD k .any=.lst 1 []:=λk hk=>by
  have:ws[k]=[]:=by
   have:=List.flatten_eq_nil_iff.1 hE _ (BU hk);exact this
  simp[List.getD,hk,this,AD]
 have hG:=VX;rw[hE];refine Cg FL ?_;unfold E6;(with_reducible repeat'(first|simp (disch:=omega) only[push_cast,↓zz,seval,pW]|apply Aa|refine sp_ ?_ ?_<;>intro hc<;>push_cast at hc|omega|intro _))
 refine Bs (B5 (λ(k:Nat)=>k<=ws.length) (λk=>ws.length-k)
  (λk=>[(0,.lst 1 (ws.map AD)),(3,.int .i64 0),(9,.lst 1 (ws.map AD)),(10,.int .i64 ws.length),(11,.int .i64 k)]) (λ_=>[]) (λ_ _=>[]) 0 (by simp) ?_ ?_)
 ·(with_reducible repeat'(first|simp (disch:=omega) only[push_cast,↓zz,seval,pW]|apply Aa|refine sp_ ?_ ?_<;>intro hc<;>push_cast at hc|omega|intro _))
 intro k hkw;rcases Ak k ws.length with hkl|hkl
 ·have aK:=aW k hkl
  refine W_T ?_;(with_reducible repeat'(first|simp (disch:=omega) only[push_cast,↓zz,seval,pW,aK]|apply Aa|refine sp_ ?_ ?_<;>intro hc<;>push_cast at hc|omega|intro _))
  all_goals
   refine⟨k+1,?_⟩;(with_reducible repeat'(first|simp (disch:=omega) only[push_cast,↓zz,seval,pW]|apply Aa|refine sp_ ?_ ?_<;>intro hc<;>push_cast at hc|omega|intro _))
 ·obtain rfl:k=ws.length:=by omega
  refine W_T ?_;(with_reducible repeat'(first|simp (disch:=omega) only[push_cast,↓zz,seval,pW]|apply Aa|refine sp_ ?_ ?_<;>intro hc<;>push_cast at hc|refine ee hG ?_|(refine cc hG ?_;(simp(disch:=omega)only[push_cast,↓zz,seval,pW]);(fail_if_success change False))|omega|intro _))
  refine Bs (B5 (λ(k:Nat)=>k<=ws.length) (λk=>ws.length-k)
   (λk=>[(6,.ref 0 1 0 0),(25,.lst 1 (ws.map AD)),(26,.int .i64 ws.length),(27,.int .i64 k)]) (λk=>[⟨1,1,false,[]⟩]) (λenv _=>[Dp 1 (env 6)]) 0 (by simp) ?_ ?_)
  ·(with_reducible repeat'(first|simp (disch:=omega) only[push_cast,↓zz,seval,pW]|apply Aa|refine sp_ ?_ ?_<;>intro hc<;>push_cast at hc|omega|intro _))
  intro k hkw;rcases Ak k ws.length with hkl|hkl
  ·have aK:=aW k hkl
   refine W_T ?_;(with_reducible repeat'(first|simp (disch:=omega) only[push_cast,↓zz,seval,pW,aK]|apply Aa|refine sp_ ?_ ?_<;>intro hc<;>push_cast at hc|omega|intro _))
   all_goals
    refine⟨k+1,?_⟩;(with_reducible repeat'(first|simp (disch:=omega) only[push_cast,↓zz,seval,pW]|apply Aa|refine sp_ ?_ ?_<;>intro hc<;>push_cast at hc|omega|intro _))
  ·obtain rfl:k=ws.length:=by omega
   refine W_T ?_;(with_reducible repeat'(first|simp (disch:=omega) only[push_cast,↓zz,seval,pW]|apply Aa|refine sp_ ?_ ?_<;>intro hc<;>push_cast at hc|omega|intro _))
   all_goals trace_state
theorem RX(a b:List Int)(hl:a.length+b.length<=1000000000):PC Tryz.prog 66 [.lst 1 [AD a,AD b]] (AD (a++b)):=by
 have e:[a,b].flatten=a++b:=by simp
 have el:[a,b].flatten.length=a.length+b.length:=by rw[e,Ah]
 rw[<-e];rcases Nat.eq_zero_or_pos [a,b].flatten.length with h|h
 ·exact RV [a,b] (by simp) h
 ·exact Ux [a,b] (by simp) h (by omega)
set_option maxRecDepth 100000
structure VY(d:Desc)(x:List Int)(n:Nat):Prop where
 st:d.states=n
 n1:n<=1024
 start:0<=d.start/\d.start<n
 rl:d.rules.length<=4096
 fl:d.finals.length<=4096
 xl:x.length<=1024
 x32:∀v∈x,-2147483648<=v/\v<=2147483647
 goes:Goes d n
 ff:∀f∈d.finals,0<=f.from_/\f.from_<n
 rb:∀r∈d.rules,(r.guards.length<=1000000/\∀g∈r.guards,g.length<=1000000)/\(r.out.length<=64/\∀t∈r.out,t.parts.length<=1000000)/\0<=r.eat/\r.eat<=1000000
 fb:∀f∈d.finals,(f.guards.length<=1000000/\∀g∈f.guards,g.length<=1000000)/\(f.out.length<=64/\∀t∈f.out,t.parts.length<=1000000)
 cyc:¬cycP d.rules n
def setT(n m:Nat)(S:Nat->Nat->List (List Int)):List AV:=(List.range m).map λp=>Et (S (p / n) (p % n))
section
variable {n m a t:Nat}{S:Nat->Nat->List (List Int)}
theorem XV:(setT n m S).length=m:=by simp[setT]
theorem Pa:AF (setT n m S)=true:=BV.2 λx hx=>by
 obtain⟨i,_,rfl⟩:=Av.1 hx;exact B2 _
theorem z5j{z:AV}(ht:t<n)(hp:a * n+t<m):(setT n m S).getD (a * n+t) z=Et (S a t):=by
 rw[setT,CQ hp,Lg ht,Lh ht]
theorem zbf{v:List (List Int)}(ht:t<n)(hp:a * n+t<m):(setT n m S).set (a * n+t) (Et v)=setT n m (setP S a t v):=by
 rw[setT,Ey hp,setT];refine AW λp _=>?_;simp only[setP];by_cases e:p=a * n+t
 ·subst e;rw[Ae rfl,Lg ht,Lh ht,Ae ⟨rfl,rfl⟩]
 ·rw[Ac e,Ac λh=>e (XO ht h)]
theorem z5k{l:List Grp}:leSL l (List.replicate m .nilS) (setT n m λ_ _=>[]):=by
 have key:∀(f:Nat->Nat)(q:List Nat),leSL l (List.replicate q.length .nilS) (q.map λ_=>Et []):=λ_ q=>by
  induction q with
  |nil=>exact rfl
  |cons a q ih=>exact⟨⟨Nat.one_pos,rfl⟩,ih⟩
 have:=key id (List.range m)
 rwa [CM] at this
end
def outH(d:Desc)(R:AV)(mo n m:Nat)(S:Nat->Nat->List (List Int))(many:Bool):List Grp:=[⟨6,1,true,[EM d]⟩,⟨1,1,true,[.int .i64 mo]⟩,⟨1,1,true,[R]⟩,⟨1,1,true,setT n m S⟩,⟨1,1,true,[.ref 3 1 0 m]⟩,⟨1,1,true,[.bool many]⟩]
theorem Pb{d:Desc}{R:AV}(hR:R.pure=true){mo n m:Nat}{S:Nat->Nat->List (List Int)}{many:Bool}:∀G∈outH d R mo n m S many,ltL 6 G.xs:=λG hG=>by
 simp only[outH,Af,Aj,Ar] at hG;rcases hG with rfl|rfl|rfl|rfl|rfl|rfl
 ·exact CS _ _ (by simp[AF,HV])
 ·exact⟨trivial,trivial⟩
 ·exact CS _ _ (by simp[AF,hR])
 ·exact CS _ _ Pa
 ·exact⟨(show 3<6 by omega),trivial⟩
 ·exact⟨trivial,trivial⟩
theorem XW{d:Desc}{x:List Int}{S:Nat->Nat->List (List Int)}{at_ s B:Nat}(hB:∀r∈d.rules,r.from_=(s:Nat)->goB x r.guards at_=true->(S (at_+r.eat.toNat) r.to_.toNat).length<=B):∀k,k<=(ruI d.rules s).length->(rulW d x S at_ s k).length<=k * B
 |0,_=>by simp[rulW]
 |k+1,hk=>by
  have ih:=XW hB k (by omega);obtain⟨i1,i2⟩:=H5.1 (Bo (show k<(ruI d.rules s).length by omega));have e:(k+1) * B=k * B+B:=Nat.succ_mul k B;cases hg:goB x (nth d.rules (nth (ruI d.rules s) k)).guards at_ with
  |true =>
   rw[XS (by omega) rfl hg,Ah,Bi];have:=hB _ (Bo i1) i2 hg;omega
  |false =>
   rw[z5d (by omega) rfl hg];omega
def putW(d:Desc)(x:List Int)(S:Nat->Nat->List (List Int))(at_ s k:Nat):List (List Int):=finW d x at_ s (fiI d.finals s).length++rulW d x S at_ s k
def putQ(A:List (List Int))(h:List Int)(W:List (List Int))(q:Nat):List (List Int):=A++(W.take q).map (h++·)
theorem z5l{A:List (List Int)}{h:List Int}{W:List (List Int)}:putQ A h W 0=A:=by simp[putQ]
theorem z5m{A:List (List Int)}{h:List Int}{W:List (List Int)}{q:Nat}(hq:q<W.length):putQ A h W (q+1)=putQ A h W q++[h++nth W q]:=by
 rw[putQ,putQ,take_at hq,Ao,Az];rfl
theorem zbg{A:List (List Int)}{h:List Int}{W:List (List Int)}{q:Nat}:(putQ A h W q).length<=A.length+W.length:=by
 simp[putQ];omega
theorem zbh{d:Desc}{x:List Int}{n:Nat}{ord:List Nat}{L:Nat->Nat->Bool}{mo a j:Nat}{S:Nat->Nat->List (List Int)}(hI:OutI d x L ord mo a j S false)(hl:LivE d x n L)(hg:Goes d n)(ht:Topo d.rules n ord)(hj:j<n)(ha:a<=x.length)(hlv:L a (nth ord j)=true)
 {r:Rule} (hr:r∈d.rules) (hf:r.from_=(nth ord j:Nat)) (hgo:goB x r.guards a=true):S (a+r.eat.toNat) r.to_.toNat=outW d x (a+r.eat.toNat) (r.to_.toNat:Nat)/\(S (a+r.eat.toNat) r.to_.toNat).length<=mo/\L (a+r.eat.toNat) r.to_.toNat=true/\a+r.eat.toNat<=x.length/\r.to_.toNat<n:=by
 obtain⟨_,htt,e1,e2⟩:=hg.r r hr;have hle:=JH hgo;have hlt:=hl.clos _ _ hlv r hr hf hgo;have h1:=hI.no rfl (a+r.eat.toNat) r.to_.toNat (by omega) hlt (VR hg ht hj hr hf);exact⟨h1.1,h1.2,hlt,by omega,by omega⟩
theorem z5n(d:Desc)(x:List Int){n:Nat}(hk:VY d x n){ord:List Nat}{L:Nat->Nat->Bool}(ht:Topo d.rules n ord)(hl:LivE d x n L)(mo:Nat)(hmo:mo<=9223372036854775807)(hB:Nat.min mo (outW d x 0 d.start).length<=200000)
 (a j:Nat) (S:Nat->Nat->List (List Int)) (many:Bool) (ha:a<=x.length) (hj:j<n) (hI:OutI d x L ord mo a j S many) (hlv:L a (nth ord j)=true) :
 B6 Tryz.prog 62 [.int .i64 a,.int .i64 (nth ord j:Nat),.ptr 5 1 0 0,.ptr 2 1 0 0,.ptr 0 1 0 0,.ptr 4 1 0 0,.ptr 1 1 0 0]
  (Abs.hl (outH d (Ec d x (ruV d.rules n) (fiV d.finals n) (.lst 1 (ord.map e1)) (.lst 1 (lvB n ((x.length+1) * n) L))) mo n ((x.length+1) * n) S many)) λy H'=>y=.tup []/\∃(s':(Nat->Nat->List (List Int)) × Bool),
   H'=Abs.hl (outH d (Ec d x (ruV d.rules n) (fiV d.finals n) (.lst 1 (ord.map e1)) (.lst 1 (lvB n ((x.length+1) * n) L))) mo n ((x.length+1) * n) s'.1 s'.2)/\OutI d x L ord mo a (j+1) s'.1 s'.2:=by
 have pR:=Ca d.rules;have pFi:=Cr d.finals;have pX:AF (x.map (AV.int .i32))=true:=AB .i32 _;have pO:AF (ord.map e1)=true:=Ez (λ_=>rfl) _;have pL:AF (lvB n ((x.length+1) * n) L)=true:=Nr;have pRU:AF (fD 1 e1 n (ruI d.rules))=true:=FZ λ_=>rfl;have pFI:AF (fD 1 e1 n (fiI d.finals))=true:=FZ λ_=>rfl;have lRU:(fD 1 e1 n (ruI d.rules)).length=n:=XI;have lFI:(fD 1 e1 n (fiI d.finals)).length=n:=XI;have hdn:=hk.st;have hn:=hk.n1;have hx:=hk.xl;have hol:=EG ht;have htn:nth ord j<n:=(ht.all _).1 (Bo (by omega));have hgoes:=hk.goes;have hmx:(x.length+1) * n<=1025 * 1024:=Cx (by omega) hn;have hpm:=GP htn ha;unfold ruV fiV;refine DT (GI NW (W_T ?_));unfold IN;cases many with
 |true =>
  generalize fD 1 e1 n (ruI d.rules)=RU at *;generalize fD 1 e1 n (fiI d.finals)=FI at *;unfold outH;(with_reducible repeat'(first|simp (disch:=omega) only[push_cast,↓zz,seval]|apply Aa|refine sp_ ?_ ?_<;>intro hc<;>push_cast at hc|omega|intro _))
  all_goals exact⟨_,_,Ent.refl,rfl,(S,true),rfl,z4z hI _ _⟩
 |false =>
  have hto:=λr hr hf hgo=>zbh hI hl hgoes ht hj ha hlv (r:=r) hr hf hgo
  have hSB:∀r∈d.rules,r.from_=(nth ord j:Nat)->goB x r.guards a=true->(S (a+r.eat.toNat) r.to_.toNat).length<=200000:=λr hr hf hgo=>by
   obtain⟨h1,h2,h3,h4,h5⟩:=hto r hr hf hgo;have h6:=zb4 hl hgoes ht hk.start h3;rw[<-h1] at h6;exact AT (Nat.le_min.2 ⟨h2,h6⟩) hB
  have hwl:∀r∈d.rules,r.from_=(nth ord j:Nat)->goB x r.guards a=true->∀w∈S (a+r.eat.toNat) r.to_.toNat,w.length<=100000000:=λr hr hf hgo w hw=>by
   obtain⟨h1,h2,h3,h4,h5⟩:=hto r hr hf hgo;rw[h1] at hw;exact RP hgoes ht ⟨λr hr=>(hk.rb r hr).2.1.1,λf hf=>(hk.fb f hf).2.1⟩ hn hx h4 h5 (((MJ hgoes ht h4 h5).2 w).1 hw)
  have hMeq:=zho hI hl hgoes ht hj ha hlv;rw[<-z5e] at hMeq;have hnext:=z52 hI hl hgoes ht hj ha hlv (M:=Hg (allW d x S a (nth ord j))) hMeq;have hRL:=XW (d:=d) (x:=x) (S:=S) (at_:=a) (s:=nth ord j) hSB;have aR:(fD 1 e1 n (ruI d.rules)).getD (nth ord j) .any=.lst 1 ((ruI d.rules (nth ord j)).map e1):=zap htn;have aR2:(fD 1 e1 n (ruI d.rules))[nth ord j]? = some (.lst 1 ((ruI d.rules (nth ord j)).map e1)):=XJ htn;have aF:(fD 1 e1 n (fiI d.finals)).getD (nth ord j) .any=.lst 1 ((fiI d.finals (nth ord j)).map e1):=zap htn;have aF2:(fD 1 e1 n (fiI d.finals))[nth ord j]? = some (.lst 1 ((fiI d.finals (nth ord j)).map e1)):=XJ htn;have pRI:AF ((ruI d.rules (nth ord j)).map e1)=true:=Ez (λ_=>rfl) _;have pFJ:AF ((fiI d.finals (nth ord j)).map e1)=true:=Ez (λ_=>rfl) _;have hrI:=VL d.rules (nth ord j);have hfI:=zhp d.finals (nth ord j);have hrl:=hk.rl;have hfl:=hk.fl;have pST:AF (setT n ((x.length+1) * n) S)=true:=Pa;have lST:(setT n ((x.length+1) * n) S).length=(x.length+1) * n:=XV;have aST:∀b t,b<=x.length->t<n->(setT n ((x.length+1) * n) S).getD (b * n+t) .any=Et (S b t):=λb t hb htn=>z5j htn (GP htn hb);have sST:=λv=>zbf (v:=v) (S:=S) htn hpm;have pl:∀b t,b<=x.length->t<n->b * n+t<(x.length+1) * n:=λb t hb htn=>GP htn hb;generalize hRUe:fD 1 e1 n (ruI d.rules)=RU at *;generalize hFIe:fD 1 e1 n (fiI d.finals)=FI at *;generalize hme:(x.length+1) * n=m at *;generalize hLVe:lvB n m L=LV at *;generalize hODe:ord.map e1=OD at *;have hEnds:=λ(f:HB) (hf:f∈d.finals)=>zai d x (.lst 1 RU) (.lst 1 FI) (.lst 1 OD) (.lst 1 LV) f a pRU pFI pO pL (by omega) hk.x32 (hk.fb f hf).1.2 (hk.fb f hf).1.1 (by omega);have hWf:=λ(f:HB) (hf:f∈d.finals) (hgo:goB x f.guards a=true)=>Qt d x (.lst 1 RU) (.lst 1 FI) (.lst 1 OD) (.lst 1 LV) f.out a f.guards.length pRU pFI pO pL (by omega) hk.x32 (by have:=(hk.fb f hf).2.1;omega) (hk.fb f hf).2.2 (by have:=JH hgo;omega);have hFits:=λ(r:Rule) (hr:r∈d.rules)=>RI d x (.lst 1 RU) (.lst 1 FI) (.lst 1 OD) (.lst 1 LV) r.guards a pRU pFI pO pL (by omega) hk.x32 (hk.rb r hr).1.2 (hk.rb r hr).1.1 (by omega);have hWr:=λ(r:Rule) (hr:r∈d.rules) (hgo:goB x r.guards a=true)=>Qt d x (.lst 1 RU) (.lst 1 FI) (.lst 1 OD) (.lst 1 LV) r.out a r.guards.length pRU pFI pO pL (by omega) hk.x32 (by have:=(hk.rb r hr).2.1.1;omega) (hk.rb r hr).2.1.2 (by have:=JH hgo;omega);have pRn:(Ec d x (.lst 1 RU) (.lst 1 FI) (.lst 1 OD) (.lst 1 LV)).pure=true:=by simp[AV.pure,AF,pR,pFi,pX,pO,pL,pRU,pFI]
  have hcl:=λS many=>Pb (d:=d) (R:=Ec d x (.lst 1 RU) (.lst 1 FI) (.lst 1 OD) (.lst 1 LV)) pRn (mo:=mo) (n:=n) (m:=m) (S:=S) (many:=many);generalize nth ord j=s at *;obtain⟨F,hF⟩:∃F,F=finW d x a s (fiI d.finals s).length:=⟨_,rfl⟩;have hFlen:F.length<=4096:=by rw[hF];have:=XT (d:=d) (x:=x) (at_:=a) (s:=s) (k:=(fiI d.finals s).length);omega
  unfold outH;generalize hSTe:setT n m S=ST at *;(with_reducible repeat'(first|simp (disch:=omega) only[push_cast,↓zz,seval,pR,pFi,pX,pO,pL,pRU,pFI,aF,aF2,lFI,pST,lST]|apply Aa|refine sp_ ?_ ?_<;>intro hc<;>push_cast at hc|omega|intro _))
  refine Bs (B5 (λ(k:Nat)=>k<=(fiI d.finals s).length) (λk=>(fiI d.finals s).length-k)
   (λk=>[(0,.int .i64 a),(1,.int .i64 s),(2,.ptr 5 1 0 0),(3,.ptr 2 1 0 0),(4,.ptr 0 1 0 0),(5,.ptr 4 1 0 0),(6,.ptr 1 1 0 0),(9,.ref 6 1 0 (finW d x a s k).length),(26,.lst 1 ((fiI d.finals s).map e1)),(27,.int .i64 (fiI d.finals s).length),(28,.int .i64 k)])
   (λk=>[⟨6,1,true,[EM d]⟩,⟨1,1,true,[.int .i64 mo]⟩,⟨1,1,true,[Ec d x (.lst 1 RU) (.lst 1 FI) (.lst 1 OD) (.lst 1 LV)]⟩,⟨1,1,true,ST⟩,⟨1,1,true,[.ref 3 1 0 m]⟩,⟨1,1,true,[.bool false]⟩,⟨1,1,false,(finW d x a s k).map AD⟩]) (λenv _=>[Dp 1 (env 9)]) 0 (A4 _) ?_ ?_)
  ·(with_reducible repeat'(first|simp (disch:=omega) only[push_cast,↓zz,seval,pR,pFi,pX,pO,pL,pRU,pFI,pST,pFJ,z5b,List.length_nil,AA]|apply Aa|refine sp_ ?_ ?_<;>intro hc<;>push_cast at hc|omega|intro _))
  intro k hkk;rcases Ak k (fiI d.finals s).length with hkl|hkl
  ·obtain⟨i,hi⟩:∃i,i=nth (fiI d.finals s) k:=⟨_,rfl⟩
   have him:i∈fiI d.finals s:=by rw[hi];exact Bo hkl
   obtain⟨i1,i2⟩:=VU.1 him;have aI:((fiI d.finals s).map e1).getD k .any=.int .i64 i:=by rw[hi];simp[nth,List.getD,hkl]
   have hE:=hEnds _ (Bo i1);have hW:=hWf _ (Bo i1);have hyes:=λf hf h=>zb9 (d:=d) (x:=x) (at_:=a) (s:=s) hkl (f:=f) hf h;have hno:=λf hf h=>zhq (d:=d) (x:=x) (at_:=a) (s:=s) hkl (f:=f) hf h;rw[<-hi] at hyes hno;have hyes:=hyes _ rfl;have hno:=hno _ rfl;have hlen:=XT (d:=d) (x:=x) (at_:=a) (s:=s) (k:=k);generalize hfe:nth d.finals i=f at *;have hgr:=Cc f.guards;have hot:=CO f.out;generalize finW d x a s k=A at *;have pA:=B2 A;cases hb:(decide (f.guards.length+a=x.length)&&goB x f.guards a) with
   |true =>
    rw[hb] at hE;have hyes:=hyes hb;have hgo:goB x f.guards a=true:=by simp only[Ab] at hb;exact hb.2
    have hW:=hW hgo;have pw:AF ((Gd x f.out f.guards a).map (AV.int .i32))=true:=AB .i32 _;rw[show Gk f.out ((x.drop a).take f.guards.length)=Gd x f.out f.guards a from rfl] at hW;generalize Gd x f.out f.guards a=w at *;refine W_T ?_;(with_reducible repeat'(first|simp (disch:=omega) only[push_cast,↓zz,seval,pR,pFi,pX,pO,pL,pRU,pFI,pST,pFJ,aI,hfe,hgr,hot,pA,pw]|apply Aa|refine sp_ ?_ ?_<;>intro hc<;>push_cast at hc|refine ee hE ?_|refine ee hW ?_|((first|refine cc hE ?_|refine cc hW ?_);(simp(disch:=omega)only[push_cast,↓zz,seval,pR,pFi,pX,pO,pL,pRU,pFI,pST,pFJ,aI,hfe,hgr,hot,pA,pw]);(fail_if_success change False))|omega|intro _))
    all_goals
     refine⟨k+1,?_⟩;(with_reducible repeat'(first|simp (disch:=omega) only[push_cast,↓zz,seval,pR,pFi,pX,pO,pL,pRU,pFI,pST,pFJ,hyes,pA,pw]|apply Aa|refine sp_ ?_ ?_<;>intro hc<;>push_cast at hc|omega|intro _))
   |false =>
    rw[hb] at hE;have hno:=hno hb;refine W_T ?_;(with_reducible repeat'(first|simp (disch:=omega) only[push_cast,↓zz,seval,pR,pFi,pX,pO,pL,pRU,pFI,pST,pFJ,aI,hfe,hgr,hot,pA]|apply Aa|refine sp_ ?_ ?_<;>intro hc<;>push_cast at hc|refine ee hE ?_|(refine cc hE ?_;(simp(disch:=omega)only[push_cast,↓zz,seval,pR,pFi,pX,pO,pL,pRU,pFI,pST,pFJ,aI,hfe,hgr,hot,pA]);(fail_if_success change False))|omega|intro _))
    all_goals
     refine⟨k+1,?_⟩;(with_reducible repeat'(first|simp (disch:=omega) only[push_cast,↓zz,seval,pR,pFi,pX,pO,pL,pRU,pFI,pST,pFJ,hno,pA]|apply Aa|refine sp_ ?_ ?_<;>intro hc<;>push_cast at hc|omega|intro _))
  obtain rfl:k=(fiI d.finals s).length:=by omega
  rw[<-hF];have pF:=B2 F;have hP0:putW d x S a s 0=F:=by rw[putW,z5c,A9,hF]
  refine W_T ?_;(with_reducible repeat'(first|simp (disch:=omega) only[push_cast,↓zz,seval,pR,pFi,pX,pO,pL,pRU,pFI,pST,pFJ,aR,aR2,lRU,pF]|apply Aa|refine sp_ ?_ ?_<;>intro hc<;>push_cast at hc|omega|intro _))
  refine Bs (B5 (λ(k:Nat)=>k<=(ruI d.rules s).length) (λk=>(ruI d.rules s).length-k)
   (λk=>[(0,.int .i64 a),(1,.int .i64 s),(2,.ptr 5 1 0 0),(3,.ptr 2 1 0 0),(4,.ptr 0 1 0 0),(5,.ptr 4 1 0 0),(6,.ptr 1 1 0 0),(9,.ref 6 1 0 (putW d x S a s k).length),(59,.lst 1 ((ruI d.rules s).map e1)),(60,.int .i64 (ruI d.rules s).length),(61,.int .i64 k)])
   (λk=>[⟨6,1,true,[EM d]⟩,⟨1,1,true,[.int .i64 mo]⟩,⟨1,1,true,[Ec d x (.lst 1 RU) (.lst 1 FI) (.lst 1 OD) (.lst 1 LV)]⟩,⟨1,1,true,ST⟩,⟨1,1,true,[.ref 3 1 0 m]⟩,⟨1,1,true,[.bool false]⟩,⟨1,1,false,(putW d x S a s k).map AD⟩]) (λenv _=>[Dp 1 (env 9)]) 0 (A4 _) ?_ ?_)
  ·(with_reducible repeat'(first|simp (disch:=omega) only[push_cast,↓zz,seval,pR,pFi,pX,pO,pL,pRU,pFI,pST,pRI,pF,hP0]|apply Aa|refine sp_ ?_ ?_<;>intro hc<;>push_cast at hc|omega|intro _))
  intro k hkk;have hRk:=hRL k hkk
  have hlk:(putW d x S a s k).length<=900000000:=by
   rw[putW,Ah,<-hF];have:k * 200000<=4096 * 200000:=AX _ (by omega);omega
  rcases Ak k (ruI d.rules s).length with hkl|hkl
  ·obtain⟨i,hi⟩:∃i,i=nth (ruI d.rules s) k:=⟨_,rfl⟩
   have him:i∈ruI d.rules s:=by rw[hi];exact Bo hkl
   obtain⟨i1,i2⟩:=H5.1 him;have aI:((ruI d.rules s).map e1).getD k .any=.int .i64 i:=by rw[hi];simp[nth,List.getD,hkl]
   have hr:=Bo i1;have hE:=hFits _ hr;have hW:=hWr _ hr;have hyes:=λr hf h=>XS (d:=d) (x:=x) (S:=S) (at_:=a) (s:=s) hkl (r:=r) hf h;have hno:=λr hf h=>z5d (d:=d) (x:=x) (S:=S) (at_:=a) (s:=s) hkl (r:=r) hf h;rw[<-hi] at hyes hno;have hyes:=hyes _ rfl;have hno:=hno _ rfl;have hto:=hto _ hr i2;have hSB:=hSB _ hr i2;have hwl:=hwl _ hr i2;obtain⟨_,htt,e1',e2'⟩:=hgoes.r _ hr;have heb:=(hk.rb _ hr).2.2;have hol:=(hk.rb _ hr).2.1.1;generalize hre:nth d.rules i=r at *;have hgr:=Cc r.guards;have hot:=CO r.out;obtain⟨e,he⟩:∃e:Nat,r.eat=e:=⟨r.eat.toNat,by omega⟩;obtain⟨t,htq⟩:∃t:Nat,r.to_=t:=⟨r.to_.toNat,by omega⟩;have het:r.eat.toNat=e:=by omega
   have htt2:r.to_.toNat=t:=by omega
   rw[het,htt2] at hyes hto hSB hwl;generalize hAe:putW d x S a s k=A at *;have pA:=B2 A;cases hb:goB x r.guards a with
   |false =>
    rw[hb] at hE;have hno:putW d x S a s (k+1)=A:=by rw[putW,hno hb];exact hAe
    refine W_T ?_;(with_reducible repeat'(first|simp (disch:=omega) only[push_cast,↓zz,seval,pR,pFi,pX,pO,pL,pRU,pFI,pST,pRI,aI,hre,hgr,hot,pA]|apply Aa|refine sp_ ?_ ?_<;>intro hc<;>push_cast at hc|refine ee hE ?_|(refine cc hE ?_;(simp(disch:=omega)only[push_cast,↓zz,seval,pR,pFi,pX,pO,pL,pRU,pFI,pST,pRI,aI,hre,hgr,hot,pA]);(fail_if_success change False))|omega|intro _))
    all_goals
     refine⟨k+1,?_⟩;(with_reducible repeat'(first|simp (disch:=omega) only[push_cast,↓zz,seval,pR,pFi,pX,pO,pL,pRU,pFI,pST,pRI,hno,pA]|apply Aa|refine sp_ ?_ ?_<;>intro hc<;>push_cast at hc|omega|intro _))
   |true =>
    rw[hb] at hE;have hyes:=hyes hb;have hW:=hW hb;obtain⟨h1,h2,h3,h4,h5⟩:=hto hb;have hSB:=hSB hb;have hwl:=hwl hb;have hle:=JH hb;have pw:AF ((Gd x r.out r.guards a).map (AV.int .i32))=true:=AB .i32 _;have hhl:(Gd x r.out r.guards a).length<=64:=by simp[Gd,Gk];omega
    rw[show Gk r.out ((x.drop a).take r.guards.length)=Gd x r.out r.guards a from rfl] at hW;have hAn:putW d x S a s (k+1)=putQ A (Gd x r.out r.guards a) (S (a+e) t) (S (a+e) t).length:=by rw[putW,hyes,<-Az,putQ,A6,<-hAe];rfl
    have aT:=aST (a+e) t h4 h5;have hpl:=pl (a+e) t h4 h5;have hae:(a:Int)+(e:Int)=((a+e:Nat):Int):=by norm_cast
    have hmul:((a+e:Nat):Int) * (n:Int)=(((a+e) * n:Nat):Int):=by norm_cast
    have hmulb:(a+e) * n<=1024 * 1024:=Cx (by omega) hn;generalize Gd x r.out r.guards a=h at *;generalize S (a+e) t=Wd at *;generalize hpe:(a+e) * n+t=p at *;generalize (a+e) * n=an at *;have hpi:(an:Int)+(t:Int)=(p:Int):=by omega
    generalize hbe:a+e=b at *;have pWd:=B2 Wd;refine W_T ?_;(with_reducible repeat'(first|simp (disch:=omega) only[push_cast,↓zz,seval,pR,pFi,pX,pO,pL,pRU,pFI,pST,lST,pRI,aI,hre,hgr,hot,pA,pw,he,htq,hae,hdn,hmul,hpi,aT,pWd]|apply Aa|refine sp_ ?_ ?_<;>intro hc<;>push_cast at hc|refine ee hE ?_|refine ee hW ?_|((first|refine cc hE ?_|refine cc hW ?_);(simp(disch:=omega)only[push_cast,↓zz,seval,pR,pFi,pX,pO,pL,pRU,pFI,pST,lST,pRI,aI,hre,hgr,hot,pA,pw,he,htq,hae,hdn,hmul,hpi,aT,pWd]);(fail_if_success change False))|omega|intro _))
    refine Bs (B5 (λ(q:Nat)=>q<=Wd.length) (λq=>Wd.length-q)
     (λq=>[(0,.int .i64 a),(1,.int .i64 s),(2,.ptr 5 1 0 0),(3,.ptr 2 1 0 0),(4,.ptr 0 1 0 0),(5,.ptr 4 1 0 0),(6,.ptr 1 1 0 0),(9,.ref 6 1 0 (putQ A h Wd q).length),(16,AD h),(59,.lst 1 ((ruI d.rules s).map e1)),(60,.int .i64 (ruI d.rules s).length),(61,.int .i64 k),(96,Et Wd),(97,.int .i64 Wd.length),(98,.int .i64 q)])
     (λq=>[⟨6,1,true,[EM d]⟩,⟨1,1,true,[.int .i64 mo]⟩,⟨1,1,true,[Ec d x (.lst 1 RU) (.lst 1 FI) (.lst 1 OD) (.lst 1 LV)]⟩,⟨1,1,true,ST⟩,⟨1,1,true,[.ref 3 1 0 m]⟩,⟨1,1,true,[.bool false]⟩,⟨1,1,false,(putQ A h Wd q).map AD⟩]) (λenv _=>[Dp 1 (env 9)]) 0 (A4 _) ?_ ?_)
    ·(with_reducible repeat'(first|simp (disch:=omega) only[push_cast,↓zz,seval,pR,pFi,pX,pO,pL,pRU,pFI,pST,pRI,pA,pw,pWd,z5l]|apply Aa|refine sp_ ?_ ?_<;>intro hc<;>push_cast at hc|omega|intro _))
    intro q hq;have hAq:(putQ A h Wd q).length<=901000000:=by have:=zbg (A:=A) (h:=h) (W:=Wd) (q:=q);omega
    rcases Ak q Wd.length with hql|hql
    ·have hC:=RX h (nth Wd q) (by have:=hwl _ (Bo hql);omega)
     have hnx:=z5m (A:=A) (h:=h) hql;have pv:AF ((h++nth Wd q).map (AV.int .i32))=true:=AB .i32 _;have pv2:AF ((nth Wd q).map (AV.int .i32))=true:=AB .i32 _;generalize hwe:nth Wd q=w at *;generalize hAqe:putQ A h Wd q=A2 at *;have pA2:=B2 A2;generalize hve:h++w=v at *;refine W_T ?_;(with_reducible repeat'(first|simp (disch:=omega) only[push_cast,↓zz,seval,pR,pFi,pX,pO,pL,pRU,pFI,pST,pRI,pA2,pw,pWd,hwe,pv,pv2]|apply Aa|refine sp_ ?_ ?_<;>intro hc<;>push_cast at hc|refine ee hC ?_|(refine cc hC ?_;(simp(disch:=omega)only[push_cast,↓zz,seval,pR,pFi,pX,pO,pL,pRU,pFI,pST,pRI,pA2,pw,pWd,hwe,pv,pv2]);(fail_if_success change False))|omega|intro _))
     all_goals
      refine⟨q+1,?_⟩;(with_reducible repeat'(first|simp (disch:=omega) only[push_cast,↓zz,seval,pR,pFi,pX,pO,pL,pRU,pFI,pST,pRI,pA2,pw,pWd,hnx,pv]|apply Aa|refine sp_ ?_ ?_<;>intro hc<;>push_cast at hc|omega|intro _))
    ·obtain rfl:q=Wd.length:=by omega
     rw[<-hAn] at *;have pA3:=B2 (putW d x S a s (k+1));refine W_T ?_;(with_reducible repeat'(first|simp (disch:=omega) only[push_cast,↓zz,seval,pR,pFi,pX,pO,pL,pRU,pFI,pST,pRI,pA3,pw,pWd]|apply Aa|refine sp_ ?_ ?_<;>intro hc<;>push_cast at hc|omega|intro _))
     all_goals
      refine⟨k+1,?_⟩;(with_reducible repeat'(first|simp (disch:=omega) only[push_cast,↓zz,seval,pR,pFi,pX,pO,pL,pRU,pFI,pST,pRI,pA3]|apply Aa|refine sp_ ?_ ?_<;>intro hc<;>push_cast at hc|omega|intro _))
  ·obtain rfl:k=(ruI d.rules s).length:=by omega
   have hall:putW d x S a s (ruI d.rules s).length=allW d x S a s:=rfl;have hlk:(allW d x S a s).length<=900000000:=hlk;rw[hall]
   have hSo:=z5i (allW d x S a s) (by omega) (λw hw=>by
    have h1:w∈outW d x a (s:Nat):=by rw[<-hMeq,Jb];exact hw
    have h2:w.length<=100000000:=RP hgoes ht ⟨λr hr=>(hk.rb r hr).2.1.1,λf hf=>(hk.fb f hf).2.1⟩ hn hx ha htn (((MJ hgoes ht ha htn).2 w).1 h1)
    exact AT h2 (by decide))
   have hML:=Ug (allW d x S a s);have pA:=B2 (allW d x S a s);generalize allW d x S a s=A at *;generalize Hg A=M at *;have pM:=B2 M;have hmul:(a:Int) * (n:Int)=((a * n:Nat):Int):=by norm_cast
   have hmulb:a * n<=1024 * 1024:=Cx (by omega) hn;have sM:=sST M;generalize hpe:a * n+s=p at *;generalize a * n=an at *;have hpi:(an:Int)+(s:Int)=(p:Int):=by omega
   have hdec:decide ((mo:Int)<(M.length:Int))=decide (mo<M.length):=BH.2 (by omega);refine W_T ?_;(with_reducible repeat'(first|simp (disch:=omega) only[push_cast,↓zz,seval,pR,pFi,pX,pO,pL,pRU,pFI,pST,lST,pA,pM,hdn,hmul,hpi,sM]|apply Aa|refine sp_ ?_ ?_<;>intro hc<;>push_cast at hc|refine ee hSo ?_|(refine cc hSo ?_;(simp(disch:=omega)only[push_cast,↓zz,seval,pR,pFi,pX,pO,pL,pRU,pFI,pST,lST,pA,pM,hdn,hmul,hpi,sM]);(fail_if_success change False))|omega|intro _));rw[hdec];exact⟨_,_,Hs (l0:=outH d (Ec d x (.lst 1 RU) (.lst 1 FI) (.lst 1 OD) (.lst 1 LV)) mo n m (setP S a s M) (decide (mo<M.length))) (gar:=[⟨0,2,false,[]⟩]) rfl (Ad _) (hcl _ _) trivial,rfl,(setP S a s M,decide (mo<M.length)),rfl,hnext⟩
theorem VZ{P:Program}{f:Nat}{xs:List AV}{l l':List Grp}{K:AV->A3->Prop}(h:B6 P f xs (Abs.hl l') K)(hle:H9 l l l'):B6 P f xs (Abs.hl l) K:=⟨h.1,λS cargs hS hx=>h.2 S cargs (HA hS hle) hx⟩
noncomputable def outA (d:Desc) (x:List Int) (mo:Nat):AV:=if (outW d x 0 d.start).length<=mo then .tup [Et (outW d x 0 d.start),.int .i64 0] else .tup [.nilS,.int .i64 5]
theorem zbi{d:Desc}{x:List Int}{n:Nat}(hk:VY d x n):B6 Tryz.prog 60 [EM d,AD x] (Abs.hl []) λy H'=>H'=Abs.hl []/\∃ord L,y=Ec d x (ruV d.rules n) (fiV d.finals n) (.lst 1 (ord.map e1)) (.lst 1 (lvB n ((x.length+1) * n) L))/\Topo d.rules n ord/\LivE d x n L :=
 z58 d x hk.st hk.n1 hk.rl hk.fl hk.start hk.goes hk.cyc hk.ff hk.xl hk.x32 λr hr=>⟨(hk.rb r hr).1,(hk.rb r hr).2.2⟩
theorem Wa(d:Desc)(x:List Int){n:Nat}(hk:VY d x n)(hq:PC Tryz.prog 59 [EM d,AD x] (.int .i64 0))(mo:Nat)(h1:1<=mo)(hmo:mo<=9223372036854775807)(hB:Nat.min mo (outW d x 0 d.start).length<=200000):
 PC Tryz.prog 23 [EM d,AD x,.int .i64 mo] (outA d x mo):=by
 have pR:=Ca d.rules;have pFi:=Cr d.finals;have pX:AF (x.map (AV.int .i32))=true:=AB .i32 _;have hBe:=zbi hk;have hdn:=hk.st;refine Cg Ik ?_;unfold GL;(with_reducible repeat'(first|simp (disch:=omega) only[push_cast,↓zz,seval,pR,pFi,pX]|apply Aa|refine sp_ ?_ ?_<;>intro hc<;>push_cast at hc|refine ee hq ?_|(refine cc hq ?_;(simp(disch:=omega)only[push_cast,↓zz,seval,pR,pFi,pX]);(fail_if_success change False))|omega|intro _))
 (refine Cj [] (hBe) (by decide) (by simp) (by (simp(disch:=omega)only[push_cast,↓zz,seval])) (by (simp(disch:=omega)only[push_cast,↓zz,seval])) (by (simp(disch:=omega)only[push_cast,↓zz,seval])) (by (simp(disch:=omega)only[push_cast,↓zz,seval,Af,Aj,Ar,Ax,AO,Au])) ?_)
 rintro y H' ⟨rfl,ord,L,rfl,ht,hl⟩;refine⟨_,rfl,by simp,?_⟩;have hmx:(x.length+1) * n<=1025 * 1024:=Cx (by have:=hk.xl;omega) hk.n1;have pO:AF (ord.map e1)=true:=Ez (λ_=>rfl) _;have pL:AF (lvB n ((x.length+1) * n) L)=true:=Nr;have lL:(lvB n ((x.length+1) * n) L).length=(x.length+1) * n:=Kl;have pRU:AF (fD 1 e1 n (ruI d.rules))=true:=FZ λ_=>rfl;have pFI:AF (fD 1 e1 n (fiI d.finals))=true:=FZ λ_=>rfl;have pRn:(Ec d x (ruV d.rules n) (fiV d.finals n) (.lst 1 (ord.map e1)) (.lst 1 (lvB n ((x.length+1) * n) L))).pure=true:=by simp[AV.pure,AF,pR,pFi,pX,pO,pL,pRU,pFI,ruV,fiV]
 have hbk:=zbc (σ:=(Nat->Nat->List (List Int)) × Bool) d x (ruV d.rules n) (fiV d.finals n) pRU pFI hdn hk.n1 hk.xl ht (L:=L) 62 [.ptr 5 1 0 0,.ptr 2 1 0 0,.ptr 0 1 0 0,.ptr 4 1 0 0,.ptr 1 1 0 0] 6
  (λs=>outH d (Ec d x (ruV d.rules n) (fiV d.finals n) (.lst 1 (ord.map e1)) (.lst 1 (lvB n ((x.length+1) * n) L))) mo n ((x.length+1) * n) s.1 s.2) (λ_=>rfl) (λ_=>Pb pRn) ⟨(show 5<6 by omega),(show 2<6 by omega),(show 0<6 by omega),(show 4<6 by omega),(show 1<6 by omega),trivial⟩
  (λa j s=>OutI d x L ord mo a j s.1 s.2) ((λ_ _=>[]),false) (z4y (EG ht)) (λa j s ha hj hI hlv=>z5n d x hk ht hl mo hmo hB a j s.1 s.2 ha hj hI hlv)
  (λa j s ha hj hI hlv=>z51 hI (by rw[EG ht];exact hj) hlv) (λa s ha hI=>zb2 hI hl ht)
 generalize hm:(x.length+1) * n=m at *;(with_reducible repeat'(first|simp (disch:=omega) only[push_cast,↓zz,seval,pR,pFi,pX,lL]|apply Aa|refine sp_ ?_ ?_<;>intro hc<;>push_cast at hc|omega|intro _));refine VZ (B6.mono hbk ?_) ?_
 rotate_left
 ·unfold outH
  refine⟨⟨rfl,rfl,id,Bv _ _⟩,⟨rfl,rfl,id,Bv _ _⟩,⟨rfl,rfl,id,Bv _ _⟩,⟨rfl,rfl,id,z5k (n:=n)⟩,⟨rfl,rfl,id,Bv _ _⟩,⟨rfl,rfl,id,Bv _ _⟩,trivial⟩
 rintro y H' ⟨rfl,⟨S,many⟩,rfl,hI⟩;simp only at hI ⊢;obtain⟨g1,g2⟩:=zb3 hI hl hk.goes ht hk.start;unfold outH;have hst:=hk.start;obtain⟨s0,hs0⟩:∃s0:Nat,d.start=s0:=⟨d.start.toNat,by omega⟩;have hsn:s0<n:=by omega
 have hsm:0 * n+s0<m:=by rw[<-hm];exact GP hsn (A4 _)
 have aS:(setT n m S).getD s0 .any=Et (S 0 s0):=by
  have:=z5j (S:=S) (z:=.any) hsn hsm
  rwa [Fh,Bb] at this
 have lS:(setT n m S).length=m:=XV;have pS:AF (setT n m S)=true:=Pa;have hsm2:s0<m:=by omega
 unfold outA;cases many with
 |true =>
  rw[Ac (by have:=of_decide_eq_true g1.symm;omega)];(with_reducible repeat'(first|simp (disch:=omega) only[push_cast,↓zz,seval]|apply Aa|refine sp_ ?_ ?_<;>intro hc<;>push_cast at hc|omega|intro _))
 |false =>
  have g2:=g2 rfl;rw[Ae (by have:=of_decide_eq_false g1.symm;omega),<-g2,show d.start.toNat=s0 by omega];have pW:=B2 (S 0 s0);(with_reducible repeat'(first|simp (disch:=omega) only[push_cast,↓zz,seval,hs0,aS,lS,pS,pW]|apply Aa|refine sp_ ?_ ?_<;>intro hc<;>push_cast at hc|omega|intro _))
  all_goals trace_state
def zlz(l:List Bool)(k:Nat):List Int:=((List.range k).filter λi=>nth l i).map λi:Nat=>(i:Int)
noncomputable def zm0 (d:Desc):List Int:=zlz (comeL d) d.states.toNat
noncomputable def goesI (d:Desc):List Int:=zlz (goL d) d.states.toNat
noncomputable def zbj (d:Desc) (i:Nat):Bool:=X9 (fwdE d) [d.start] i&&X9 (bwdE d) (endE d) i
def cntB(u:Nat->Bool)(k:Nat):Nat:=((List.range k).filter u).length
def numB(u:Nat->Bool)(i:Nat):Int:=if u i=true then (cntB u i:Int) else -1
def keepR(u:Nat->Bool)(l:List Rule):List Rule:=(l.filter λr=>u r.from_.toNat&&u r.to_.toNat).map λr=>⟨numB u r.from_.toNat,numB u r.to_.toNat,r.guards,r.eat,r.out⟩
def keepF(u:Nat->Bool)(l:List HB):List HB:=(l.filter λf=>u f.from_.toNat).map λf=>⟨numB u f.from_.toNat,f.guards,f.out⟩
noncomputable def trimV (d:Desc):Desc :=
 if X9 (bwdE d) (endE d) d.start.toNat=false then zlq d.in_ d.out
 else ⟨d.in_,d.out,cntB (zbj d) d.states.toNat,numB (zbj d) d.start.toNat,keepR (zbj d) d.rules,keepF (zbj d) d.finals⟩
theorem Lj(u:Nat->Bool)(k:Nat):cntB u (k+1)=if u k=true then cntB u k+1 else cntB u k:=by
 simp only[cntB,FR,CC,Ah,Cb,List.filter_nil];split<;>simp_all
section
variable {d:Desc}
end
structure Trimmed(c:Desc):Prop where
 check:GB c=0
 again:trimV c=c
 all:((zm0 c).length=c.states.toNat/\(goesI c).length=c.states.toNat)\/(c.states=1/\c.rules=[]/\c.finals=[])
set_option maxRecDepth 100000
set_option maxRecDepth 100000
set_option maxRecDepth 100000
section
variable {α β:Type}[Inhabited α]
variable {W:Nat->List α}{g:Nat->α->List β}
end
structure WayOk(n:Nat)(w:Int × List Term):Prop where
 e:0<=w.1/\w.1<n
 l:w.2.length<=70000
 p:∀t∈w.2,t.parts.length<=4
set_option maxRecDepth 100000
abbrev pathV(p:List Nat):AV:=.lst 1 (p.map e1)
def resV:Option (List Nat)->AV
 |some x=>pathV x
 |none=>.nilS
set_option maxRecDepth 100000
theorem Uy{u v:Nat->Bool}:∀{n:Nat},(∀i,i<n->u i=v i)->cntB u n=cntB v n
 |0,_=>rfl
 |n+1,h=>by rw[Lj,Lj,h n (by omega),Uy λi hi=>h i (by omega)]
theorem XX{on:Nat->Bool}{s:Nat}(ho:on s=false):∀{n:Nat},s<n->cntB (setB on s) n=cntB on n+1
 |n+1,h=>by
  rw[Lj,Lj];by_cases hs:s=n
  ·subst hs
   rw[Ae (by simp[setB]),Ac (by simp[ho]),Uy (u:=setB on s) (v:=on) λi hi=>by simp[setB];omega]
  ·have:=XX ho (n:=n) (by omega)
   have e:setB on s n=on n:=by simp[setB];omega
   rw[e];split<;>omega
structure RInv(n:Nat)(F:List Int)(E:List (Int × Int))(on:Nat->Bool):Prop where
 sound:∀i:Nat,on i=true->Reach E F i
 base:∀s∈F,on s.toNat=true
theorem RInv.set{n:Nat}{F:List Int}{E:List (Int × Int)}{on:Nat->Bool}(h:RInv n F E on){x y:Nat}(hx:on x=true)(he:((x:Int),(y:Int))∈E):RInv n F E (setB on y) where
 sound i hi:=by
  unfold setB at hi;split at hi
  ·rename_i e;subst e;exact .step (h.sound x hx) he
  ·exact h.sound i hi
 base s hs:=by
  unfold setB;split
  ·rfl
  ·exact h.base s hs
structure RIn(n:Nat)(F:List Int)(E:List (Int × Int))(on0 on:Nat->Bool)(more:Bool)(i:Nat):Prop where
 inv:RInv n F E on
 no:more=false->on=on0/\∀j,j<i->on (nth E j).1.toNat=true->on (nth E j).2.toNat=true
 yes:more=true->cntB on0 n<cntB on n
theorem RIn.start{n:Nat}{F:List Int}{E:List (Int × Int)}{on:Nat->Bool}(h:RInv n F E on):RIn n F E on on false 0 :=
 ⟨h,λ_=>⟨rfl,λj hj=>absurd hj (AZ j)⟩,λh=>by cases h⟩
theorem RIn.skip{n i:Nat}{F:List Int}{E:List (Int × Int)}{on0 on:Nat->Bool}{more:Bool}(h:RIn n F E on0 on more i){x y:Nat}(he:nth E i=((x:Int),(y:Int)))(hs:on x=true->on y=true):RIn n F E on0 on more (i+1):=by
 refine⟨h.inv,λhm=>⟨(h.no hm).1,λj hj=>?_⟩,h.yes⟩;by_cases e:j=i
 ·subst e;rw[he];simpa using hs
 ·exact (h.no hm).2 j (by omega)
theorem RIn.take{n i:Nat}{F:List Int}{E:List (Int × Int)}{on0 on:Nat->Bool}{more:Bool}(h:RIn n F E on0 on more i){x y:Nat}(he:((x:Int),(y:Int))∈E)(hx:on x=true)(hy:on y=false)(hyn:y<n):RIn n F E on0 (setB on y) true (i+1):=by
 refine⟨h.inv.set hx he,λhm=>(by cases hm),λ_=>?_⟩;have h1:=XX hy hyn;cases more with
 |true=>have:=h.yes rfl;omega
 |false=>have:=(h.no rfl).1;subst this;omega
theorem RIn.done{n:Nat}{F:List Int}{E:List (Int × Int)}{on0 on:Nat->Bool}(h:RIn n F E on0 on false E.length):∀e∈E,on e.1.toNat=true->on e.2.toNat=true:=λe he=>by
 obtain⟨j,hj,rfl⟩:=Bt he;have:=(h.no rfl).2 j hj;have e:nth E j=E[j]:=by simp[nth,List.getD,hj]
 rwa [e] at this
set_option maxRecDepth 100000
theorem zm1{d:Desc}(h:GB d=0):¬cycP d.rules d.states.toNat:=λhc=>by
 obtain⟨h1,h2,h3⟩:=J1 h
 have h0:(Hr d).1=0:=by
  unfold GB at h;split at h
  ·assumption
  ·omega
 rw[Hr,Ac (by simp[h1]),Lc h2] at h0;simp only at h0;rw[Lc h3] at h0;simp only at h0;rw[Ae hc] at h0;simp at h0
theorem wf_n{d:Desc}(h:GB d=0):∃n:Nat,d.states=n/\1<=n/\n<=1024/\¬cycP d.rules n/\∀r∈d.rules,(0<=r.from_/\r.from_<n)/\0<=r.to_/\r.to_<n:=by
 have hw:=zh9 h;obtain⟨n,hn,h1,h2⟩:=hw.n;refine⟨n,hn,h1,h2,?_,λr hr=>by have:=hw.r r hr;rw[hn] at this;exact this⟩;have:=zm1 h
 rwa [hn,Int.toNat_natCast] at this
def conT(x:Int):Term:=⟨0,0,21,0,x,[]⟩
theorem z5o{x:Int}(hx:0<=x/\x<=1114111){w:List Int}(hw:w.all symB=true):ER (conT x) w=some x:=by
 have ho:(conT x).outer=⟨0,0,21,0⟩:=rfl;obtain⟨_,h1,h2⟩:=Ox (p:=⟨0,0,21,0⟩) (x:=x) (by decide) (by omega);have h3:valB ⟨0,0,21,0⟩ x=true:=h1;rw[ER,Ae hw];simp only[conT,sumP];show (if valB (conT x).outer x&&decide (x<=1114111) then some (IntKind.i64.wrap (0+valP (conT x).outer x)) else none)=some x;rw[ho,h1,h2,AJ hx.2,Int.zero_add,IntWalk.i64_in _ (by omega)];rfl
theorem zbk{gs:List (List Span)}:∀{w:List Int},Win (gs.map symI) w->w.all symB=true:=by
 induction gs with
 |nil=>intro w hw;rw[z4i.1 hw];rfl
 |cons g gs ih =>
  intro w hw;obtain⟨x,r,rfl,h1,h2⟩:=win_cons.1 hw;have hm:=((KX g).2 x).1 h1;rw[List.all_cons,ih h2,DO,symB];exact AJ hm.1
theorem zbl{x:Int}{i o:Int}{gs:List (List Span)}(h4:gs.length<=4)(hr:HU (conT x) i o gs.length=true)(hx:0<=x/\x<=1114111)(ho:E8 o x=true):LZ (conT x) i o gs=true:=by
 refine (OP h4).2 ⟨hr,λw hw=>?_⟩;rw[fitW,z5o hx (zbk hw)];simp[hx,ho]
set_option maxRecDepth 100000
theorem RY{d:Desc}{x:List Int}:askV d x=0↔GB d=0/\x.length<=1024/\x.all (E8 d.in_)=true:=by
 unfold askV;by_cases h:GB d=0
 ·rw[Ac (by simp[h])]
  by_cases h2:1024<x.length
  ·rw[Ae h2];constructor
   ·intro h;cases h
   ·intro h;omega
  ·rw[Ac h2]
   cases h3:x.all (E8 d.in_) with
   |true=>simp[h];omega
   |false=>simp
 ·rw[Ae h];constructor
  ·intro h;cases h
  ·intro h';exact absurd h'.1 h
theorem zbm{s v:Int}(h:E8 s v=true):0<=v/\v<1114112:=by
 simp only[E8,Ai] at h;omega
theorem zht{d:Desc}(h:GB d=0){n:Nat}(hn:d.states=n):Goes d n:=by
 obtain⟨h1,h2,h3⟩:=J1 h;have hw:=zh9 h;refine⟨λr hr=>?_⟩;have h4:=h2 r hr;have h5:=hw.r r hr;rw[hn] at h5;simp only[La,eatB,Ab,AQ,Ba] at h4;obtain⟨_,_,_,⟨h6,h7⟩,_⟩:=h4;refine⟨h5.1,h5.2,by omega,λhe=>?_⟩;simp only[Df,Ba] at he;omega
theorem XY{d:Desc}{x:List Int}(h:askV d x=0):∃n,VY d x n:=by
 obtain⟨h1,h2,h3⟩:=RY.1 h;obtain⟨n,hn,hn1,hn2,hc,hl⟩:=wf_n h1;have hw:=zh9 h1;have hst:=hw.start;have hff:=hw.f;rw[hn] at hst hff;obtain⟨_,k2,k3⟩:=J1 h1;refine⟨n,hn,hn2,hst,hw.rl,hw.fl,h2,λv hv=>?_,zht h1 hn,hff,λr hr=>?_,λf hf=>?_,hc⟩
 ·have:=zbm (AU.1 h3 v hv);omega
 ·have h4:=k2 r hr
  simp only[La,eatB,Ab,AQ,Ba] at h4;obtain⟨_,_,h5,⟨h6,h7⟩,h8⟩:=h4;obtain⟨g1,g2⟩:=Hp h5;obtain⟨w1,w2⟩:=ME h8;exact⟨⟨by omega,λg hg=>by have:=g2 g hg;omega⟩,⟨w1,λt ht=>by have:=w2 t ht;omega⟩,by omega,by omega⟩
 ·have h4:=k3 f hf
  simp only[Hq,Ab] at h4;obtain⟨_,h5,h8⟩:=h4;obtain⟨g1,g2⟩:=Hp h5;obtain⟨w1,w2⟩:=ME h8;exact⟨⟨by omega,λg hg=>by have:=g2 g hg;omega⟩,w1,λt ht=>by have:=w2 t ht;omega⟩
noncomputable def runA (d:Desc) (x:List Int) (mo:Int):AV:=if askV d x≠0 then .tup [.nilS,.int .i64 (askV d x)] else if mo<1 then .tup [.nilS,.int .i64 1] else outA d x mo.toNat
theorem Jf(d:Desc)(x:List Int)(hf:Ma d)(hl:x.length<=9223372036854775807)(h32:∀v∈x,-2147483648<=v/\v<=2147483647)(mo:Int)(hmo:mo<=9223372036854775807)(hB:askV d x=0->Nat.min mo.toNat (outW d x 0 d.start).length<=200000):
 PC Tryz.prog 23 [EM d,AD x,.int .i64 mo] (runA d x mo):=by
 have hq:=z4k d x hf hl h32;have pR:=Ca d.rules;have pFi:=Cr d.finals;have pX:AF (x.map (AV.int .i32))=true:=AB .i32 _;unfold runA;by_cases h:askV d x=0
 ·rw[Ac (by simp[h])]
  rw[h] at hq;by_cases h1:mo<1
  ·rw[Ae h1]
   refine Cg Ik ?_;unfold GL;(with_reducible repeat'(first|simp (disch:=omega) only[push_cast,↓zz,seval,pR,pFi,pX]|apply Aa|refine sp_ ?_ ?_<;>intro hc<;>push_cast at hc|refine ee hq ?_|(refine cc hq ?_;(simp(disch:=omega)only[push_cast,↓zz,seval,pR,pFi,pX]);(fail_if_success change False))|omega|intro _))
  ·rw[Ac h1]
   obtain⟨n,hk⟩:=XY h;obtain⟨m,rfl⟩:∃m:Nat,mo=m:=⟨mo.toNat,by omega⟩;rw[Int.toNat_natCast] at hB ⊢;exact Wa d x hk hq m (by omega) (by omega) (hB h)
 ·rw[Ae h]
  generalize askV d x=k at *;refine Cg Ik ?_;unfold GL;(with_reducible repeat'(first|simp (disch:=omega) only[push_cast,↓zz,seval,pR,pFi,pX,h]|apply Aa|refine sp_ ?_ ?_<;>intro hc<;>push_cast at hc|refine ee hq ?_|(refine cc hq ?_;(simp(disch:=omega)only[push_cast,↓zz,seval,pR,pFi,pX,h]);(fail_if_success change False))|omega|intro _))
  all_goals trace_state
theorem z5p{l:List Rule}{n:Nat}(hl:∀r∈l,(0<=r.from_/\r.from_<n)/\0<=r.to_/\r.to_<n)(hc:¬cycP l n){ord:List Nat}{s:Nat}(hs:s<n)(hso:s∉ord):∃t,t<n/\t∉ord/\∀r∈l,Df r=true->r.from_=(t:Nat)->r.to_.toNat∈ord:=by
 refine AS λhno=>?_
 have hx:∀t,t<n->t∉ord->∃i,i<l.length/\Df (nth l i)=true/\(nth l i).from_=(t:Nat)/\(nth l i).to_.toNat∉ord:=λt h1 h2=>by
  refine AS λh3=>hno ⟨t,h1,h2,λr hr he hf=>?_⟩;refine AS λh4=>h3 ?_;obtain⟨i,hi,rfl⟩:=Bt hr;exact⟨i,hi,by rw[Gi hi];exact he,by rw[Gi hi];exact hf,by rw[Gi hi];exact h4⟩
 have key:∀k:Nat,∃(q:List Nat) (t:Nat),okP l (s:Nat) q/\endP l (s:Nat) q=(t:Nat)/\t<n/\t∉ord/\k<=q.length:=λk=>by
  induction k with
  |zero=>exact⟨[],s,trivial,rfl,hs,hso,Ad _⟩
  |succ k ih =>
   obtain⟨q,t,q1,q2,q3,q4,q5⟩:=ih;obtain⟨i,i1,i2,i3,i4⟩:=hx t q3 q4;have hr:=hl _ (Bo i1);refine⟨q++[i],(nth l i).to_.toNat,?_,?_,by omega,i4,by simp;omega⟩
   ·rw[RN,q2];exact⟨q1,RL.2 ⟨i1,i2,i3⟩,trivial⟩
   ·rw[Nm,q2]
    show (nth l i).to_=_;omega
 obtain⟨q,t,q1,_,_,_,q5⟩:=key (n+2);have:=z4l hl hc (by omega) q1;omega
theorem zhu{l:List Rule}{n:Nat}(hl:∀r∈l,(0<=r.from_/\r.from_<n)/\0<=r.to_/\r.to_<n)(hc:¬cycP l n):∃ord,Topo l n ord:=by
 have hole:∀ord:List Nat,ord.Nodup->(∀a∈ord,a<n)->∀s,s<n->s∉ord->ord.length<n:=λord h1 h2 s hs hso=>by
  have:=Iy (l:=s::ord) (m:=List.range n) (BL.2 ⟨hso,h1⟩) λa ha=>by
   rcases Af.1 ha with rfl|ha
   ·exact Bn.2 hs
   ·exact Bn.2 (h2 a ha)
  simp at this;omega
 have key:∀k,k<=n->∃ord:List Nat,ord.length=k/\VN l ord/\ord.Nodup/\∀a∈ord,a<n:=λk=>by
  induction k with
  |zero=>exact λ_=>⟨[],rfl,λi hi=>absurd hi (AZ _),CZ,λa h=>by cases h⟩
  |succ k ih =>
   intro hk;obtain⟨ord,o1,o2,o3,o4⟩:=ih (by omega)
   obtain⟨s,hs,hso⟩:∃s,s<n/\s∉ord:=by
    refine AS λhno=>?_
    have:=Iy (l:=List.range n) (m:=ord) DJ λa ha=>by
     refine AS λh=>hno ⟨a,Bn.1 ha,h⟩
    simp at this;omega
   obtain⟨t,t1,t2,t3⟩:=z5p hl hc hs hso;refine⟨ord++[t],by simp[o1],Un o2 λr hr he hf=>⟨r.to_.toNat,?_,t3 r hr he hf⟩,?_,λa ha=>?_⟩
   ·have:=hl r hr;omega
   ·refine CN.2 ⟨o3,BL.2 ⟨by simp,CZ⟩,λa ha b hb=>?_⟩
    rw[An.1 hb];rintro rfl;exact t2 ha
   ·rcases Am.1 ha with h|h
    ·exact o4 a h
    ·rw[An.1 h];exact t1
 obtain⟨ord,o1,o2,o3,o4⟩:=key n (Ad _);refine⟨ord,o3,λs=>⟨o4 s,λhs=>?_⟩,o2⟩;refine AS λh=>?_;have:=hole ord o3 o4 s hs h;omega
theorem Q7{d:Desc}{x:List Int}{n:Nat}(hk:VY d x n):∃ord,Topo d.rules n ord:=zhu (λr hr=>⟨(hk.goes.r r hr).1,(hk.goes.r r hr).2.1⟩) hk.cyc
theorem Uz{d:Desc}{x:List Int}{n:Nat}(hk:VY d x n){a:Nat}{s:Int}(ha:a<=x.length)(hs:0<=s/\s<n):J8 d x a s (outW d x a s):=by
 obtain⟨ord,ht⟩:=Q7 hk;have:=MJ hk.goes ht ha (t:=s.toNat) (by omega)
 rwa [BC hs.1] at this
theorem z5q{d:Desc}{x:List Int}{n:Nat}(hk:VY d x n){w:List Int}(hw:w∈outW d x 0 d.start):w.length<=100000000:=by
 obtain⟨ord,ht⟩:=Q7 hk;have h1:=((Uz hk (A4 _) hk.start).2 w).1 hw;have h2:=hk.start;have e:((d.start.toNat:Nat):Int)=d.start:=BC h2.1;rw[<-e] at h1;exact RP hk.goes ht ⟨λr hr=>(hk.rb r hr).2.1.1,λf hf=>(hk.fb f hf).2.1⟩ hk.n1 hk.xl (A4 _) (by omega) h1
set_option maxRecDepth 100000
set_option maxRecDepth 100000
set_option maxRecDepth 100000
theorem z5r(s:Int)(l:List Int)(hl:l.length<=1000000000000)(h32:∀x∈l,-2147483648<=x/\x<=2147483647):PC Tryz.prog 16 [.int .i64 s,AD l] (.bool (l.all (E8 s))):=by
 have pI:AF (l.map (AV.int .i32))=true:=AB .i32 _;refine Cg Tm ?_;unfold Mj;(with_reducible repeat'(first|simp (disch:=omega) only[push_cast,↓zz,seval,pI]|apply Aa|refine sp_ ?_ ?_<;>intro hc<;>push_cast at hc|omega|intro _))
 refine Bs (B5 (λ(k:Nat)=>k<=l.length/\l.all (E8 s)=(l.drop k).all (E8 s)) (λk=>l.length-k)
  (λk=>[(0,.int .i64 s),(1,AD l),(5,.int .i64 k)]) (λ_=>[]) (λ_ _=>[]) 0 (by simp) ?_ ?_)
 ·(with_reducible repeat'(first|simp (disch:=omega) only[push_cast,↓zz,seval,pI]|apply Aa|refine sp_ ?_ ?_<;>intro hc<;>push_cast at hc|omega|intro _))
 rintro k ⟨hk,hr⟩;rcases Ak k l.length with hkl|hkl
 ·have hI:=zag s (nth l k) (h32 _ (Bo hkl))
  rw[drop_at hkl,List.all_cons] at hr;generalize E8 s (nth l k)=b at *;cases b with
  |true =>
   refine W_T ?_;(with_reducible repeat'(first|simp (disch:=omega) only[push_cast,↓zz,seval,pI]|apply Aa|refine sp_ ?_ ?_<;>intro hc<;>push_cast at hc|refine ee hI ?_|(refine cc hI ?_;(simp(disch:=omega)only[push_cast,↓zz,seval,pI]);(fail_if_success change False))|omega|intro _))
   all_goals
    refine⟨k+1,?_⟩;(with_reducible repeat'(first|simp (disch:=omega) only[push_cast,↓zz,seval]|apply Aa|refine sp_ ?_ ?_<;>intro hc<;>push_cast at hc|omega|intro _));simpa using hr
  |false =>
   refine W_T ?_;(with_reducible repeat'(first|simp (disch:=omega) only[push_cast,↓zz,seval,pI]|apply Aa|refine sp_ ?_ ?_<;>intro hc<;>push_cast at hc|refine ee hI ?_|(refine cc hI ?_;(simp(disch:=omega)only[push_cast,↓zz,seval,pI]);(fail_if_success change False))|omega|intro _))
   all_goals (rw[hr];rfl)
 ·rw[As hkl] at hr
  refine W_T ?_;(with_reducible repeat'(first|simp (disch:=omega) only[push_cast,↓zz,seval,pI]|apply Aa|refine sp_ ?_ ?_<;>intro hc<;>push_cast at hc|omega|intro _))
  all_goals (rw[hr];rfl)
set_option maxRecDepth 100000
theorem J4(n:Rec)(hf:E0 n):PC Tryz.prog 28 [recV n] (.bool (okR n 0)):=by
 have hR:=Qy n hf 0 (by omega) (by omega);generalize okR n 0=q at *;generalize secR n 0=q2 at *;obtain⟨k,s,b,r,w,l⟩:=n;have ps:=Be s;have pr:AF (r.map (AV.int .i32))=true:=AB .i32 _;have pw:AF (w.map (AV.int .i32))=true:=AB .i32 _;have pl:=BO l;rw[Ck] at *;refine Cg Tp ?_;unfold Mm;(with_reducible repeat'(first|simp (disch:=omega) only[push_cast,↓zz,seval,ps,pr,pw,pl]|apply Aa|refine sp_ ?_ ?_<;>intro hc<;>push_cast at hc|refine ee hR ?_|(refine cc hR ?_;(simp(disch:=omega)only[push_cast,↓zz,seval,ps,pr,pw,pl]);(fail_if_success change False))|omega|intro _))
 all_goals trace_state
theorem U0(n:Rec)(hf:E0 n):PC Tryz.prog 29 [recV n] (.bool (okR n 0&&GH n)):=by
 have hR:=Qy n hf 0 (by omega) (by omega);have hS:=zd6 (n:=n) (d:=0);cases ho:okR n 0 with
 |false =>
  rw[ho] at hR;rw[Bm];generalize secR n 0=q2 at *;obtain⟨k,s,b,r,w,l⟩:=n;have ps:=Be s;have pr:AF (r.map (AV.int .i32))=true:=AB .i32 _;have pw:AF (w.map (AV.int .i32))=true:=AB .i32 _;have pl:=BO l;rw[Ck] at *;refine Cg NQ ?_;unfold JZ;(with_reducible repeat'(first|simp (disch:=omega) only[push_cast,↓zz,seval,ps,pr,pw,pl]|apply Aa|refine sp_ ?_ ?_<;>intro hc<;>push_cast at hc|refine ee hR ?_|(refine cc hR ?_;(simp(disch:=omega)only[push_cast,↓zz,seval,ps,pr,pw,pl]);(fail_if_success change False))|omega|intro _))
 |true =>
  rw[ho,hS ho] at hR;rw[AR];generalize GH n=q2 at *;obtain⟨k,s,b,r,w,l⟩:=n;have ps:=Be s;have pr:AF (r.map (AV.int .i32))=true:=AB .i32 _;have pw:AF (w.map (AV.int .i32))=true:=AB .i32 _;have pl:=BO l;rw[Ck] at *;refine Cg NQ ?_;unfold JZ;(with_reducible repeat'(first|simp (disch:=omega) only[push_cast,↓zz,seval,ps,pr,pw,pl]|apply Aa|refine sp_ ?_ ?_<;>intro hc<;>push_cast at hc|refine ee hR ?_|(refine cc hR ?_;(simp(disch:=omega)only[push_cast,↓zz,seval,ps,pr,pw,pl]);(fail_if_success change False))|omega|intro _))
  all_goals trace_state
set_option maxRecDepth 100000
theorem zhv(g:List Span)(hl:g.length<=1000000):PC Tryz.prog 49 [Bc g] (.bool (ET 2 g)):=by
 have hN:=LW g (by omega);have hS:=Zl g (B0 g) (by omega);have hD:=MF 2;have hM:=LU g (domL 2) 2 (by omega) (by simp[domL]);rw[Qg] at hM;have pg:=Be g;have pn:=Be (B0 g);have pd:=Be (domL 2);have pm:=Be (Ew g (domL 2));have hz:decide (Ew g (domL 2)=[])=decide (((Ew g (domL 2)).length:Int)=0):=BH.2 ⟨λh=>by rw[h];rfl,λh=>Aw (by omega)⟩;have e:ET 2 g=(decide (g.length≠0)&&(decide (g.length<=64)&&(decide (g=B0 g)&&decide (Ew g (domL 2)=[])))):=(Z1 2 g).symm;rw[e,hz];generalize decide (g=B0 g)=c at *;generalize Ew g (domL 2)=M at *;generalize B0 g=N at *;generalize domL 2=D at *;refine Cg Vd ?_;unfold NR;by_cases h0:g.length=0
 ·rw[Bf (by omega)]
  (with_reducible repeat'(first|simp (disch:=omega) only[push_cast,↓zz,seval,pg]|apply Aa|refine sp_ ?_ ?_<;>intro hc<;>push_cast at hc|omega|intro _))
  all_goals first|omega|trace_state
 ·rw[AJ (p:=g.length≠0) (by omega)]
  by_cases h1:g.length<=64
  ·rw[AJ h1]
   cases c<;>(with_reducible repeat'(first|simp (disch:=omega) only[push_cast,↓zz,seval,pg,pd,pn,pm]|apply Aa|refine sp_ ?_ ?_<;>intro hc<;>push_cast at hc|refine ee hN ?_|refine ee hS ?_|refine ee hD ?_|refine ee hM ?_|((first|refine cc hN ?_|refine cc hS ?_|refine cc hD ?_|refine cc hM ?_);(simp(disch:=omega)only[push_cast,↓zz,seval,pg,pd,pn,pm]);(fail_if_success change False))|omega|intro _))
   all_goals first|omega|trace_state
  ·rw[Bf h1]
   (with_reducible repeat'(first|simp (disch:=omega) only[push_cast,↓zz,seval,pg]|apply Aa|refine sp_ ?_ ?_<;>intro hc<;>push_cast at hc|omega|intro _))
   all_goals first|omega|trace_state
theorem Wb(n:Rec):E0 n->PC Tryz.prog 53 [recV n] (.bool (GH n)):=by
 refine Rec.ind (P:=λn=>E0 n->PC Tryz.prog 53 [recV n] (.bool (GH n))) ?_ n;intro k s b r w l ih hf;cases hf with
 |mk hs hr hw hl hch =>
 have ps:=Be s;have pr:AF (r.map (AV.int .i32))=true:=AB .i32 _;have pw:AF (w.map (AV.int .i32))=true:=AB .i32 _;have pl:=BO l;rw[Ck,GH,show decide (r.length=0)=decide ((r.length:Int)=0) from BH.2 (by omega)];refine Cg NS ?_;unfold IM;by_cases h3:k=3
 ·subst h3
  rw[Ae rfl];(with_reducible repeat'(first|simp (disch:=omega) only[push_cast,↓zz,seval,ps,pr,pw,pl]|apply Aa|refine sp_ ?_ ?_<;>intro hc<;>push_cast at hc|omega|intro _))
 by_cases h4:k=4
 ·subst h4
  rw[Ac (by decide),Ae rfl];(with_reducible repeat'(first|simp (disch:=omega) only[push_cast,↓zz,seval,ps,pr,pw,pl]|apply Aa|refine sp_ ?_ ?_<;>intro hc<;>push_cast at hc|omega|intro _))
  refine Bs (B5 (λ(i:Nat)=>i<=l.length/\Fg l=Fg (l.drop i)) (λi=>l.length-i) (λi=>[(1,.ptr 0 1 0 0),(3,.int .i64 i)])
   (λ_=>[⟨6,1,true,[.agg [.int .i64 4,Bc s,.int .i64 b,AD r,AD w,.lst 6 (l.map recV)]]⟩]) (λenv _=>[Dp 6 (env 1)]) 0 ⟨by simp,by simp⟩ ?_ ?_)
  ·(with_reducible repeat'(first|simp (disch:=omega) only[push_cast,↓zz,seval,ps,pr,pw,pl]|apply Aa|refine sp_ ?_ ?_<;>intro hc<;>push_cast at hc|omega|intro _))
  rintro i ⟨hi,hk⟩;rcases Ak i l.length with hil|hil
  ·have hm:=ih _ (Bo hil) (hch _ (Bo hil))
   rw[MG hil] at hk;generalize GH (nth l i)=q at *;have pn:=IV (nth l i);obtain⟨k',s',b',r',w',l',he⟩:∃k' s' b' r' w' l',nth l i=.mk k' s' b' r' w' l':=by cases nth l i;exact⟨_,_,_,_,_,_,rfl⟩
   have hrm:=Ck k' s' b' r' w' l';have ps':=Be s';have pr':AF (r'.map (AV.int .i32))=true:=AB .i32 _;have pw':AF (w'.map (AV.int .i32))=true:=AB .i32 _;have pl':=BO l';rw[he,hrm] at hm;refine W_T ?_;cases q with
   |false =>
    (with_reducible repeat'(first|simp (disch:=omega) only[push_cast,↓zz,seval,ps,pr,pw,pl,ps',pr',pw',pl',he,hrm]|apply Aa|refine sp_ ?_ ?_<;>intro hc<;>push_cast at hc|refine ee hm ?_|(refine cc hm ?_;(simp(disch:=omega)only[push_cast,↓zz,seval,ps,pr,pw,pl,ps',pr',pw',pl',he,hrm]);(fail_if_success change False))|omega|intro _))
    all_goals first|(simp[hk];done)|trace_state
   |true =>
    (with_reducible repeat'(first|simp (disch:=omega) only[push_cast,↓zz,seval,ps,pr,pw,pl,ps',pr',pw',pl',he,hrm]|apply Aa|refine sp_ ?_ ?_<;>intro hc<;>push_cast at hc|refine ee hm ?_|(refine cc hm ?_;(simp(disch:=omega)only[push_cast,↓zz,seval,ps,pr,pw,pl,ps',pr',pw',pl',he,hrm]);(fail_if_success change False))|omega|intro _))
    all_goals
     refine⟨i+1,?_⟩;(with_reducible repeat'(first|simp (disch:=omega) only[push_cast,↓zz,seval,ps,pr,pw,pl]|apply Aa|refine sp_ ?_ ?_<;>intro hc<;>push_cast at hc|omega|intro _))
    all_goals first|(simpa using hk)|trace_state
  ·obtain rfl:i=l.length:=by omega
   rw[List.drop_length,Fg] at hk;refine W_T ?_;(with_reducible repeat'(first|simp (disch:=omega) only[push_cast,↓zz,seval,ps,pr,pw,pl]|apply Aa|refine sp_ ?_ ?_<;>intro hc<;>push_cast at hc|omega|intro _))
   all_goals first|(simp[hk];done)|trace_state
 by_cases h5:k=5
 ·subst h5
  rw[Ac (by decide),Ac (by decide),Ae rfl];(with_reducible repeat'(first|simp (disch:=omega) only[push_cast,↓zz,seval,ps,pr,pw,pl]|apply Aa|refine sp_ ?_ ?_<;>intro hc<;>push_cast at hc|omega|intro _))
  refine Bs (B5 (λ(i:Nat)=>i<=l.length/\Gz l=Gz (l.drop i)) (λi=>l.length-i) (λi=>[(1,.ptr 0 1 0 0),(4,.int .i64 i)])
   (λ_=>[⟨6,1,true,[.agg [.int .i64 5,Bc s,.int .i64 b,AD r,AD w,.lst 6 (l.map recV)]]⟩]) (λenv _=>[Dp 6 (env 1)]) 0 ⟨by simp,by simp⟩ ?_ ?_)
  ·(with_reducible repeat'(first|simp (disch:=omega) only[push_cast,↓zz,seval,ps,pr,pw,pl]|apply Aa|refine sp_ ?_ ?_<;>intro hc<;>push_cast at hc|omega|intro _))
  rintro i ⟨hi,hk⟩;rcases Ak i l.length with hil|hil
  ·have hm:=ih _ (Bo hil) (hch _ (Bo hil))
   rw[MH hil] at hk;generalize GH (nth l i)=q at *;obtain⟨k',s',b',r',w',l',he⟩:∃k' s' b' r' w' l',nth l i=.mk k' s' b' r' w' l':=by cases nth l i;exact⟨_,_,_,_,_,_,rfl⟩
   have hrm:=Ck k' s' b' r' w' l';have ps':=Be s';have pr':AF (r'.map (AV.int .i32))=true:=AB .i32 _;have pw':AF (w'.map (AV.int .i32))=true:=AB .i32 _;have pl':=BO l';rw[he,hrm] at hm;refine W_T ?_;cases q with
   |true =>
    (with_reducible repeat'(first|simp (disch:=omega) only[push_cast,↓zz,seval,ps,pr,pw,pl,ps',pr',pw',pl',he,hrm]|apply Aa|refine sp_ ?_ ?_<;>intro hc<;>push_cast at hc|refine ee hm ?_|(refine cc hm ?_;(simp(disch:=omega)only[push_cast,↓zz,seval,ps,pr,pw,pl,ps',pr',pw',pl',he,hrm]);(fail_if_success change False))|omega|intro _))
    all_goals first|(simp[hk];done)|trace_state
   |false =>
    (with_reducible repeat'(first|simp (disch:=omega) only[push_cast,↓zz,seval,ps,pr,pw,pl,ps',pr',pw',pl',he,hrm]|apply Aa|refine sp_ ?_ ?_<;>intro hc<;>push_cast at hc|refine ee hm ?_|(refine cc hm ?_;(simp(disch:=omega)only[push_cast,↓zz,seval,ps,pr,pw,pl,ps',pr',pw',pl',he,hrm]);(fail_if_success change False))|omega|intro _))
    all_goals
     refine⟨i+1,?_⟩;(with_reducible repeat'(first|simp (disch:=omega) only[push_cast,↓zz,seval,ps,pr,pw,pl]|apply Aa|refine sp_ ?_ ?_<;>intro hc<;>push_cast at hc|omega|intro _))
    all_goals first|(simpa using hk)|trace_state
  ·obtain rfl:i=l.length:=by omega
   rw[List.drop_length,Gz] at hk;refine W_T ?_;(with_reducible repeat'(first|simp (disch:=omega) only[push_cast,↓zz,seval,ps,pr,pw,pl]|apply Aa|refine sp_ ?_ ?_<;>intro hc<;>push_cast at hc|omega|intro _))
   all_goals first|(simp[hk];done)|trace_state
 ·rw[Ac h3,Ac h4,Ac h5]
  (with_reducible repeat'(first|simp (disch:=omega) only[push_cast,↓zz,seval,ps,pr,pw,pl,h3,h4,h5]|apply Aa|refine sp_ ?_ ?_<;>intro hc<;>push_cast at hc|omega|intro _))
  all_goals first|(exfalso;omega)|trace_state
theorem z5s(n:Rec):E0 n->∀d:Int,0<=d->d<=65->PC Tryz.prog 19 [recV n,.int .i64 d] (.bool (okR n d)):=by
 refine Rec.ind (P:=λn=>E0 n->∀d:Int,0<=d->d<=65->PC Tryz.prog 19 [recV n,.int .i64 d] (.bool (okR n d))) ?_ n;intro k s b r w l ih hf d hd0 hd1;have hNo:=λ(h6:k=6)=>Wb (.mk 4 [] 0 [] [] l) (by cases hf with|mk hs hr hw hl hch=>exact .mk (by simp) (by simp) (by simp) hl hch);cases hf with
 |mk hs hr hw hl hch =>
 have ps:=Be s;have pr:AF (r.map (AV.int .i32))=true:=AB .i32 _;have pw:AF (w.map (AV.int .i32))=true:=AB .i32 _;have pl:=BO l;rw[Ck];refine Cg Rh ?_;unfold K7;by_cases hd:64<d
 ·rw[show okR (.mk k s b r w l) d=false by rw[okR,AJ hd];rfl]
  (with_reducible repeat'(first|simp (disch:=omega) only[push_cast,↓zz,seval,ps,pr,pw,pl]|apply Aa|refine sp_ ?_ ?_<;>intro hc<;>push_cast at hc|omega|intro _))
 have e0:okR (.mk k s b r w l) d=(if k=1 then !decide (b < -1114111\/1114111<b)&&(ET 2 s&&decide (Ew (Fv s b) (domL 2)=[])) else if k=2 then ET 2 s
  else if k=3 then r.all (E8 2)&&w.all (E8 2) else if k=4\/k=5 then okL l (d+1) else if k=6 then okL l (d+1)&&!Fg l else false):=by rw[okR,Bf hd];rfl
 rw[e0];clear e0;have hS:=zhv s hs;have hD:=MF 2;have pD:=Be (domL 2);by_cases h1:k=1
 ·subst h1
  rw[Ae rfl];by_cases hb:b < -1114111\/1114111<b
  ·rw[AJ hb]
   (with_reducible repeat'(first|simp (disch:=omega) only[push_cast,↓zz,seval,ps,pr,pw,pl]|apply Aa|refine sp_ ?_ ?_<;>intro hc<;>push_cast at hc|omega|intro _))
   all_goals first|omega|trace_state
  ·rw[Bf hb]
   have hM:=Zz s b (by omega);have hW:=LU (Fv s b) (domL 2) 2 (by have:=Ul s b;omega) (by simp[domL]);rw[Qg] at hW;have pM:=Be (Fv s b);have pW:=Be (Ew (Fv s b) (domL 2));have hz:decide (Ew (Fv s b) (domL 2)=[])=decide (((Ew (Fv s b) (domL 2)).length:Int)=0):=BH.2 ⟨λh=>by rw[h];rfl,λh=>Aw (by omega)⟩;rw[hz];generalize Ew (Fv s b) (domL 2)=X at *;generalize Fv s b=M at *;generalize domL 2=D at *;cases hg:ET 2 s with
   |false =>
    rw[hg] at hS;(with_reducible repeat'(first|simp (disch:=omega) only[push_cast,↓zz,seval,ps,pr,pw,pl]|apply Aa|refine sp_ ?_ ?_<;>intro hc<;>push_cast at hc|refine ee hS ?_|(refine cc hS ?_;(simp(disch:=omega)only[push_cast,↓zz,seval,ps,pr,pw,pl]);(fail_if_success change False))|omega|intro _))
    all_goals first|omega|trace_state
   |true =>
    rw[hg] at hS;(with_reducible repeat'(first|simp (disch:=omega) only[push_cast,↓zz,seval,ps,pr,pw,pl,pM,pD,pW]|apply Aa|refine sp_ ?_ ?_<;>intro hc<;>push_cast at hc|refine ee hS ?_|refine ee hM ?_|refine ee hD ?_|refine ee hW ?_|((first|refine cc hS ?_|refine cc hM ?_|refine cc hD ?_|refine cc hW ?_);(simp(disch:=omega)only[push_cast,↓zz,seval,ps,pr,pw,pl,pM,pD,pW]);(fail_if_success change False))|omega|intro _))
    all_goals first|omega|trace_state
 by_cases h2:k=2
 ·subst h2
  rw[Ac (by decide),Ae rfl];generalize ET 2 s=q at *;(with_reducible repeat'(first|simp (disch:=omega) only[push_cast,↓zz,seval,ps,pr,pw,pl]|apply Aa|refine sp_ ?_ ?_<;>intro hc<;>push_cast at hc|refine ee hS ?_|(refine cc hS ?_;(simp(disch:=omega)only[push_cast,↓zz,seval,ps,pr,pw,pl]);(fail_if_success change False))|omega|intro _))
 by_cases h3:k=3
 ·subst h3
  rw[Ac (by decide),Ac (by decide),Ae rfl];have hR:=z5r 2 r (by omega) hr.2;have hW:=z5r 2 w (by omega) hw.2;generalize w.all (E8 2)=qw at *;cases hq:r.all (E8 2)<;>rw[hq] at hR
  ·(with_reducible repeat'(first|simp (disch:=omega) only[push_cast,↓zz,seval,ps,pr,pw,pl]|apply Aa|refine sp_ ?_ ?_<;>intro hc<;>push_cast at hc|refine ee hR ?_|(refine cc hR ?_;(simp(disch:=omega)only[push_cast,↓zz,seval,ps,pr,pw,pl]);(fail_if_success change False))|omega|intro _))
  ·(with_reducible repeat'(first|simp (disch:=omega) only[push_cast,↓zz,seval,ps,pr,pw,pl]|apply Aa|refine sp_ ?_ ?_<;>intro hc<;>push_cast at hc|refine ee hR ?_|refine ee hW ?_|((first|refine cc hR ?_|refine cc hW ?_);(simp(disch:=omega)only[push_cast,↓zz,seval,ps,pr,pw,pl]);(fail_if_success change False))|omega|intro _))
 by_cases h456:k=4\/k=5\/k=6
 ·rw[Ac h1,Ac h2,Ac h3]
  (with_reducible repeat'(first|simp (disch:=omega) only[push_cast,↓zz,seval,ps,pr,pw,pl,h1,h2,h3]|apply Aa|refine sp_ ?_ ?_<;>intro hc<;>push_cast at hc|omega|intro _))
  all_goals first|(exfalso;omega)|skip
  all_goals
   refine Bs (B5 (λ(i:Nat)=>i<=l.length/\okL l (d+1)=okL (l.drop i) (d+1)) (λi=>l.length-i)
    (λi=>[(1,.int .i64 d),(2,.ptr 0 1 0 0),(5,.int .i64 i)])
    (λ_=>[⟨6,1,true,[.agg [.int .i64 k,Bc s,.int .i64 b,AD r,AD w,.lst 6 (l.map recV)]]⟩]) (λenv _=>[Dp 6 (env 2)]) 0 ⟨by simp,by simp⟩ ?_ ?_)
   ·(with_reducible repeat'(first|simp (disch:=omega) only[push_cast,↓zz,seval,ps,pr,pw,pl]|apply Aa|refine sp_ ?_ ?_<;>intro hc<;>push_cast at hc|omega|intro _))
   rintro i ⟨hi,hk1⟩;rcases Ak i l.length with hil|hil
   ·have hm:=ih _ (Bo hil) (hch _ (Bo hil)) (d+1) (by omega) (by omega)
    rw[XN hil] at hk1;obtain⟨k',s',b',r',w',l',he⟩:∃k' s' b' r' w' l',nth l i=.mk k' s' b' r' w' l':=by cases nth l i;exact⟨_,_,_,_,_,_,rfl⟩
    have hrm:=Ck k' s' b' r' w' l';have ps':=Be s';have pr':AF (r'.map (AV.int .i32))=true:=AB .i32 _;have pw':AF (w'.map (AV.int .i32))=true:=AB .i32 _;have pl':=BO l';generalize okR (nth l i) (d+1)=q at *;rw[he,hrm] at hm;clear hNo;refine W_T ?_;cases q with
    |false =>
     rw[Bm] at hk1;(with_reducible repeat'(first|simp (disch:=omega) only[push_cast,↓zz,seval,ps,pr,pw,pl,ps',pr',pw',pl',he,hrm]|apply Aa|refine sp_ ?_ ?_<;>intro hc<;>push_cast at hc|refine ee hm ?_|(refine cc hm ?_;(simp(disch:=omega)only[push_cast,↓zz,seval,ps,pr,pw,pl,ps',pr',pw',pl',he,hrm]);(fail_if_success change False))|omega|intro _))
     all_goals first|(simp[hk1];done)|trace_state
    |true =>
     rw[AR] at hk1;(with_reducible repeat'(first|simp (disch:=omega) only[push_cast,↓zz,seval,ps,pr,pw,pl,ps',pr',pw',pl',he,hrm]|apply Aa|refine sp_ ?_ ?_<;>intro hc<;>push_cast at hc|refine ee hm ?_|(refine cc hm ?_;(simp(disch:=omega)only[push_cast,↓zz,seval,ps,pr,pw,pl,ps',pr',pw',pl',he,hrm]);(fail_if_success change False))|omega|intro _))
     all_goals
      refine⟨i+1,?_⟩;(with_reducible repeat'(first|simp (disch:=omega) only[push_cast,↓zz,seval,ps,pr,pw,pl]|apply Aa|refine sp_ ?_ ?_<;>intro hc<;>push_cast at hc|omega|intro _))
     all_goals first|exact hk1|trace_state
   ·obtain rfl:i=l.length:=by omega
    rw[List.drop_length,okL] at hk1;rw[hk1];by_cases h6:k=6
    ·have hNo:=hNo h6
     rw[Ck,show GH (.mk 4 [] 0 [] [] l)=Fg l from rfl] at hNo;rw[Ac (by omega),Ae h6,AR];generalize Fg l=q at *;refine W_T ?_;(with_reducible repeat'(first|simp (disch:=omega) only[push_cast,↓zz,seval,ps,pr,pw,pl,h6]|apply Aa|refine sp_ ?_ ?_<;>intro hc<;>push_cast at hc|refine ee hNo ?_|(refine cc hNo ?_;(simp(disch:=omega)only[push_cast,↓zz,seval,ps,pr,pw,pl,h6]);(fail_if_success change False))|omega|intro _))
    ·rw[Ae (by omega)]
     clear hNo;refine W_T ?_;(with_reducible repeat'(first|simp (disch:=omega) only[push_cast,↓zz,seval,ps,pr,pw,pl,h6]|apply Aa|refine sp_ ?_ ?_<;>intro hc<;>push_cast at hc|omega|intro _))
 ·rw[Ac h1,Ac h2,Ac h3,Ac (by omega),Ac (by omega)]
  (with_reducible repeat'(first|simp (disch:=omega) only[push_cast,↓zz,seval,ps,pr,pw,pl,h1,h2,h3]|apply Aa|refine sp_ ?_ ?_<;>intro hc<;>push_cast at hc|omega|intro _))
  all_goals first|omega|trace_state
end Go.Proofs.YtflibbceibjddaaGreat
set_option maxRecDepth 100000
namespace Go.Proofs.YtflibbceibjddaaGreat
open Abs O1 O2 O3 Go.RowKit
mutual
def cntR:Rec->Nat->Nat
 |.mk _ s _ r w l,m=>cntL l m (1+min r.length m+min w.length m+min s.length m)
def cntL:List Rec->Nat->Nat->Nat
 |[],_,t=>t
 |n::l,m,t=>if t<=m then cntL l m (t+cntR n (m-t)) else t
end
mutual
def cntN:Rec->Nat
 |.mk _ s _ r w l=>1+r.length+w.length+s.length+cntA l
def cntA:List Rec->Nat
 |[]=>0
 |n::l=>cntN n+cntA l
end
theorem RZ:∀(l:List Rec)(m t:Nat),t<=cntL l m t
 |[],m,t=>by rw[cntL];exact Ad _
 |n::l,m,t=>by
  rw[cntL];split
  ·exact AT (Dd _ _) (RZ l m _)
  ·exact Ad _
theorem z5t(n:Rec):∀m,cntR n m<=4 * m+1:=by
 refine Rec.ind (P:=λn=>∀m,cntR n m<=4 * m+1) ?_ n;intro k s b r w l ih m
 have key:∀(l:List Rec),(∀n∈l,∀m,cntR n m<=4 * m+1)->∀t,t<=4 * m+1->cntL l m t<=4 * m+1:=by
  intro l
  induction l with
  |nil=>intro _ t ht;rw[cntL];exact ht
  |cons n l ihl =>
   intro h t ht;rw[cntL];split
   ·have:=h n (by simp) (m-t)
    exact ihl (λn hn=>h n (by simp[hn])) _ (by omega)
   ·exact ht
 rw[cntR];exact key l ih _ (by omega)
theorem z5u{l:List Rec}{m t i:Nat}(hi:i<l.length):cntL (l.drop i) m t=if t<=m then cntL (l.drop (i+1)) m (t+cntR (nth l i) (m-t)) else t:=by rw[drop_at hi,cntL]
theorem z5v(n:Rec):IW n->∀m:Nat,m<=1000->PC Tryz.prog 44 [recV n,.int .i64 m] (.int .i64 (cntR n m:Nat)):=by
 refine Rec.ind (P:=λn=>IW n->∀m:Nat,m<=1000->PC Tryz.prog 44 [recV n,.int .i64 m] (.int .i64 (cntR n m:Nat))) ?_ n;intro k s b r w l ih hf m hmm;cases hf with
 |mk _ hs hr hw hl hch =>
 have ps:=Be s;have pr:AF (r.map (AV.int .i32))=true:=AB .i32 _;have pw:AF (w.map (AV.int .i32))=true:=AB .i32 _;have pl:=BO l;have e0:cntR (.mk k s b r w l) m=cntL l m (1+min r.length m+min w.length m+min s.length m):=by rw[cntR]
 obtain⟨a1,h1⟩:∃a,a=min r.length m:=⟨_,rfl⟩;obtain⟨a2,h2⟩:∃a,a=min w.length m:=⟨_,rfl⟩;obtain⟨a3,h3⟩:∃a,a=min s.length m:=⟨_,rfl⟩;have m1:min (r.length:Int) (m:Int)=(a1:Int):=by omega
 have m2:min (w.length:Int) (m:Int)=(a2:Int):=by omega
 have m3:min (s.length:Int) (m:Int)=(a3:Int):=by omega
 rw[<-h1,<-h2,<-h3] at e0;have hl2:l.length<=9223372036854775807:=AT hl (by decide);rw[Ck];generalize cntR (.mk k s b r w l) m=z at *;refine Cg Ri ?_;unfold K8;(with_reducible repeat'(first|simp (disch:=omega) only[push_cast,↓zz,seval,ps,pr,pw,pl,m1,m2,m3]|apply Aa|refine sp_ ?_ ?_<;>intro hc<;>push_cast at hc|omega|intro _))
 refine Bs (B5 (λ(q:Nat × Nat)=>q.1<=l.length/\q.2<=4 * m+1/\z=cntL (l.drop q.1) m q.2) (λq=>l.length-q.1)
  (λq=>[(1,.int .i64 m),(2,.ptr 0 1 0 0),(5,.int .i64 q.2),(6,.int .i64 q.1)]) (λ_=>[⟨6,1,true,[.agg [.int .i64 k,Bc s,.int .i64 b,AD r,AD w,.lst 6 (l.map recV)]]⟩]) (λenv _=>[Dp 6 (env 2)]) (0,1+a1+a2+a3) ⟨by simp,by simp only;omega,by simpa using e0⟩ ?_ ?_)
 ·(with_reducible repeat'(first|simp (disch:=omega) only[push_cast,↓zz,seval,ps,pr,pw,pl,m1,m2,m3]|apply Aa|refine sp_ ?_ ?_<;>intro hc<;>push_cast at hc|omega|intro _))
  all_goals first|omega|trace_state
 rintro⟨i,t⟩ ⟨hi,ht,hz⟩;simp only at hi ht hz;rcases Ak i l.length with hil|hil
 ·rw[z5u hil] at hz
  by_cases htm:t<=m
  ·have hm:=ih _ (Bo hil) (hch _ (Bo hil)) (m-t) (by omega)
   rw[Ae htm] at hz;have hcl:=z5t (nth l i) (m-t);have hmt:(m:Int)-(t:Int)=((m-t:Nat):Int):=by omega
   obtain⟨k',s',b',r',w',l',he⟩:∃k' s' b' r' w' l',nth l i=.mk k' s' b' r' w' l':=by cases nth l i;exact⟨_,_,_,_,_,_,rfl⟩
   generalize cntR (nth l i) (m-t)=c at *;generalize hmte:m-t=mt at *;have hrm:=Ck k' s' b' r' w' l';have ps':=Be s';have pr':AF (r'.map (AV.int .i32))=true:=AB .i32 _;have pw':AF (w'.map (AV.int .i32))=true:=AB .i32 _;have pl':=BO l';rw[he,hrm] at hm;refine W_T ?_;(with_reducible repeat'(first|simp (disch:=omega) only[push_cast,↓zz,seval,ps,pr,pw,pl,ps',pr',pw',pl',he,hrm,hmt]|apply Aa|refine sp_ ?_ ?_<;>intro hc<;>push_cast at hc|refine ee hm ?_|(refine cc hm ?_;(simp(disch:=omega)only[push_cast,↓zz,seval,ps,pr,pw,pl,ps',pr',pw',pl',he,hrm,hmt]);(fail_if_success change False))|omega|intro _))
   all_goals
    refine⟨(i+1,t+c),?_⟩;(with_reducible repeat'(first|simp (disch:=omega) only[push_cast,↓zz,seval,ps,pr,pw,pl]|apply Aa|refine sp_ ?_ ?_<;>intro hc<;>push_cast at hc|omega|intro _))
   all_goals first|exact hz|omega|trace_state
  ·rw[Ac htm] at hz
   subst hz;refine W_T ?_;(with_reducible repeat'(first|simp (disch:=omega) only[push_cast,↓zz,seval,ps,pr,pw,pl]|apply Aa|refine sp_ ?_ ?_<;>intro hc<;>push_cast at hc|omega|intro _))
   all_goals first|(exfalso;omega)|trace_state
 ·obtain rfl:i=l.length:=by omega
  rw[List.drop_length,cntL] at hz;subst hz;refine W_T ?_;(with_reducible repeat'(first|simp (disch:=omega) only[push_cast,↓zz,seval,ps,pr,pw,pl]|apply Aa|refine sp_ ?_ ?_<;>intro hc<;>push_cast at hc|omega|intro _))
  all_goals first|(exfalso;omega)|trace_state
theorem zm2(n:Rec):∀m,cntR n m<=m->cntN n=cntR n m:=by
 refine Rec.ind (P:=λn=>∀m,cntR n m<=m->cntN n=cntR n m) ?_ n;intro k s b r w l ih m h
 have key:∀(l:List Rec),(∀n∈l,∀m,cntR n m<=m->cntN n=cntR n m)->∀t,cntL l m t<=m->cntL l m t=t+cntA l:=by
  intro l
  induction l with
  |nil=>intro _ t _;rw[cntL,cntA,Nat.add_zero]
  |cons n l ihl =>
   intro h t ht;have h0:t<=m:=AT (RZ (n::l) m t) ht;rw[cntL,Ae h0] at ht ⊢;have h1:=RZ l m (t+cntR n (m-t));have h2:=h n (by simp) (m-t) (by omega);rw[ihl (λn hn=>h n (by simp[hn])) _ ht,cntA,h2,Bl]
 rw[cntR] at h ⊢;have h0:=RZ l m (1+min r.length m+min w.length m+min s.length m);rw[key l ih _ h,cntN];omega
theorem XZ:∀{l:List Rec}{n:Rec},n∈l->cntN n<=cntA l
 |a::l,n,h=>by
  rw[cntA];rcases Af.1 h with rfl|h
  ·omega
  ·have:=XZ h;omega
theorem zbn(n:Rec):1<=cntN n:=by
 obtain⟨k,s,b,r,w,l⟩:=n;rw[cntN];omega
theorem Ya:∀l:List Rec,l.length<=cntA l
 |[]=>Ad _
 |a::l=>by
  have:=zbn a;have:=Ya l;rw[cntA,List.length_cons];omega
theorem U1(n:Rec):IW n->cntN n<=1000000->E0 n:=by
 refine Rec.ind (P:=λn=>IW n->cntN n<=1000000->E0 n) ?_ n;intro k s b r w l ih hok h;rw[cntN] at h;cases hok with
 |mk _ hs hr hw hl hch =>
 have:=Ya l;exact .mk (by omega) ⟨by omega,hr.2⟩ ⟨by omega,hw.2⟩ (by omega) λn hn=>ih n hn (hch n hn) (by have:=XZ hn;omega)
def EU(n:Rec):Bool:=decide (cntR n 300<=300)
theorem Dh{n:Rec}(h:EU n=true):cntN n<=300:=by
 have h1:cntR n 300<=300:=of_decide_eq_true h;rw[zm2 n 300 h1];exact h1
theorem Ch{n:Rec}(hok:IW n)(h:EU n=true):E0 n:=U1 n hok (by have:=Dh h;omega)
theorem Ib(n:Rec)(hok:IW n):PC Tryz.prog 15 [recV n] (.bool (EU n)):=by
 have hC:=z5v n hok 300 (by omega);have e:EU n=decide ((cntR n 300:Int)<=300):=BH.2 (by omega);rw[e];have hc:=z5t n 300;generalize cntR n 300=c at *;obtain⟨k,s,b,r,w,l⟩:=n;have ps:=Be s;have pr:AF (r.map (AV.int .i32))=true:=AB .i32 _;have pw:AF (w.map (AV.int .i32))=true:=AB .i32 _;have pl:=BO l;rw[Ck] at *;refine Cg Re ?_;unfold K5;(with_reducible repeat'(first|simp (disch:=omega) only[push_cast,↓zz,seval,ps,pr,pw,pl]|apply Aa|refine sp_ ?_ ?_<;>intro hc<;>push_cast at hc|refine ee hC ?_|(refine cc hC ?_;(simp(disch:=omega)only[push_cast,↓zz,seval,ps,pr,pw,pl]);(fail_if_success change False))|omega|intro _))
 all_goals trace_state
set_option maxRecDepth 100000
theorem U2{P:Program}{f:Nat}{xs:List AV}{l l':List Grp}{K:AV->A3->Prop}(i g w v n:Nat){ex:Bool}{X:List AV}(hw:0<w)(hlt:g<l.length)(hg:l.getD g default=⟨w,v,ex,X⟩)(pX:AF X=true)(hn:X.length=n)(hx:xs[i]? = some (.ref g v 0 n))(hl':Er 0 [g] l=l')
 (h:@MN P f (xs.set i (.lst w X)) (Abs.hl l') ⟨K⟩):@MN P f xs (Abs.hl l) ⟨K⟩:=by
 subst hl' hn
 have hat:((Abs.hl l).only [g]).at_ g=⟨w,v,ex,X⟩:=by
  show (if g∈[g] then _ else _)=_;rw[Ae (by simp),Dn,hg]
 have hpz:=FH ((Abs.hl l).only [g]) 0 pX
 have f1:CI 1 ((Abs.hl l).only [g]) (.ref g v 0 X.length):=by
  simp only[CI];rw[hat];simp only[B3,A6];exact⟨trivial,hw,by omega,hpz.1⟩
 have f2:frzV 1 ((Abs.hl l).only [g]) (.ref g v 0 X.length)=.lst w X:=by
  simp only[frzV];rw[hat];simp[frzV]
 have h:B6 P f (xs.set i (.lst w X)) (Abs.hl (Er 0 [g] l)) K:=h
 have hk:B6 P f (xs.set i (.lst w X)) ((Abs.hl l).kill [g]) K:=B6.congr (H':=Abs.hl (Er 0 [g] l)) (by simp[Abs.hl,A3.kill,Gh]) (λj hj=>by
  show (Er 0 [g] l).getD j default=if j∈[g] then (l.getD j default).dead else l.getD j default
  rw[Ih 0 [g] l j hj,Bb]) h
 refine⟨hk.1,λS cargs hS hx'=>(hk.2 (S.kill (Abs.hl l) [g]) cargs (Ky [g] hS) ?_).mono λe w' hh=>?_⟩
 ·have h1:AG (S.kill (Abs.hl l) [g]) xs cargs:=AG.mono (G4 [g] hS) _ hx'
  have hil:i<cargs.length:=by rw[hx'.length];exact (AN.1 hx).1
  have h2:VRel (S.kill (Abs.hl l) [g]) (.lst w X) cargs[i]:=by
   obtain⟨u,hu,h3⟩:=hx'.get hx;have hu2:cargs[i]=u:=Cp ((Al hil).symm.trans hu);rw[hu2];have:=Kz [g] hS 1 f1 h3
   rwa [f2] at this
  have h3:=AG.set (i:=i) h1 h2
  rwa [List.set_getElem_self] at h3
 ·obtain⟨v,S',x,H',rfl,rfl,ev,hS',hv,hK⟩:=hh
  exact⟨v,S',x,H',rfl,rfl,(G4 [g] hS).trans ev,hS',hv,hK⟩
theorem zm3(st:MSt)(a c:Nat)(s:List Span)(out:List Term):(addR st a c s out).1=st.1/\(addR st a c s out).2.length=st.2.length+1:=by simp[addR]
theorem zm4(st:MSt):(newS st).1=st.1+1/\(newS st).2=st.2:=⟨rfl,rfl⟩
theorem Sa:∀(n:Nat)(w:List Int)(f:Nat)(st:MSt),(wrR n w f st).1.1<=st.1+n/\(wrR n w f st).1.2.length<=st.2.length+n
 |0,w,f,st=>by simp[wrR]
 |n+1,w,f,st=>by
  rw[wrR];split
  ·simp only;omega
  ·have:=Sa n (w.drop 64) st.1 (addR (newS st) f st.1 [] ((w.take 64).map Fu))
   have h2:=zm3 (newS st) f st.1 [] ((w.take 64).map Fu);have h3:=zm4 st;rw[h3.2] at h2;omega
theorem Yb:∀(r:List Int)(f:Nat)(st:MSt),(rdR r f st).1.1<=st.1+r.length/\(rdR r f st).1.2.length<=st.2.length+r.length
 |[],f,st=>by simp[rdR]
 |x::r,f,st=>by
  rw[rdR];split
  ·simp only[List.length_cons];omega
  ·have:=Yb r st.1 (addR (newS st) f st.1 [⟨x,x⟩] [])
   have h2:=zm3 (newS st) f st.1 [⟨x,x⟩] [];have h3:=zm4 st;rw[h3.2] at h2;simp only[List.length_cons];omega
def zbo(n:Rec):Prop:=∀f st,(mkM n f st).1.1+1<=st.1+4 * cntN n/\(mkM n f st).1.2.length+2<=st.2.length+6 * cntN n
theorem Lk:∀(l:List Rec),(∀n∈l,zbo n)->∀f st,(catR l f st).1.1<=st.1+4 * cntA l/\(catR l f st).1.2.length<=st.2.length+6 * cntA l
 |[],_,f,st=>by simp[catR,cntA]
 |n::l,h,f,st=>by
  have h1:=h n (by simp) f st;have h2:=Lk l (λm hm=>h m (by simp[hm])) (mkM n f st).2 (mkM n f st).1;rw[catR,cntA];omega
theorem U3:∀(l:List Rec),(∀n∈l,zbo n)->∀f t st,(altR l f t st).1<=st.1+4 * cntA l/\(altR l f t st).2.length<=st.2.length+6 * cntA l
 |[],_,f,t,st=>by simp[altR,cntA]
 |n::l,h,f,t,st=>by
  have h1:=h n (by simp) st.1 (addR (newS st) f st.1 [] []);have h2:=U3 l (λm hm=>h m (by simp[hm])) f t (addR (mkM n st.1 (addR (newS st) f st.1 [] [])).1 (mkM n st.1 (addR (newS st) f st.1 [] [])).2 t [] []);rw[altR,cntA];simp only[addR,newS,Ah,List.length_singleton] at h1 h2 ⊢;omega
theorem Ns(n:Rec):zbo n:=by
 refine Rec.ind (P:=zbo) ?_ n;intro k s b r w l ih f st;have hc:cntN (.mk k s b r w l)=1+r.length+w.length+s.length+cntA l:=by rw[cntN]
 rw[hc,mkM];split
 ·simp only;omega
 split
 ·simp only[addR,newS,Ah,List.length_singleton];omega
 split
 ·simp only[addR,newS,Ah,List.length_singleton];omega
 split
 ·have h1:=Sa w.length w f st
  have h2:=Yb r (wrR w.length w f st).2 (wrR w.length w f st).1;omega
 split
 ·have h1:=U3 l ih f st.1 (newS st)
  simp only[newS] at h1 ⊢;omega
 split
 ·have h1:=Lk l ih (st.1+1) (addR (newS (addR (newS st) f st.1 [] [])) st.1 (st.1+1) [] [])
  simp only[addR,newS,Ah,List.length_singleton] at h1 ⊢;omega
 ·have h1:=Lk l ih f st
  omega
def wrS(w:List Int):Sem:=λa e u=>e=a/\u=w
def symS(x:List Int)(c:Int):Sem:=λa e u=>a<x.length/\nth x a=c/\e=a+1/\u=[]
def rdS(x:List Int):List Int->Sem
 |[]=>idS
 |c::r=>seqS (symS x c) (rdS x r)
mutual
def semR(x:List Int):Rec->Sem
 |.mk k s b r w l=>if k=1 then z4o x ⟨0,0,[s],1,[cpyT b]⟩ else if k=2 then z4o x ⟨0,0,[s],1,[]⟩ else if k=3 then seqS (wrS w) (rdS x r)
  else if k=5 then semA x l else if k=6 then Star (semC x l) else semC x l
def semC(x:List Int):List Rec->Sem
 |[]=>idS
 |n::l=>seqS (semR x n) (semC x l)
def semA(x:List Int):List Rec->Sem
 |[]=>noS
 |n::l=>orS (semR x n) (semA x l)
end
def wrP:Nat->List Int->Nat->Nat->Pie
 |0,_,f,S=>([],S,f)
 |n+1,w,f,S=>if w.length=0 then ([],S,f) else (CU f S [] ((w.take 64).map Fu)::(wrP n (w.drop 64) S (S+1)).1,(wrP n (w.drop 64) S (S+1)).2)
def rdP:List Int->Nat->Nat->Pie
 |[],f,S=>([],S,f)
 |c::r,f,S=>(CU f S [⟨c,c⟩] []::(rdP r S (S+1)).1,(rdP r S (S+1)).2)
def zhw(f S:Nat)(p:Pie):Pie:=([CU f S [] [],CU S (S+1:Nat) [] []]++p.1++[CU p.2.2 S [] [],CU S p.2.1 [] []],p.2.1+1,p.2.1)
def seqP(p q:Pie):Pie:=(p.1++q.1,q.2.1,q.2.2)
mutual
def mkP:Rec->Nat->Nat->Pie
 |.mk k s b r w l,f,S=>if k=1 then ([CU f S s [cpyT b]],S+1,S) else if k=2 then ([CU f S s []],S+1,S)
  else if k=3 then seqP (wrP w.length w f S) (rdP r (wrP w.length w f S).2.2 (wrP w.length w f S).2.1)
  else if k=5 then ((altP l f S (S+1)).1,(altP l f S (S+1)).2,S)
  else if k=6 then zhw f S (catP l (S+1) (S+2)) else catP l f S
def catP:List Rec->Nat->Nat->Pie
 |[],f,S=>([],S,f)
 |n::l,f,S=>seqP (mkP n f S) (catP l (mkP n f S).2.2 (mkP n f S).2.1)
def altP:List Rec->Nat->Nat->Nat->List Rule × Nat
 |[],_,_,S=>([],S)
 |n::l,f,t,S=>(CU f S [] []::(mkP n S (S+1)).1++CU (mkP n S (S+1)).2.2 t [] []::(altP l f t (mkP n S (S+1)).2.1).1,(altP l f t (mkP n S (S+1)).2.1).2)
end
section
variable {x:List Int}{f S:Nat}
theorem J5{s s':Sem}{nl:Bool}{p:Pie}(h:∀a e u,a<=x.length->(s a e u↔s' a e u))(hg:Good x s nl f S p):Good x s' nl f S p:=by
 refine⟨hg.mono,hg.to_,hg.same,hg.dom,λD hD a w ha=>?_,hg.cyc,λa e u hs ha=>hg.semd a e u ((h a e u ha).2 hs) ha⟩;rw[hg.rel D hD a w ha];constructor
 ·rintro⟨e,u,v,k1,k2⟩;exact⟨e,u,v,(h a e u ha).1 k1,k2⟩
 ·rintro⟨e,u,v,k1,k2⟩;exact⟨e,u,v,(h a e u ha).2 k1,k2⟩
theorem Sb{s:Sem}{n n':Bool}{p:Pie}(e:n=n')(h:Good x s n f S p):Good x s n' f S p:=e ▸ h
theorem Q8(a c:Nat):EpsR (CU a c [] []) a c:=⟨rfl,rfl,rfl,rfl,rfl⟩
theorem zbp(c:Int)(h:0<=c/\c<=1114111):valB ⟨0,0,21,0⟩ c=true/\valP ⟨0,0,21,0⟩ c=c:=by
 constructor
 ·show (FX ⟨0,0,21,0⟩&&decide (0<=c/\c<=2097151))=true
  rw[show FX ⟨0,0,21,0⟩=true from rfl,AJ (by omega)];rfl
 ·show c / 1 % 2097152 * 1=c
  omega
theorem z5w{c:Int}(h:0<=c/\c<=1114111):IntKind.i32.wrap ((ER (Fu c) []).getD 0)=c:=by
 obtain⟨h1,h2⟩:=zbp c h
 have:ER (Fu c) []=some c:=by
  have e:ER (Fu c) []=if valB ⟨0,0,21,0⟩ c&&decide (c<=1114111) then some (IntKind.i64.wrap (0+valP ⟨0,0,21,0⟩ c)) else none:=rfl
  rw[e,h1,h2,AJ (by omega),Bool.and_self,Ae rfl,Int.zero_add,IntWalk.i64_in _ (by omega)]
 rw[this];exact IntWalk.i32_in c (by omega)
theorem ZG{w:List Int}(h:∀c∈w,0<=c/\c<=1114111)(a:Nat):Gd x (w.map Fu) [] a=w:=by
 show List.map _ (w.map Fu)=w;rw[CF];refine (AW λc hc=>?_).trans (Gf w);exact z5w (h c hc)
theorem z5x:∀(n:Nat)(w:List Int)(f S:Nat),w.length<=n->(∀c∈w,0<=c/\c<=1114111)->f<S->Good x (wrS w) true f S (wrP n w f S)
 |0,w,f,S,hn,hw,hf=>by
  obtain rfl:w=[]:=Aw (by omega);exact Nn hf
 |n+1,w,f,S,hn,hw,hf=>by
  rw[wrP];split
  ·rename_i h0
   obtain rfl:w=[]:=Aw h0;exact Nn hf
  ·have h1:=Le (x:=x) (f:=f) (S:=S) (CU f S [] ((w.take 64).map Fu)) hf rfl rfl (Ad _) (λh=>by cases h)
   have h2:=z5x n (w.drop 64) S (S+1) (by rw[List.length_drop];omega) (λc hc=>hw c (BD hc)) (Nat.lt_succ_self _);refine J5 (λa e u ha=>?_) (No hf h1 h2);have hh:=ZG (x:=x) (w:=w.take 64) (λc hc=>hw c (By hc)) a;constructor
   ·rintro⟨e1,u1,u2,⟨_,k2,k3⟩,⟨k4,k5⟩,rfl⟩
    have k3:u1=Gd x ((w.take 64).map Fu) [] a:=k3;have k2:e1=a:=k2;subst k2 k4;rw[k3,hh,k5];exact⟨rfl,Ci 64 w⟩
   ·rintro⟨rfl,rfl⟩
    refine⟨e,u.take 64,u.drop 64,⟨?_,rfl,hh.symm⟩,⟨rfl,rfl⟩,(Ci 64 u).symm⟩;show goB x [] e=true;simp[goB,ha]
theorem zhx{c:Int}(hc:-1073741824<=c/\c<=1073741824)(a e:Nat)(u:List Int):z4o x (CU f S [⟨c,c⟩] []) a e u↔symS x c a e u:=by
 have hr:CU (f:Nat) S [⟨c,c⟩] []=⟨f,S,[[⟨c,c⟩]],1,[]⟩:=rfl;rw[hr,z4o,symS];simp only[goB,List.length_singleton,Ab,Ai,List.range_one,List.all_cons,List.all_nil,DO,Nat.add_zero]
 have hh:hasI (nth [[(⟨c,c⟩:Span)]] 0) (nth x a)=true↔nth x a=c:=by
  show hasI [⟨c,c⟩] (nth x a)=true↔_;simp only[hasI,List.any_cons,List.any_nil,DR,Ab,Ai];omega
 rw[hh];constructor
 ·rintro⟨⟨h1,h2⟩,h3,h4⟩;exact⟨by omega,h2,h3,h4⟩
 ·rintro⟨h1,h2,h3,h4⟩;exact⟨⟨by omega,h2⟩,h3,h4⟩
theorem z5y:∀(r:List Int)(f S:Nat),(∀c∈r,0<=c/\c<=1114111)->f<S->Good x (rdS x r) (decide (r.length=0)) f S (rdP r f S)
 |[],f,S,hw,hf=>Nn hf
 |c::r,f,S,hw,hf=>by
  have h1:=Le (x:=x) (f:=f) (S:=S) (CU f S [⟨c,c⟩] []) hf rfl rfl (Ad _) (λh=>Ad _);have h1:=J5 (s':=symS x c) (λa e u _=>zhx (by have:=hw c (by simp);omega) a e u) h1;have h2:=z5y r S (S+1) (λc hc=>hw c (by simp[hc])) (Nat.lt_succ_self _);exact Sb (by rw[show Df (CU (f:Nat) S [⟨c,c⟩] [])=false from rfl,Bm,List.length_cons];simp) (No hf h1 h2)
end
theorem U4{c:Int}(h:E8 2 c=true):0<=c/\c<=1114111:=by
 simp only[E8,Ai] at h;omega
theorem Ll{i:Int}{s:List Span}(h:ET i s=true):0<s.length:=by
 simp only[ET,Ab,AQ,Ba] at h;omega
section
variable {x:List Int}
theorem Good.lt{s:Sem}{nl:Bool}{f S:Nat}{p:Pie}(h:Good x s nl f S p)(hf:f<S):p.2.2<p.2.1:=by
 have h1:=h.mono;rcases h.to_ with h2|h2
 ·omega
 ·exact h2.2
def zbq(x:List Int)(n:Rec):Prop:=∀f S,f<S->Good x (semR x n) (GH n) f S (mkP n f S)
theorem Sc:∀(l:List Rec),(∀n∈l,zbq x n)->∀f S,f<S->Good x (semC x l) (Fg l) f S (catP l f S)
 |[],_,f,S,hf=>Nn hf
 |n::l,h,f,S,hf=>by
  have h1:=h n (by simp) f S hf;rw[semC,Fg,catP];exact No hf h1 (Sc l (λm hm=>h m (by simp[hm])) _ _ (h1.lt hf))
theorem U5:∀(l:List Rec),(∀n∈l,zbq x n)->∀f t S,f<t->t<S->AltG x (semA x l) (Gz l) f t S (altP l f t S).1 (altP l f t S).2
 |[],_,f,t,S,_,_=>by rw[altP];exact zhd
 |n::l,h,f,t,S,hf,ht=>by
  have h1:=h n (by simp) S (S+1) (Nat.lt_succ_self _);have hm:=h1.mono;rw[semA,Gz,altP];exact zam _ _ hf ht h1 (Q8 _ _) (Q8 _ _) (U5 l (λm hm=>h m (by simp[hm])) f t _ hf (by omega))
theorem Km:∀{l:List Rec}{d:Int},okL l d=true->∀n∈l,okR n d=true
 |a::l,d,h,n,hn=>by
  rw[okL,Ab] at h;rcases Af.1 hn with rfl|hn
  ·exact h.1
  ·exact Km h.2 n hn
theorem Lm(a c:Nat){s:List Span}(h:0<s.length)(out:List Term):CU a c s out=⟨a,c,[s],1,out⟩:=Ae h
theorem zhy(n:Rec):∀d,okR n d=true->zbq x n:=by
 refine Rec.ind (P:=λn=>∀d,okR n d=true->zbq x n) ?_ n;intro k s b r w l ih d h f S hf;rw[okR,Ab] at h;obtain⟨_,h⟩:=h;rw[mkP,semR,GH];by_cases h1:k=1
 ·subst h1
  simp only[Int.reduceEq,↓reduceIte,or_self,Ar,BW,BX,B8,Br,BB,Ab,AQ] at h ⊢;have hs:=Ll h.2.1;rw[Lm _ _ hs];exact J5 (λa e u _=>FP) (Sb rfl (Le (x:=x) ⟨f,S,[s],1,[cpyT b]⟩ hf rfl rfl (Ad _) (λ_=>Ad _)))
 by_cases h2:k=2
 ·subst h2
  simp only[Int.reduceEq,↓reduceIte,or_self,Ar,BW,BX,B8,Br,BB,Ab,AQ] at h ⊢;have hs:=Ll h;rw[Lm _ _ hs];exact J5 (λa e u _=>FP) (Sb rfl (Le (x:=x) ⟨f,S,[s],1,[]⟩ hf rfl rfl (Ad _) (λ_=>Ad _)))
 by_cases h3:k=3
 ·subst h3
  simp only[Int.reduceEq,↓reduceIte,or_self,Ar,BW,BX,B8,Br,BB,Ab,AQ] at h ⊢;rw[AU,AU] at h;have g1:=z5x (x:=x) w.length w f S (Ad _) (λc hc=>U4 (h.2 c hc)) hf;have g2:=z5y (x:=x) r _ _ (λc hc=>U4 (h.1 c hc)) (g1.lt hf);exact Sb (by rw[AR]) (No hf g1 g2)
 by_cases h5:k=5
 ·subst h5
  simp only[Int.reduceEq,↓reduceIte,or_self,Ar,BW,BX,B8,Br,BB,Ab,AQ] at h ⊢;exact zan hf (U5 l (λn hn=>ih n hn _ (Km h n hn)) f S (S+1) hf (Nat.lt_succ_self _))
 by_cases h6:k=6
 ·subst h6
  simp only[Int.reduceEq,↓reduceIte,or_self,Ar,BW,BX,B8,Br,BB,Ab,AQ] at h ⊢;have hc:=Sc l (λn hn=>ih n hn _ (Km h.1 n hn)) (S+1) (S+2) (Nat.lt_succ_self _);rw[h.2] at hc;exact z4p _ _ _ _ hf hc (Q8 _ _) (Q8 _ _) (Q8 _ _) (Q8 _ _)
 by_cases h4:k=4
 ·subst h4
  simp only[Int.reduceEq,↓reduceIte,or_self,Ar,BW,BX,B8,Br,BB,Ab,AQ] at h ⊢;exact Sc l (λn hn=>ih n hn _ (Km h n hn)) f S hf
 ·rw[Ac h1,Ac h2,Ac h3,Ac (by omega),Ac h6] at h
  cases h
end
def ExtS(st st':MSt):Prop:=st.1<=st'.1/\st.2.length<=st'.2.length
theorem ExtS.trans{a b c:MSt}(h:ExtS a b)(k:ExtS b c):ExtS a c:=⟨AT h.1 k.1,AT h.2 k.2⟩
theorem ExtS.refl(a:MSt):ExtS a a:=⟨Ad _,Ad _⟩
theorem I1(st:MSt)(a c:Nat)(s:List Span)(out:List Term):ExtS st (addR (newS st) a c s out):=by simp[ExtS,addR,newS]
theorem Nt(st:MSt)(a c:Nat)(s:List Span)(out:List Term):ExtS st (addR st a c s out):=by simp[ExtS,addR]
theorem ExtS.full{a b:MSt}(h:ExtS a b)(hb:G0 b=false):G0 a=false:=by
 simp only[G0,GD,Bool.or_eq_false_iff,Ba] at hb ⊢;obtain⟨h1,h2⟩:=h;omega
theorem z5z:∀(n:Nat)(w:List Int)(f:Nat)(st:MSt),ExtS st (wrR n w f st).1
 |0,w,f,st=>.refl _
 |n+1,w,f,st=>by
  rw[wrR];split
  ·exact .refl _
  ·exact (I1 st f st.1 [] _).trans (z5z n _ _ _)
theorem Yc:∀(r:List Int)(f:Nat)(st:MSt),ExtS st (rdR r f st).1
 |[],f,st=>.refl _
 |x::r,f,st=>by
  rw[rdR];split
  ·exact .refl _
  ·exact (I1 st f st.1 [⟨x,x⟩] []).trans (Yc r _ _)
theorem Sd:∀(l:List Rec),(∀n∈l,∀f st,ExtS st (mkM n f st).1)->∀f st,ExtS st (catR l f st).1
 |[],_,f,st=>by rw[catR];exact .refl _
 |n::l,h,f,st=>by
  rw[catR];exact (h n (by simp) f st).trans (Sd l (λm hm=>h m (by simp[hm])) _ _)
theorem Wc:∀(l:List Rec),(∀n∈l,∀f st,ExtS st (mkM n f st).1)->∀f t st,ExtS st (altR l f t st)
 |[],_,f,t,st=>by rw[altR];exact .refl _
 |n::l,h,f,t,st=>by
  rw[altR];exact (((I1 st f st.1 [] []).trans (h n (by simp) _ _)).trans (Nt _ _ _ _ _)).trans (Wc l (λm hm=>h m (by simp[hm])) _ _ _)
theorem z60(n:Rec):∀f st,ExtS st (mkM n f st).1:=by
 refine Rec.ind (P:=λn=>∀f st,ExtS st (mkM n f st).1) ?_ n;intro k s b r w l ih f st;rw[mkM];split
 ·exact .refl _
 split
 ·exact I1 _ _ _ _ _
 split
 ·exact I1 _ _ _ _ _
 split
 ·exact (z5z _ _ _ _).trans (Yc _ _ _)
 split
 ·exact ExtS.trans (show ExtS st (newS st) from ⟨Dx _,Ad _⟩) (Wc l ih _ _ _)
 split
 ·exact ((((I1 st _ _ _ _).trans (I1 _ _ _ _ _)).trans (Sd l ih _ _)).trans (Nt _ _ _ _ _)).trans (I1 _ _ _ _ _)
 ·exact Sd l ih _ _
def isP(st:MSt)(p:Pie)(q:MSt × Nat):Prop:=q=((p.2.1,st.2++p.1),p.2.2)
theorem z61:∀(n:Nat)(w:List Int)(f:Nat)(st:MSt),G0 (wrR n w f st).1=false->isP st (wrP n w f st.1) (wrR n w f st)
 |0,w,f,st,_=>by simp[isP,wrR,wrP]
 |n+1,w,f,st,h=>by
  have hs:=(z5z (n+1) w f st).full h;rw[wrR] at h ⊢;rw[wrP];by_cases h0:w.length=0
  ·rw[Ae h0,Ae (Or.inl h0)];simp[isP]
  ·have hn:¬(w.length=0\/G0 st=true):=by
    rintro (h1|h1)
    ·exact h0 h1
    ·rw[hs] at h1;cases h1
   rw[Ac hn] at h;rw[Ac h0,Ac hn];have:=z61 n _ _ _ h;rw[isP] at this ⊢;rw[this];simp[addR,newS]
theorem z62:∀(r:List Int)(f:Nat)(st:MSt),G0 (rdR r f st).1=false->isP st (rdP r f st.1) (rdR r f st)
 |[],f,st,_=>by simp[isP,rdR,rdP]
 |x::r,f,st,h=>by
  have hs:=(Yc (x::r) f st).full h;rw[rdR,Ac (by rw[hs];simp)] at h ⊢;rw[rdP];have:=z62 r _ _ h;rw[isP] at this ⊢;rw[this];simp[addR,newS]
def zbr(n:Rec):Prop:=∀f st,G0 (mkM n f st).1=false->isP st (mkP n f st.1) (mkM n f st)
theorem Se:∀(l:List Rec),(∀n∈l,zbr n)->∀f st,G0 (catR l f st).1=false->isP st (catP l f st.1) (catR l f st)
 |[],_,f,st,_=>by simp[isP,catR,catP]
 |n::l,h,f,st,hf=>by
  rw[catR] at hf ⊢;have h1:=h n (by simp) f st ((Sd l (λm _=>z60 m) _ _).full hf);have h2:=Se l (λm hm=>h m (by simp[hm])) _ _ hf;rw[isP] at h1 h2 ⊢;rw[catP,h2,h1];simp[seqP]
theorem Yd:∀(l:List Rec),(∀n∈l,zbr n)->∀f t st,G0 (altR l f t st)=false->altR l f t st=((altP l f t st.1).2,st.2++(altP l f t st.1).1)
 |[],_,f,t,st,_=>by simp[altR,altP]
 |n::l,h,f,t,st,hf=>by
  rw[altR] at hf ⊢;have h1:=h n (by simp) st.1 (addR (newS st) f st.1 [] []) (((Nt _ _ _ _ _).trans (Wc l (λm _=>z60 m) _ _ _)).full hf);have h2:=Yd l (λm hm=>h m (by simp[hm])) _ _ _ hf;rw[isP] at h1;rw[altP,h2,h1];simp[addR,newS]
theorem zhz(n:Rec):zbr n:=by
 refine Rec.ind (P:=zbr) ?_ n;intro k s b r w l ih f st h;have hs:=(z60 (.mk k s b r w l) f st).full h;rw[mkM,Ac (by rw[hs];simp)] at h ⊢;rw[mkP];by_cases h1:k=1
 ·rw[Ae h1,Ae h1];simp[isP,addR,newS]
 by_cases h2:k=2
 ·rw[Ac h1,Ae h2,Ac h1,Ae h2];simp[isP,addR,newS]
 rw[Ac h1,Ac h2] at h ⊢;rw[Ac h1,Ac h2];by_cases h3:k=3
 ·rw[Ae h3] at h ⊢
  rw[Ae h3];have k1:=z61 w.length w f st ((Yc _ _ _).full h);have k2:=z62 r _ _ h;rw[isP] at k1 k2 ⊢;rw[k2,k1];simp[seqP]
 rw[Ac h3] at h ⊢;rw[Ac h3];by_cases h5:k=5
 ·rw[Ae h5] at h ⊢
  rw[Ae h5];have k1:=Yd l ih f st.1 (newS st) h;rw[isP];simp only;rw[k1];rfl
 rw[Ac h5] at h ⊢;rw[Ac h5];by_cases h6:k=6
 ·rw[Ae h6] at h ⊢
  rw[Ae h6];have k1:=Se l ih (st.1+1) (addR (newS (addR (newS st) f st.1 [] [])) st.1 (st.1+1) [] []) (((Nt _ _ _ _ _).trans (I1 _ _ _ _ _)).full h);rw[isP] at k1 ⊢;simp only;rw[k1];simp[addR,newS,zhw]
 ·rw[Ac h6] at h ⊢
  rw[Ac h6];exact Se l ih f st h
set_option maxRecDepth 100000
structure CSt where
 i:Nat
 f:Nat
 S:Nat
 R:List Rule
 v:Nat
def Q9(n:Rec):Prop:=∀(f S:Nat)(R:List Rule)(v:Nat),S+8 * cntN n<=300000->R.length+8 * cntN n<=300000 ->
 B6 Tryz.prog 47 [.ptr 0 1 0 0,recV n,.int .i64 f] (Abs.hl (mkH S R v)) λy H'=>y=.int .i64 ((mkM n f (S,R)).2:Nat)/\∃v',H'=Abs.hl (mkH (mkM n f (S,R)).1.1 (mkM n f (S,R)).1.2 v')
theorem z63(r:List Int)(s:List Span)(b:Int)(w:List Int)(l:List Rec)(f S:Nat)(R:List Rule)(v:Nat)(hf:E0 (.mk 3 s b r w l))(hS:S+8 * cntN (.mk 3 s b r w l)<=300000)(hR:R.length+8 * cntN (.mk 3 s b r w l)<=300000):
 B6 Tryz.prog 47 [.ptr 0 1 0 0,recV (.mk 3 s b r w l),.int .i64 f] (Abs.hl (mkH S R v)) λy H'=>y=.int .i64 ((mkM (.mk 3 s b r w l) f (S,R)).2:Nat)/\∃v',H'=Abs.hl (mkH (mkM (.mk 3 s b r w l) f (S,R)).1.1 (mkM (.mk 3 s b r w l) f (S,R)).1.2 v'):=by
 cases hf with
 |mk hs hr hw hl hch =>
 rw[cntN] at hS hR;have ps:=Be s;have pr:AF (r.map (AV.int .i32))=true:=AB .i32 _;have pw:AF (w.map (AV.int .i32))=true:=AB .i32 _;have pl:=BO l;have hFu:=Fl S R v
 have e0:mkM (.mk 3 s b r w l) f (S,R)=if GD S R=true then ((S,R),f) else rdR r (wrR w.length w f (S,R)).2 (wrR w.length w f (S,R)).1:=by
  rw[mkM,Ac (show ¬(3:Int)=1 by decide),Ac (show ¬(3:Int)=2 by decide),Ae rfl];rfl
 rw[Ck,e0];clear e0;refine DT (GI Dq (W_T ?_));unfold CP;cases hfu:GD S R with
 |true =>
  rw[hfu] at hFu;rw[Ae rfl];unfold mkH at hFu ⊢;(with_reducible repeat'(first|simp (disch:=omega) only[push_cast,↓zz,seval,ps,pr,pw,pl]|apply Aa|refine sp_ ?_ ?_<;>intro hc<;>push_cast at hc|omega|intro _))
  (refine Cj [0,1] (hFu) (by decide) (by simp) (by (simp(disch:=omega)only[push_cast,↓zz,seval,ps,pr,pw,pl])) (by (simp(disch:=omega)only[push_cast,↓zz,seval,ps,pr,pw,pl])) (by (simp(disch:=omega)only[push_cast,↓zz,seval,ps,pr,pw,pl])) (by (simp(disch:=omega)only[push_cast,↓zz,seval,Af,Aj,Ar,Ax,AO,Au,ps,pr,pw,pl])) ?_)
  rintro y H' ⟨rfl,rfl⟩;refine⟨_,rfl,by simp,?_⟩;(with_reducible repeat'(first|simp (disch:=omega) only[push_cast,↓zz,seval,ps,pr,pw,pl]|apply Aa|refine sp_ ?_ ?_<;>intro hc<;>push_cast at hc|omega|intro _));exact⟨_,_,Hs (l0:=mkH S R v) (gar:=[_]) rfl (Ad _) HX trivial,rfl,v,rfl⟩
 |false =>
  rw[hfu] at hFu;rw[Ac (by simp)];have hWr:=Um w f S R v (by omega) hw.2 (by omega) (by omega);have hgr:=Sa w.length w f (S,R);simp only at hgr;generalize hT:wrR w.length w f (S,R)=T at *;obtain⟨⟨S1,R1⟩,f1⟩:=T;generalize hT2:rdR r f1 (S1,R1)=T2 at *;simp only at hWr hgr hT2 ⊢;obtain⟨⟨S2,R2⟩,f2⟩:=T2;unfold mkH at hFu hWr ⊢;(with_reducible repeat'(first|simp (disch:=omega) only[push_cast,↓zz,seval,ps,pr,pw,pl]|apply Aa|refine sp_ ?_ ?_<;>intro hc<;>push_cast at hc|omega|intro _))
  (refine Cj [0,1] (hFu) (by decide) (by simp) (by (simp(disch:=omega)only[push_cast,↓zz,seval,ps,pr,pw,pl])) (by (simp(disch:=omega)only[push_cast,↓zz,seval,ps,pr,pw,pl])) (by (simp(disch:=omega)only[push_cast,↓zz,seval,ps,pr,pw,pl])) (by (simp(disch:=omega)only[push_cast,↓zz,seval,Af,Aj,Ar,Ax,AO,Au,ps,pr,pw,pl])) ?_)
  rintro y H' ⟨rfl,rfl⟩;refine⟨_,rfl,by simp,?_⟩;(with_reducible repeat'(first|simp (disch:=omega) only[push_cast,↓zz,seval,ps,pr,pw,pl]|apply Aa|refine sp_ ?_ ?_<;>intro hc<;>push_cast at hc|omega|intro _))
  (refine Cj [0,1] (hWr) (by decide) (by simp) (by (simp(disch:=omega)only[push_cast,↓zz,seval,ps,pr,pw,pl])) (by (simp(disch:=omega)only[push_cast,↓zz,seval,ps,pr,pw,pl])) (by (simp(disch:=omega)only[push_cast,↓zz,seval,ps,pr,pw,pl])) (by (simp(disch:=omega)only[push_cast,↓zz,seval,Af,Aj,Ar,Ax,AO,Au,ps,pr,pw,pl])) ?_)
  rintro y H' ⟨rfl,v1,rfl⟩;refine⟨_,rfl,by simp,?_⟩;(with_reducible repeat'(first|simp (disch:=omega) only[push_cast,↓zz,seval,ps,pr,pw,pl]|apply Aa|refine sp_ ?_ ?_<;>intro hc<;>push_cast at hc|omega|intro _))
  refine Bs (B5 (λ(q:CSt)=>q.i<=r.length/\rdR (r.drop q.i) q.f (q.S,q.R)=((S2,R2),f2)/\q.S+(r.length-q.i)<=300000/\q.R.length+(r.length-q.i)<=300000) (λq=>r.length-q.i)
   (λq=>[(0,.ptr 0 1 0 0),(2,.int .i64 q.f),(57,AD r),(58,.int .i64 r.length),(59,.int .i64 q.i)]) (λq=>mkH q.S q.R q.v) (λ_ _=>[]) ⟨0,f1,S1,R1,v1⟩ ⟨A4 _,hT2,by simp only;omega,by simp only;omega⟩ ?_ ?_)
  ·unfold mkH
   (with_reducible repeat'(first|simp (disch:=omega) only[push_cast,↓zz,seval,ps,pr,pw,pl]|apply Aa|refine sp_ ?_ ?_<;>intro hc<;>push_cast at hc|omega|intro _))
  rintro⟨i,f',S',R',v'⟩ ⟨hi,hk,hb1,hb2⟩;simp only at hi hk hb1 hb2 ⊢;rcases Ak i r.length with hir|hir
  ·rw[drop_at hir,rdR] at hk
   have hFu2:=Fl S' R' v';have hx:=hr.2 _ (Bo hir);cases hfu2:GD S' R' with
   |true =>
    rw[Ae (show G0 (S',R')=true from hfu2)] at hk;obtain⟨⟨rfl,rfl⟩,rfl⟩:(S'=S2/\R'=R2)/\f'=f2:=by simpa using hk
    rw[hfu2] at hFu2;generalize nth r i=x at *;unfold mkH at hFu2 ⊢;refine W_T ?_;(with_reducible repeat'(first|simp (disch:=omega) only[push_cast,↓zz,seval,ps,pr,pw,pl]|apply Aa|refine sp_ ?_ ?_<;>intro hc<;>push_cast at hc|omega|intro _))
    (refine Cj [0,1] (hFu2) (by decide) (by simp) (by (simp(disch:=omega)only[push_cast,↓zz,seval,ps,pr,pw,pl])) (by (simp(disch:=omega)only[push_cast,↓zz,seval,ps,pr,pw,pl])) (by (simp(disch:=omega)only[push_cast,↓zz,seval,ps,pr,pw,pl])) (by (simp(disch:=omega)only[push_cast,↓zz,seval,Af,Aj,Ar,Ax,AO,Au,ps,pr,pw,pl])) ?_)
    rintro y H' ⟨rfl,rfl⟩;refine⟨_,rfl,by simp,?_⟩;(with_reducible repeat'(first|simp (disch:=omega) only[push_cast,↓zz,seval,ps,pr,pw,pl]|apply Aa|refine sp_ ?_ ?_<;>intro hc<;>push_cast at hc|omega|intro _));exact⟨_,_,Ent.refl,rfl,v',rfl⟩
   |false =>
    rw[Ac (by rw[show G0 (S',R')=GD S' R' from rfl,hfu2];simp)] at hk;rw[hfu2] at hFu2;have hSt:=E9 S' R' v' (by omega);have hRu:=OT (S'+1) R' v' f' S' [⟨nth r i,nth r i⟩] (by simp) (by omega);have w64:IntKind.i64.wrap (nth r i)=nth r i:=IntWalk.i64_in _ (by omega);generalize hxe:nth r i=x at *;unfold mkH at hFu2 hSt hRu ⊢;refine W_T ?_;(with_reducible repeat'(first|simp (disch:=omega) only[push_cast,↓zz,seval,ps,pr,pw,pl,hxe]|apply Aa|refine sp_ ?_ ?_<;>intro hc<;>push_cast at hc|omega|intro _))
    (refine Cj [0,1] (hFu2) (by decide) (by simp) (by (simp(disch:=omega)only[push_cast,↓zz,seval,ps,pr,pw,pl])) (by (simp(disch:=omega)only[push_cast,↓zz,seval,ps,pr,pw,pl])) (by (simp(disch:=omega)only[push_cast,↓zz,seval,ps,pr,pw,pl])) (by (simp(disch:=omega)only[push_cast,↓zz,seval,Af,Aj,Ar,Ax,AO,Au,ps,pr,pw,pl])) ?_)
    rintro y H' ⟨rfl,rfl⟩;refine⟨_,rfl,by simp,?_⟩;(with_reducible repeat'(first|simp (disch:=omega) only[push_cast,↓zz,seval,ps,pr,pw,pl]|apply Aa|refine sp_ ?_ ?_<;>intro hc<;>push_cast at hc|omega|intro _))
    (refine Cj [0,1] (hSt) (by decide) (by simp) (by (simp(disch:=omega)only[push_cast,↓zz,seval,ps,pr,pw,pl])) (by (simp(disch:=omega)only[push_cast,↓zz,seval,ps,pr,pw,pl])) (by (simp(disch:=omega)only[push_cast,↓zz,seval,ps,pr,pw,pl])) (by (simp(disch:=omega)only[push_cast,↓zz,seval,Af,Aj,Ar,Ax,AO,Au,ps,pr,pw,pl])) ?_)
    rintro y H' ⟨rfl,rfl⟩;refine⟨_,rfl,by simp,?_⟩;(with_reducible repeat'(first|simp (disch:=omega) only[push_cast,↓zz,seval,ps,pr,pw,pl,w64,hxe]|apply Aa|refine sp_ ?_ ?_<;>intro hc<;>push_cast at hc|omega|intro _));refine U2 (l':=[⟨6,1,true,[.agg [.int .i64 2,.int .i64 2,.int .i64 ((S':Int)+1),.int .i64 0,.ref 1 v' 0 R'.length,.nilS]]⟩,⟨5,v',false,R'.map HD⟩,⟨0,2,false,[]⟩]) 3 2 2 1 1 (by decide) (by simp) rfl (by simp[AF,AV.pure]) rfl rfl rfl ?_
    (refine Cj [0,1] (hRu) (by decide) (by simp) (by (simp(disch:=omega)only[push_cast,↓zz,seval,ps,pr,pw,pl,FK,Js,List.set_cons_succ,List.set_cons_zero])) (by (simp(disch:=omega)only[push_cast,↓zz,seval,ps,pr,pw,pl,FK,Js,List.set_cons_succ,List.set_cons_zero])) (by (simp(disch:=omega)only[push_cast,↓zz,seval,ps,pr,pw,pl,FK,Js,List.set_cons_succ,List.set_cons_zero])) (by (simp(disch:=omega)only[push_cast,↓zz,seval,Af,Aj,Ar,Ax,AO,Au,ps,pr,pw,pl,FK,Js,List.set_cons_succ,List.set_cons_zero])) ?_)
    rintro y H' ⟨rfl,v2,rfl⟩;refine⟨_,rfl,by simp,?_⟩;(with_reducible repeat'(first|simp (disch:=omega) only[push_cast,↓zz,seval,ps,pr,pw,pl]|apply Aa|refine sp_ ?_ ?_<;>intro hc<;>push_cast at hc|omega|intro _))
    all_goals
     refine⟨⟨i+1,S',S'+1,R'++[CU f' S' [⟨x,x⟩] []],v2⟩,?_⟩;(with_reducible repeat'(first|simp (disch:=omega) only[push_cast,↓zz,seval,ps,pr,pw,pl]|apply Aa|refine sp_ ?_ ?_<;>intro hc<;>push_cast at hc|omega|intro _))
    all_goals first|exact hk|(simp;omega)|trace_state
  ·obtain rfl:i=r.length:=by omega
   rw[List.drop_length,rdR] at hk;obtain⟨⟨rfl,rfl⟩,rfl⟩:(S'=S2/\R'=R2)/\f'=f2:=by simpa using hk
   unfold mkH;refine W_T ?_;(with_reducible repeat'(first|simp (disch:=omega) only[push_cast,↓zz,seval,ps,pr,pw,pl]|apply Aa|refine sp_ ?_ ?_<;>intro hc<;>push_cast at hc|omega|intro _));exact⟨_,_,Ent.refl,rfl,v',rfl⟩
end Go.Proofs.YtflibbceibjddaaGreat
