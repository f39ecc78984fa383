/-
  Parts of the proof that the law holds whatever the input; without conditions.
-/
import Derived.Shelf.SlSortCmp.Whole1
import Derived.Shelf.Small.Bits
import Derived.Ground.SlsfProg
import Derived.Ground.NamesProg
import Derived.Test.YtflibbceibjddaaGreatProg
import Derived.Test.YtflibbceibjddaaGreatND6
import Derived.Test.YtflibbceibjddaaGreatND5
import Derived.Test.YtflibbceibjddaaGreatND4
set_option linter.unusedSimpArgs false
set_option linter.unusedVariables false
set_option linter.unusedSectionVars false
set_option maxRecDepth 100000
namespace Go.Proofs.YtflibbceibjddaaGreat
open Abs O1 O2 O3
def Ie{β:Type}[Inhabited β](fr:β->Int)(l:List β)(k:Nat)(s:Nat):List Nat:=(List.range k).filter λi=>decide (fr (nth l i)=(s:Int))
section
variable {β:Type}[Inhabited β]{fr:β->Int}{l:List β}
theorem Ot(k s:Nat):(Ie fr l k s).length<=k:=by
 have:=BL (λi=>decide (fr (nth l i)=(s:Int))) (List.range k);simpa [Ie] using this
theorem PS{k i:Nat}(hi:fr (nth l k)=i):Ie fr l (k+1)=setD (Ie fr l k) i (Ie fr l k i++[k]):=by
 funext s;simp only[Ie,FF,C6,Cb,List.filter_nil,hi,Ai,setD];by_cases e:s=i
 ·subst e;simp
 ·rw[Ac (by omega),Ac e];simp
end
def fiI(l:List Hq)(s:Nat):List Nat:=Ie (·.from_) l l.length s
theorem z9q(l:List Rule):Ie (·.from_) l l.length=ruI l:=rfl
def bgL(d:Desc)(x:List Int)(R F:AV)(n:Nat)(T1 T2:Grp):List Grp:=[⟨1,1,true,[.ptr 1 1 0 0]⟩,⟨11,1,true,[rnB d x R F .nilS .nilS]⟩,T1,T2,⟨6,1,true,[E8 d]⟩]
def bgR(d:Desc)(x:List Int)(n k:Nat)(V:Nat->Nat):List Grp:=bgL d x (.ref 2 1 0 n) (.ref 3 1 0 n) n ⟨1,1,true,fT 5 n V (Ie (·.from_) d.rules k)⟩ ⟨1,1,true,List.replicate n .nilS⟩++fF 1 e1 n V (Ie (·.from_) d.rules k)
def bgF(d:Desc)(x:List Int)(n k:Nat)(V:Nat->Nat):List Grp:=bgL d x (ruV d.rules n) (.ref 3 1 0 n) n ⟨0,2,false,[]⟩ ⟨1,1,true,fT 5 n V (Ie (·.from_) d.finals k)⟩++fF 1 e1 n V (Ie (·.from_) d.finals k)
theorem Vi(d:Desc)(x:List Int)(n k:Nat)(V:Nat->Nat):(bgR d x n k V).length=n+5:=by simp[bgR,bgL,PM]
theorem Vj(d:Desc)(x:List Int)(n k:Nat)(V:Nat->Nat):(bgF d x n k V).length=n+5:=by simp[bgF,bgL,PM]
theorem HA{d:Desc}{x:List Int}{R F:AV}{n m:Nat}{T1 T2:Grp}(hm:5<=m)(hR:ltV m R)(hF:ltV m F)(h1:ltL m T1.xs)(h2:ltL m T2.xs):∀G∈bgL d x R F n T1 T2,ltL m G.xs:=λG hG=>by
 have q1:ltV m (F4 d.rules):=Ct _ _ (Ca _);have q2:ltV m (Gh d.finals):=Ct _ _ (Cn _);have q3:ltV m (AH x):=Ct _ _ (AG .i32 _);simp only[bgL,Af,Aj,Ar] at hG;rcases hG with rfl|rfl|rfl|rfl|rfl
 ·exact⟨(show 1<m by omega),trivial⟩
 ·exact⟨⟨trivial,trivial,trivial,trivial,q1,q2,q3,hR,hF,trivial,trivial,trivial⟩,trivial⟩
 ·exact h1
 ·exact h2
 ·exact CM _ _ (by simp[AD,H8])
theorem YM(d:Desc)(x:List Int)(n k:Nat)(V:Nat->Nat):∀G∈bgR d x n k V,ltL (bgR d x n k V).length G.xs:=λG hG=>by
 rw[Vi];rcases Am.1 hG with hG|hG
 ·have a1:ltV (n+5) (.ref 2 1 0 n):=show 2<n+5 by omega
  have a2:ltV (n+5) (.ref 3 1 0 n):=show 3<n+5 by omega
  exact HA (by omega) a1 a2 (zbo (by omega)) (CM _ _ (IF n)) G hG
 ·exact zbp (λ_=>rfl) G hG
theorem YN(d:Desc)(x:List Int)(n k:Nat)(V:Nat->Nat):∀G∈bgF d x n k V,ltL (bgF d x n k V).length G.xs:=λG hG=>by
 rw[Vj];rcases Am.1 hG with hG|hG
 ·have a1:ltV (n+5) (ruV d.rules n):=Ct _ _ (show AD _=true from FN λ_=>rfl)
  have a2:ltV (n+5) (.ref 3 1 0 n):=show 3<n+5 by omega
  exact HA (T1:=⟨0,2,false,[]⟩) (by omega) a1 a2 trivial (zbo (by omega)) G hG
 ·exact zbp (λ_=>rfl) G hG
theorem Xf{d:Desc}{x:List Int}{R F:AV}{n:Nat}{T1 T2:Grp}{Fm:List Grp}(hF:Fm.length=n)(t:Nat)(ht:t=2\/t=3):Ez 0 (fKs t 5 n) (bgL d x R F n T1 T2++Fm)=bgL d x R F n (if t=2 then T1.dead else T1) (if t=3 then T2.dead else T2)++Fm.map Grp.dead:=by
 have m0:(0:Nat)∉fKs t 5 n:=JL (by omega) (by omega);have m1:(1:Nat)∉fKs t 5 n:=JL (by omega) (by omega);have m4:(4:Nat)∉fKs t 5 n:=JL (by omega) (by omega)
 have hK:Ez 5 (fKs t 5 n) Fm=Fm.map Grp.dead:=z3h λj hj=>by
  rw[Cd];exact z3f (by omega)
 rw[Tw];have e5:0+(bgL d x R F n T1 T2).length=5:=rfl;rw[e5,hK,bgL,FA,FA,FA,FA,FA,IT,Ac m0,Ac m1,Ac m4];rcases ht with rfl|rfl
 ·rw[Ae (show (0+1+1:Nat)∈fKs 2 5 n by simp[fKs]),Ac (show (0+1+1+1:Nat)∉fKs 2 5 n from JL (by omega) (by omega))]
  rfl
 ·rw[Ac (show (0+1+1:Nat)∉fKs 3 5 n from JL (by omega) (by omega)),Ae (show (0+1+1+1:Nat)∈fKs 3 5 n by simp[fKs])]
  rfl
theorem YO{m b:Nat}{env:Env}(d:Desc)(x:List Int)(n:Nat)(V:Nat->Nat):Ent m b env (Abs.hl (bgR d x n d.rules.length V)) env (Abs.hl (bgL d x (ruV d.rules n) (.ref 3 1 0 n) n ⟨0,2,false,[]⟩ ⟨1,1,true,List.replicate n .nilS⟩++(fF 1 e1 n V (ruI d.rules)).map Grp.dead)):=by
 have h1:(Abs.hl (bgR d x n d.rules.length V)).at_ 2=⟨1,1,true,fT 5 n V (ruI d.rules)⟩:=rfl
 have h2:∀i,i<n->(Abs.hl (bgR d x n d.rules.length V)).at_ (i+5)=gG 1 e1 (V i) (ruI d.rules i):=λi hi=>by
  rw[bgR,De,bgL];simp only[List.cons_append,List.nil_append,D8];exact z99 hi
 obtain⟨f1,f2⟩:=z3g (w:=1) (e:=e1) (by decide) (λ_=>rfl) h1 h2;refine KE (g:=1) (w:=11) (v:=1) (d:=2) (ex:=true) (xs:=[rnB d x (.ref 2 1 0 n) (.ref 3 1 0 n) .nilS .nilS]) (ys:=[rnB d x (ruV d.rules n) (.ref 3 1 0 n) .nilS .nilS]) (fKs 2 5 n) (by decide) (by rw[Vi];omega) rfl (JL (by decide) (by omega)) ?_ ?_
 ·refine⟨_,[],rfl,.inr ⟨_,_,rfl,rfl,?_⟩,rfl⟩
  refine⟨_,_,rfl,.inl rfl,_,_,rfl,.inl rfl,_,_,rfl,.inl rfl,_,_,rfl,.inl rfl,_,_,rfl,.inl rfl,_,_,rfl,.inl rfl,_,_,rfl,.inl rfl,_,_,rfl,.inr ⟨f1,f2.symm⟩,_,_,rfl,.inl rfl,_,_,rfl,.inl rfl,_,_,rfl,.inl rfl,rfl⟩
 ·rw[bgR,Xf PM 2 (.inl rfl),z9q]
  rfl
theorem YP{m b:Nat}{env:Env}(d:Desc)(x:List Int)(n:Nat)(V:Nat->Nat):Ent m b env (Abs.hl (bgF d x n d.finals.length V)) env (Abs.hl (bgL d x (ruV d.rules n) (.lst 1 (fD 1 e1 n (fiI d.finals))) n ⟨0,2,false,[]⟩ ⟨0,2,false,[]⟩++(fF 1 e1 n V (fiI d.finals)).map Grp.dead)):=by
 have h1:(Abs.hl (bgF d x n d.finals.length V)).at_ 3=⟨1,1,true,fT 5 n V (fiI d.finals)⟩:=rfl
 have h2:∀i,i<n->(Abs.hl (bgF d x n d.finals.length V)).at_ (i+5)=gG 1 e1 (V i) (fiI d.finals i):=λi hi=>by
  rw[bgF,De,bgL];simp only[List.cons_append,List.nil_append,D8];exact z99 hi
 obtain⟨f1,f2⟩:=z3g (w:=1) (e:=e1) (by decide) (λ_=>rfl) h1 h2;refine KE (g:=1) (w:=11) (v:=1) (d:=2) (ex:=true) (xs:=[rnB d x (ruV d.rules n) (.ref 3 1 0 n) .nilS .nilS]) (ys:=[rnB d x (ruV d.rules n) (.lst 1 (fD 1 e1 n (fiI d.finals))) .nilS .nilS]) (fKs 3 5 n) (by decide) (by rw[Vj];omega) rfl (JL (by decide) (by omega)) ?_ ?_
 ·refine⟨_,[],rfl,.inr ⟨_,_,rfl,rfl,?_⟩,rfl⟩
  refine⟨_,_,rfl,.inl rfl,_,_,rfl,.inl rfl,_,_,rfl,.inl rfl,_,_,rfl,.inl rfl,_,_,rfl,.inl rfl,_,_,rfl,.inl rfl,_,_,rfl,.inl rfl,_,_,rfl,.inl rfl,_,_,rfl,.inr ⟨f1,f2.symm⟩,_,_,rfl,.inl rfl,_,_,rfl,.inl rfl,rfl⟩
 ·rw[bgF,Xf PM 3 (.inr rfl)]
  rfl
theorem zbs(d:Desc)(x:List Int)(n k:Nat)(V:Nat->Nat):bgR d x n k V=⟨1,1,true,[.ptr 1 1 0 0]⟩::⟨11,1,true,[rnB d x (.ref 2 1 0 n) (.ref 3 1 0 n) .nilS .nilS]⟩::⟨1,1,true,fT 5 n V (Ie (·.from_) d.rules k)⟩::⟨1,1,true,List.replicate n .nilS⟩::⟨6,1,true,[E8 d]⟩::fF 1 e1 n V (Ie (·.from_) d.rules k):=rfl
theorem zbt(d:Desc)(x:List Int)(n k:Nat)(V:Nat->Nat):bgF d x n k V=⟨1,1,true,[.ptr 1 1 0 0]⟩::⟨11,1,true,[rnB d x (ruV d.rules n) (.ref 3 1 0 n) .nilS .nilS]⟩::⟨0,2,false,[]⟩::⟨1,1,true,fT 5 n V (Ie (·.from_) d.finals k)⟩::⟨6,1,true,[E8 d]⟩::fF 1 e1 n V (Ie (·.from_) d.finals k):=rfl
def fiV(l:List Hq)(n:Nat):AV:=.lst 1 (fD 1 e1 n (fiI l))
theorem zkh(n:Nat):List.replicate n (AV.bool false)=spB n λ_=>false:=by
 refine Cj (by simp[spB]) λi h1 h2=>?_;simp[spB]
theorem z9r{H:Az}{g v:Nat}{l:List Nat}(h:H.at_ g=gG 1 e1 v l):CE 2 (H.only [g]) (.ref g v 0 l.length)/\frzV 2 (H.only [g]) (.ref g v 0 l.length)=.lst 1 (l.map e1):=by
 have hat:(H.only [g]).at_ g=gG 1 e1 v l:=by
  show (if g∈[g] then H.at_ g else (H.at_ g).dead)=_;rw[Ae (by simp),h]
 have htl:(((gG 1 e1 v l).xs.drop 0).take l.length)=l.map e1:=by
  rw[Bz];exact Ay (by simp[gG])
 have hp:AD (l.map e1)=true:=Et (λ_=>rfl) _;constructor
 ·refine⟨by rw[hat];rfl,by rw[hat];exact Nat.one_pos,by rw[hat];simp[gG],?_⟩
  rw[hat,htl];exact (F9 _ 1 hp).1
 ·show AV.lst _ _=_
  rw[hat,htl];congr 1;exact (F9 _ 1 hp).2
def bgS(d:Desc)(x:List Int)(n v:Nat)(dn:Nat->Bool)(ord:List Nat):List Grp:=srtL d x n (fiV d.finals n) v dn ord++[⟨1,1,true,[.ptr 0 1 0 0]⟩,⟨6,1,true,[E8 d]⟩]
theorem YQ(d:Desc)(x:List Int)(n v:Nat)(dn:Nat->Bool)(ord:List Nat):∀G∈bgS d x n v dn ord,ltL 5 G.xs:=λG hG=>by
 rcases Am.1 hG with hG|hG
 ·have h1:ltV 5 (F4 d.rules):=Ct _ _ (Ca _)
  have h2:ltV 5 (Gh d.finals):=Ct _ _ (Cn _);have h3:ltV 5 (AH x):=Ct _ _ (AG .i32 _);have h4:ltV 5 (ruV d.rules n):=Ct _ _ (FN λ_=>rfl);have h5:ltV 5 (fiV d.finals n):=Ct _ _ (FN λ_=>rfl);simp only[srtL,Af,Aj,Ar] at hG;rcases hG with rfl|rfl|rfl
  ·exact⟨⟨trivial,trivial,trivial,trivial,h1,h2,h3,h4,h5,(show 2<5 by omega),trivial,trivial⟩,trivial⟩
  ·exact CM _ _ (BU.2 λy hy=>by obtain⟨i,_,rfl⟩:=Au.1 hy;rfl)
  ·exact CM _ _ (Et (λ_=>rfl) _)
 ·simp only[Af,Aj,Ar] at hG
  rcases hG with rfl|rfl
  ·exact⟨(show 0<5 by omega),trivial⟩
  ·exact CM _ _ (by simp[AD,H8])
theorem YR{m b:Nat}{env:Env}(d:Desc)(x:List Int)(n v:Nat)(dn:Nat->Bool)(ord:List Nat):Ent m b env (Abs.hl (bgS d x n v dn ord)) env (Abs.hl [⟨11,1,true,[rnB d x (ruV d.rules n) (fiV d.finals n) (.lst 1 (ord.map e1)) .nilS]⟩,⟨1,1,true,spB n dn⟩,(gG 1 e1 v ord).dead,⟨1,1,true,[.ptr 0 1 0 0]⟩,⟨6,1,true,[E8 d]⟩]):=by
 have h1:(Abs.hl (bgS d x n v dn ord)).at_ 2=gG 1 e1 v ord:=rfl;obtain⟨f1,f2⟩:=z9r h1;refine KE (g:=0) (w:=11) (v:=1) (d:=2) (ex:=true) (xs:=[rnB d x (ruV d.rules n) (fiV d.finals n) (.ref 2 v 0 ord.length) .nilS]) (ys:=[rnB d x (ruV d.rules n) (fiV d.finals n) (.lst 1 (ord.map e1)) .nilS]) [2] (by decide) (by simp[bgS,srtL]) rfl (by decide) ?_ rfl;refine⟨_,[],rfl,.inr ⟨_,_,rfl,rfl,?_⟩,rfl⟩;exact⟨_,_,rfl,.inl rfl,_,_,rfl,.inl rfl,_,_,rfl,.inl rfl,_,_,rfl,.inl rfl,_,_,rfl,.inl rfl,_,_,rfl,.inl rfl,_,_,rfl,.inl rfl,_,_,rfl,.inl rfl,_,_,rfl,.inl rfl,_,_,rfl,.inr ⟨f1,f2.symm⟩,_,_,rfl,.inl rfl,rfl⟩
theorem z9s{y:AV}{l:List Grp}(d:Nat)(ks:List Nat)(hok:CE d ((Abs.hl l).only ks) y){z:AV}(hz:frzV d ((Abs.hl l).only ks) y=z)(hp:z.pure=true):Ent 1 0 (λ_=>y) (Abs.hl l) (λ_=>z) (Abs.hl []):=by
 refine (Uq 0 d ks hok).trans ((Oa (H':=Abs.hl ([]++Ez 0 ks l)) ?_ ?_).trans ((Np (A6 _) (λG hG=>by cases hG) λi hi=>?_).trans (Sq trivial λi hi=>?_)))
 ·simp[Abs.hl,Az.kill,FW]
 ·intro g hg
  show (Ez 0 ks l).getD g default=if g∈ks then (l.getD g default).dead else l.getD g default
  rw[HL 0 ks l g hg,AW]
 ·obtain rfl:i=0:=by omega
  show ltV 0 (if (0:Nat)=0 then frzV d ((Abs.hl l).only ks) y else y);rw[Ae rfl,hz];exact Ct _ _ hp
 ·obtain rfl:i=0:=by omega
  show leS [] (if (0:Nat)=0 then frzV d ((Abs.hl l).only ks) y else y) z;rw[Ae rfl,hz];exact EC _ _
def bgV(d:Desc)(x:List Int)(n m:Nat)(ord:List Nat)(at_:Nat)(L:Nat->Nat->Bool):List Grp:=[⟨11,1,true,[rnB d x (ruV d.rules n) (fiV d.finals n) (.lst 1 (ord.map e1)) (.ref 3 1 0 m)]⟩,⟨1,1,true,[.ptr 0 1 0 0]⟩,⟨6,1,true,[E8 d]⟩,⟨1,1,true,lvB n m L⟩,⟨1,1,true,[.int .i64 at_]⟩]
theorem z3u(d:Desc)(x:List Int){n:Nat}(hdn:d.states=n)(hn:n<=1024)(hrl:d.rules.length<=4096)(hfl:d.finals.length<=4096)(hs:0<=d.start/\d.start<n)(hgo:Goes d n)(hcy:¬cycP d.rules n)(hlf:∀r∈d.finals,0<=r.from_/\r.from_<n)(hxl:x.length<=1024)(h32:∀v∈x,-2147483648<=v/\v<=2147483647)
 (hgb:∀r∈d.rules,(r.guards.length<=1000000/\∀g∈r.guards,g.length<=1000000)/\0<=r.eat/\r.eat<=1000000) :
 B2 Tryz.prog 60 [E8 d,AH x] (Abs.hl []) λy H'=>H'=Abs.hl []/\∃ord L,y=DW d x (ruV d.rules n) (fiV d.finals n) (.lst 1 (ord.map e1)) (.lst 1 (lvB n ((x.length+1) * n) L))/\Topo d.rules n ord/\LivE d x n L:=by
 have pR:=Ca d.rules;have pFi:=Cn d.finals;have pX:AD (x.map (AV.int .i32))=true:=AG .i32 _;have pN:=IF n;have hl:∀r∈d.rules,0<=r.from_/\r.from_<n:=λr hr=>(hgo.r r hr).1;have hl2:∀r∈d.rules,(0<=r.from_/\r.from_<n)/\0<=r.to_/\r.to_<n:=λr hr=>⟨(hgo.r r hr).1,(hgo.r r hr).2.1⟩;refine DJ (G3 Uu (W_T ?_));unfold Nv;(with_reducible repeat'(first|simp (disch:=omega) only[push_cast,↓zz,seval,pR,pFi,hdn]|apply Aa|refine sp_ ?_ ?_<;>intro hc<;>push_cast at hc|omega|intro _));refine zf4 [1,2,3,4] [1,1,11,1] [none,none,none,none,some 1,none,none,some 2,none,some 3,some 4] (by simp) (by decide) ?_;(with_reducible repeat'(first|simp (disch:=omega) only[push_cast,↓zz,seval,yy,Af,Aj,Ar,B7,Dd,B8,BW,BV,pR,pFi,pX,hdn]|apply Aa|refine sp_ ?_ ?_<;>intro hc<;>push_cast at hc|omega|intro _))
 refine Bw (OZ (srcs:=[.grp 4,.grp 3,.grp 1,.grp 2,.grp 0]) (live:=[(1,AH x),(2,.ptr 4 1 0 0),(5,.ptr 0 1 0 0),(29,F4 d.rules),(30,.int .i64 d.rules.length),(31,.int .i64 0)])
  (heap:=bgL d x (.ref 2 1 0 n) (.ref 3 1 0 n) n ⟨1,1,true,List.replicate n .nilS⟩ ⟨1,1,true,List.replicate n .nilS⟩) ?_ (Mt (z3e (α:=Nat) (w:=1) (e:=e1) (n:=n) (t:=2) (by decide) (by simp[bgL]) rfl) ?_))
 ·unfold bgL rnB
  (with_reducible repeat'(first|simp (disch:=omega) only[push_cast,↓zz,seval,pR,pFi,pX,hdn,pN]|apply Aa|refine sp_ ?_ ?_<;>intro hc<;>push_cast at hc|omega|intro _))
 refine J8 (λ(q:Nat × (Nat->Nat))=>q.1<=d.rules.length) (λq=>d.rules.length-q.1)
  (λq=>E0 [(1,AH x),(2,.ptr 4 1 0 0),(5,.ptr 0 1 0 0),(29,F4 d.rules),(30,.int .i64 d.rules.length),(31,.int .i64 q.1)]) (λq=>Abs.hl (bgR d x n q.1 q.2)) (0,λ_=>1) (by simp) Ent.refl ?_
 rintro⟨k,V⟩ hk;simp only at hk ⊢;rcases Ak k d.rules.length with hkl|hkl
 ·have hr:=hl _ (Bo hkl)
  have hsu:=λi=>PS (fr:=λ(r:Rule)=>r.from_) (l:=d.rules) (k:=k) (i:=i);generalize hre:nth d.rules k=r at *;have hgr:=Cc r.guards;have hot:=CI r.out;obtain⟨i,hi⟩:∃i:Nat,r.from_=i:=⟨r.from_.toNat,by omega⟩;have hin:i<n:=by omega
  obtain⟨D,hD⟩:∃D,D=Ie (λ(r:Rule)=>r.from_) d.rules k:=⟨_,rfl⟩;have hFl:(fF 1 e1 n V D).length=n:=PM;have hTl:(fT 5 n V D).length=n:=zbk;have gI:∀G,(fF 1 e1 n V D++[G]).getD i default=gG 1 e1 (V i) (D i):=λG=>by rw[zbn hFl hin];exact z99 hin
  have gR:∀G,(fF 1 e1 n V D++[G]).getD n default=G:=λG=>by rw[MB hFl];rfl
  have sR:∀G G',setQ (fF 1 e1 n V D++[G]) n G'=some (fF 1 e1 n V D++[G']):=λG G'=>by rw[Tv _ _ hFl];rfl
  have tI:(fT 5 n V D).getD i .any=.ref (i+5) (V i) 0 (D i).length:=zkf hin;have sI:∀G G',setQ (fF 1 e1 n V D++[G]) i G'=some ((fF 1 e1 n V D).set i G'++[G]):=λG G'=>UY (by omega);have gR2:∀G G',((fF 1 e1 n V D).set i G'++[G]).getD n default=G:=λG G'=>by rw[MB (by rw[DL];exact hFl)];rfl
  have hSB:∀R G,CU 5 [i+5] (fF 1 e1 n V D++[R]) ((fF 1 e1 n V D).set i G++[R]):=λR G=>WZ (by omega) (by simp;omega);have hEx:=zfz (e:=e1) (D i);have hel:(D i).length<=k:=by rw[hD];exact Ot k i
  have eT:(fT 5 n V D).set i (.ref (i+5) (V i+1) 0 ((D i).length+1))=fT 5 n (setV V i (V i+1)) (setD D i (D i++[k])):=by
   have:=zbl (o:=5) (V:=V) (D:=D) (l:=D i++[k]) hin
   rwa [Ah] at this
  have eF:(fF 1 e1 n V D).set i ⟨1,V i+1,false,(D i).map e1++[.int .i64 k]⟩=fF 1 e1 n (setV V i (V i+1)) (setD D i (D i++[k])):=by
   have:=zbm (V:=V) (D:=D) (w:=1) (e:=e1) (l:=D i++[k]) (by simp) hin;rw[Ao] at this;exact this
  have hsu:=hsu i hi;rw[<-hD] at hsu;rw[zbs,<-hD];unfold rnB;have hni:¬n=i:=by omega
  simp only[gG] at gI;refine W_T ?_;(with_reducible repeat'(first|simp (disch:=omega) only[push_cast,↓zz,seval,xx,Af,Aj,Ar,B7,Dd,B8,BW,BV,pR,pFi,pX,hdn,hre,hi,hgr,hot,hFl,hTl,gI,gR,sR,tI,sI,gR2,hEx,hni]|apply Aa|refine sp_ ?_ ?_<;>intro hc<;>push_cast at hc|refine Hf [i+5] ?_|omega|intro _))
  ·exact hSB _ _
  refine⟨(k+1,setV V i (V i+1)),FZ (gar:=[⟨5,1,true,[.agg [.int .i64 i,.int .i64 r.to_,DT r.guards,.int .i64 r.eat,Hr r.out]]⟩]) _ ?_ (A6 _) (YM _ _ _ _ _) ?_,by simp only;omega,by simp only;omega⟩
  ·rw[zbs,hsu,<-eT,<-eF]
   unfold rnB;rw[hdn];rfl
  ·have hRv:ltV (n+5) (F4 d.rules):=Ct _ _ pR
   have hXv:ltV (n+5) (AH x):=Ct _ _ pX;rw[Vi];exact⟨rfl,hXv,rfl,(show 4<n+5 by omega),rfl,(show 0<n+5 by omega),rfl,hRv,rfl,trivial,rfl,trivial,trivial⟩
 obtain rfl:k=d.rules.length:=by omega
 have cl1:∀G∈bgL d x (ruV d.rules n) (.ref 3 1 0 n) n ⟨0,2,false,[]⟩ ⟨1,1,true,List.replicate n .nilS⟩,ltL 5 G.xs:=HA (by omega) (Ct _ _ (show AD _=true from FN λ_=>rfl)) (show 3<5 by omega) trivial (CM _ _ pN);refine Mt ((YO d x n V).trans (FZ (l0:=bgL d x (ruV d.rules n) (.ref 3 1 0 n) n ⟨0,2,false,[]⟩ ⟨1,1,true,List.replicate n .nilS⟩) [(1,AH x),(2,.ptr 4 1 0 0),(5,.ptr 0 1 0 0),(29,F4 d.rules),(30,.int .i64 d.rules.length),(31,.int .i64 d.rules.length)] rfl (A6 _) cl1 ?_)) ?_
 ·have hRv:ltV 5 (F4 d.rules):=Ct _ _ pR
  have hXv:ltV 5 (AH x):=Ct _ _ pX;exact⟨rfl,hXv,rfl,(show 4<5 by omega),rfl,(show 0<5 by omega),rfl,hRv,rfl,trivial,rfl,trivial,trivial⟩
 clear cl1 V;unfold bgL rnB;refine W_T ?_;(with_reducible repeat'(first|simp (disch:=omega) only[push_cast,↓zz,seval,pR,pFi,pX,hdn]|apply Aa|refine sp_ ?_ ?_<;>intro hc<;>push_cast at hc|omega|intro _));have cl2:∀G∈bgL d x (ruV d.rules n) (.ref 3 1 0 n) n ⟨0,2,false,[]⟩ ⟨1,1,true,List.replicate n .nilS⟩,ltL 5 G.xs:=HA (by omega) (Ct _ _ (show AD _=true from FN λ_=>rfl)) (show 3<5 by omega) trivial (CM _ _ pN);refine Bw (Mt ((FZ (l0:=bgL d x (ruV d.rules n) (.ref 3 1 0 n) n ⟨0,2,false,[]⟩ ⟨1,1,true,List.replicate n .nilS⟩) (gar:=[]) [(1,AH x),(2,.ptr 4 1 0 0),(5,.ptr 0 1 0 0),(56,Gh d.finals),(57,.int .i64 d.finals.length),(58,.int .i64 0)] ?_ (A6 _) cl2 ?_).trans (z3e (α:=Nat) (w:=1) (e:=e1) (n:=n) (t:=3) (by decide) (by simp[bgL]) rfl)) ?_)
 ·unfold bgL rnB
  rw[hdn];rfl
 ·have hFv:ltV 5 (Gh d.finals):=Ct _ _ pFi
  have hXv:ltV 5 (AH x):=Ct _ _ pX;exact⟨rfl,hXv,rfl,(show 4<5 by omega),rfl,(show 0<5 by omega),rfl,hFv,rfl,trivial,rfl,trivial,trivial⟩
 clear cl2
 refine J8 (λ(q:Nat × (Nat->Nat))=>q.1<=d.finals.length) (λq=>d.finals.length-q.1)
  (λq=>E0 [(1,AH x),(2,.ptr 4 1 0 0),(5,.ptr 0 1 0 0),(56,Gh d.finals),(57,.int .i64 d.finals.length),(58,.int .i64 q.1)]) (λq=>Abs.hl (bgF d x n q.1 q.2)) (0,λ_=>1) (by simp) Ent.refl ?_
 rintro⟨k,V⟩ hk;simp only at hk ⊢;rcases Ak k d.finals.length with hkl|hkl
 ·have hr:=hlf _ (Bo hkl)
  have hsu:=λi=>PS (fr:=λ(r:Hq)=>r.from_) (l:=d.finals) (k:=k) (i:=i);generalize hre:nth d.finals k=r at *;have hgr:=Cc r.guards;have hot:=CI r.out;obtain⟨i,hi⟩:∃i:Nat,r.from_=i:=⟨r.from_.toNat,by omega⟩;have hin:i<n:=by omega
  obtain⟨D,hD⟩:∃D,D=Ie (λ(r:Hq)=>r.from_) d.finals k:=⟨_,rfl⟩;have hFl:(fF 1 e1 n V D).length=n:=PM;have hTl:(fT 5 n V D).length=n:=zbk;have gI:∀G,(fF 1 e1 n V D++[G]).getD i default=gG 1 e1 (V i) (D i):=λG=>by rw[zbn hFl hin];exact z99 hin
  have gR:∀G,(fF 1 e1 n V D++[G]).getD n default=G:=λG=>by rw[MB hFl];rfl
  have sR:∀G G',setQ (fF 1 e1 n V D++[G]) n G'=some (fF 1 e1 n V D++[G']):=λG G'=>by rw[Tv _ _ hFl];rfl
  have tI:(fT 5 n V D).getD i .any=.ref (i+5) (V i) 0 (D i).length:=zkf hin;have sI:∀G G',setQ (fF 1 e1 n V D++[G]) i G'=some ((fF 1 e1 n V D).set i G'++[G]):=λG G'=>UY (by omega);have gR2:∀G G',((fF 1 e1 n V D).set i G'++[G]).getD n default=G:=λG G'=>by rw[MB (by rw[DL];exact hFl)];rfl
  have hSB:∀R G,CU 5 [i+5] (fF 1 e1 n V D++[R]) ((fF 1 e1 n V D).set i G++[R]):=λR G=>WZ (by omega) (by simp;omega);have hEx:=zfz (e:=e1) (D i);have hel:(D i).length<=k:=by rw[hD];exact Ot k i
  have eT:(fT 5 n V D).set i (.ref (i+5) (V i+1) 0 ((D i).length+1))=fT 5 n (setV V i (V i+1)) (setD D i (D i++[k])):=by
   have:=zbl (o:=5) (V:=V) (D:=D) (l:=D i++[k]) hin
   rwa [Ah] at this
  have eF:(fF 1 e1 n V D).set i ⟨1,V i+1,false,(D i).map e1++[.int .i64 k]⟩=fF 1 e1 n (setV V i (V i+1)) (setD D i (D i++[k])):=by
   have:=zbm (V:=V) (D:=D) (w:=1) (e:=e1) (l:=D i++[k]) (by simp) hin;rw[Ao] at this;exact this
  have hsu:=hsu i hi;rw[<-hD] at hsu;rw[zbt,<-hD];unfold rnB;have hni:¬n=i:=by omega
  simp only[gG] at gI;refine W_T ?_;(with_reducible repeat'(first|simp (disch:=omega) only[push_cast,↓zz,seval,xx,Af,Aj,Ar,B7,Dd,B8,BW,BV,pR,pFi,pX,hdn,hre,hi,hgr,hot,hFl,hTl,gI,gR,sR,tI,sI,gR2,hEx,hni]|apply Aa|refine sp_ ?_ ?_<;>intro hc<;>push_cast at hc|refine Hf [i+5] ?_|omega|intro _))
  ·exact hSB _ _
  refine⟨(k+1,setV V i (V i+1)),FZ (gar:=[⟨3,1,true,[.agg [.int .i64 i,DT r.guards,Hr r.out]]⟩]) _ ?_ (A6 _) (YN _ _ _ _ _) ?_,by simp only;omega,by simp only;omega⟩
  ·rw[zbt,hsu,<-eT,<-eF]
   unfold rnB;rw[hdn];rfl
  ·have hFv:ltV (n+5) (Gh d.finals):=Ct _ _ pFi
   have hXv:ltV (n+5) (AH x):=Ct _ _ pX;rw[Vj];exact⟨rfl,hXv,rfl,(show 4<n+5 by omega),rfl,(show 0<n+5 by omega),rfl,hFv,rfl,trivial,rfl,trivial,trivial⟩
 obtain rfl:k=d.finals.length:=by omega
 have cl1:∀G∈bgL d x (ruV d.rules n) (fiV d.finals n) n ⟨0,2,false,[]⟩ ⟨0,2,false,[]⟩,ltL 5 G.xs:=HA (by omega) (Ct _ _ (show AD _=true from FN λ_=>rfl)) (Ct _ _ (show AD _=true from FN λ_=>rfl)) trivial trivial;refine Mt ((YP d x n V).trans (FZ (l0:=bgL d x (ruV d.rules n) (fiV d.finals n) n ⟨0,2,false,[]⟩ ⟨0,2,false,[]⟩) [(1,AH x),(2,.ptr 4 1 0 0),(5,.ptr 0 1 0 0),(56,Gh d.finals),(57,.int .i64 d.finals.length),(58,.int .i64 d.finals.length)] rfl (A6 _) cl1 ?_)) ?_
 ·have hFv:ltV 5 (Gh d.finals):=Ct _ _ pFi
  have hXv:ltV 5 (AH x):=Ct _ _ pX;exact⟨rfl,hXv,rfl,(show 4<5 by omega),rfl,(show 0<5 by omega),rfl,hFv,rfl,trivial,rfl,trivial,trivial⟩
 clear cl1 V;unfold bgL rnB;have pB:∀on,AD (spB n on)=true:=λon=>BU.2 λy hy=>by obtain⟨i,_,rfl⟩:=Au.1 hy;rfl
 have pRU:AD (fD 1 e1 n (ruI d.rules))=true:=FN λ_=>rfl;have pFI:AD (fD 1 e1 n (fiI d.finals))=true:=FN λ_=>rfl;have pFIv:(fiV d.finals n).pure=true:=pFI;refine W_T ?_;(with_reducible repeat'(first|simp (disch:=omega) only[push_cast,↓zz,seval,pR,pFi,pX,hdn]|apply Aa|refine sp_ ?_ ?_<;>intro hc<;>push_cast at hc|omega|intro _))
 refine Bw (OZ (srcs:=[.grp 1,.grp 5,.virt 1,.grp 0,.grp 4]) (live:=[(1,AH x),(2,.ptr 4 1 0 0),(5,.ptr 3 1 0 0),(10,.ref 1 1 0 n),(86,.int .i64 n),(87,.int .i64 0)])
  (heap:=bgS d x n 1 (λ_=>false) []) ?_ ?_)
 ·unfold bgS srtL rnB ruV fiV gG
  (with_reducible repeat'(first|simp (disch:=omega) only[push_cast,↓zz,seval,pR,pFi,pX,hdn,pB,zkh,pRU,pFI,List.length_nil,A8]|apply Aa|refine sp_ ?_ ?_<;>intro hc<;>push_cast at hc|omega|intro _))
 refine J8 (λ(q:Nat × Nat × (Nat->Bool) × List Nat)=>q.1<=n/\Hold (PR d.rules n q.1 q.2.2.1 q.2.2.2)) (λq=>n-q.1)
  (λq=>E0 [(1,AH x),(2,.ptr 4 1 0 0),(5,.ptr 3 1 0 0),(10,.ref 1 1 0 n),(86,.int .i64 n),(87,.int .i64 q.1)]) (λq=>Abs.hl (bgS d x n q.2.1 q.2.2.1 q.2.2.2)) (0,1,(λ_=>false),[]) ⟨A6 _,⟨Ve _ _⟩⟩ Ent.refl ?_
 rintro⟨k,v,dn,ord⟩ ⟨hk,⟨hA⟩⟩;simp only at hk hA ⊢;have hXv:ltV 5 (AH x):=Ct _ _ pX;rcases Ak k n with hkn|hkn
 ·have hS:=z9g d x hn hrl hl2 hcy (fiV d.finals n) pFIv (IE dn n) k v dn ord (Ad _) hkn (YK hA)
  rw[bgS,srtL];refine W_T ?_;(with_reducible repeat'(first|simp (disch:=omega) only[push_cast,↓zz,seval]|apply Aa|refine sp_ ?_ ?_<;>intro hc<;>push_cast at hc|omega|intro _));refine z3i (l0:=srtL d x n (fiV d.finals n) v dn ord) (extra:=[⟨1,1,true,[.ptr 0 1 0 0]⟩,⟨6,1,true,[E8 d]⟩]) rfl hS ?_ (Fw d x n _ pFIv _ _ _) ?_
  ·exact⟨(show 0<3 by omega),trivial,(show 1<3 by omega),trivial⟩
  rintro y H' ⟨v2,dn2,new,rfl,rfl,hpost⟩;refine⟨_,rfl,rfl,trivial,Fw d x n _ pFIv _ _ _,?_⟩;have hA2:=Vf hA hpost;(with_reducible repeat'(first|simp (disch:=omega) only[push_cast,↓zz,seval]|apply Aa|refine sp_ ?_ ?_<;>intro hc<;>push_cast at hc|omega|intro _));refine⟨(k+1,v2,dn2,ord++new),FZ (gar:=[]) _ (AB _).symm (A6 _) (YQ d x n _ _ _) ?_,⟨by omega,⟨hA2⟩⟩,by simp only;omega⟩;exact⟨rfl,hXv,rfl,(show 4<5 by omega),rfl,(show 3<5 by omega),rfl,(show 1<5 by omega),rfl,trivial,rfl,trivial,trivial⟩
 obtain rfl:k=n:=by omega
 have hT:=Vg hA
 refine Mt (YR d x k v dn ord) (OZ (srcs:=[.grp 0,.grp 3,.grp 4]) (live:=[(1,AH x),(2,.ptr 2 1 0 0),(5,.ptr 1 1 0 0),(86,.int .i64 k),(87,.int .i64 k)])
  (heap:=[⟨11,1,true,[rnB d x (ruV d.rules k) (fiV d.finals k) (.lst 1 (ord.map e1)) .nilS]⟩,⟨1,1,true,[.ptr 0 1 0 0]⟩,⟨6,1,true,[E8 d]⟩]) ?_ ?_)
 ·have pO:AD (ord.map e1)=true:=Et (λ_=>rfl) _
  unfold rnB ruV fiV;(with_reducible repeat'(first|simp (disch:=omega) only[push_cast,↓zz,seval,pR,pFi,pX,hdn,pRU,pFI,pO]|apply Aa|refine sp_ ?_ ?_<;>intro hc<;>push_cast at hc|omega|intro _))
 have pO:AD (ord.map e1)=true:=Et (λ_=>rfl) _;have hmx:(x.length+1) * k<=1025 * 1024:=Cs (by omega) hn;obtain⟨m,hm⟩:∃m,m=(x.length+1) * k:=⟨_,rfl⟩;have hmi:((x.length:Int)+1) * (k:Int)=(m:Int):=by rw[hm];norm_cast
 rw[<-hm] at hmx;obtain⟨s0,hs0⟩:∃s0:Nat,d.start=s0:=⟨d.start.toNat,by omega⟩
 have hsm:s0<m:=by
  have:=GA (a:=0) (k:=x.length) (t:=s0) (n:=k) (by omega) (A6 _);rw[hm];omega
 have hst:(List.replicate m (AV.bool false)).set s0 (.bool true)=lvB k m (setP (λ_ _=>false) 0 s0 true):=by
  have:=z3l (n:=k) (m:=m) (a:=0) (t:=s0) (L:=λ_ _=>false) (v:=true) (by omega) (by omega);rw[EZ,AW,<-z9h] at this;exact this
 have pLv:∀L,AD (lvB k m L)=true:=λL=>MC;unfold rnB;refine W_T ?_;(with_reducible repeat'(first|simp (disch:=omega) only[push_cast,↓zz,seval,pR,pFi,pX,hdn,hmi,hs0,hst,pLv,List.length_replicate]|apply Aa|refine sp_ ?_ ?_<;>intro hc<;>push_cast at hc|omega|intro _));have hstn:d.start.toNat=s0:=by omega
 refine Bw (B5 (λ(q:Nat × (Nat->Nat->Bool))=>q.1<=x.length+1/\Hold (Liv d x k ord q.1 0 q.2)) (λq=>x.length+1-q.1)
  (λq=>[(1,AH x),(2,.ptr 2 1 0 0),(5,.ptr 1 1 0 0),(12,.ptr 4 1 0 0)]) (λq=>bgV d x k m ord q.1 q.2) (λenv _=>[.grp 0,.grp 1,.grp 2,.grp 3,Dg 1 (env 12)]) (0,setP (λ_ _=>false) 0 d.start.toNat true) ⟨A6 _,⟨z9i hs (ED hT)⟩⟩ ?_ ?_)
 ·unfold bgV rnB ruV fiV
  (with_reducible repeat'(first|simp (disch:=omega) only[push_cast,↓zz,seval,pR,pFi,pX,hdn,hs0,hstn,pLv,pRU,pFI,pO,Int.toNat_natCast]|apply Aa|refine sp_ ?_ ?_<;>intro hc<;>push_cast at hc|omega|intro _))
 rintro⟨at_,L⟩ ⟨ha,⟨hI⟩⟩;simp only at ha hI ⊢;have hol:=ED hT;rcases Ak at_ (x.length+1) with hal|hal
 ·have hB:=Oq ord (by omega)
  have hit:=z3t ord (by omega);unfold bgV rnB ruV fiV;refine W_T ?_;(with_reducible repeat'(first|simp (disch:=omega) only[push_cast,↓zz,seval,pR,pFi,pX,hdn,pLv,pRU,pFI,pO]|apply Aa|refine sp_ ?_ ?_<;>intro hc<;>push_cast at hc|refine ee hB ?_|(refine cc hB ?_;(simp(disch:=omega)only[push_cast,↓zz,seval,pR,pFi,pX,hdn,pLv,pRU,pFI,pO]);(fail_if_success change False))|omega|intro _))
  refine Qw (VP (σ:=Nat->Nat->Bool) (λj L=>Hold (Liv d x k ord at_ j L)) [(1,AH x),(2,.ptr 2 1 0 0),(5,.ptr 1 1 0 0),(12,.ptr 4 1 0 0),(122,.fn 134 [.cptr (.lst 1 (ord.map e1))])] (λL=>bgV d x k m ord at_ L)
   [.grp 0,.grp 1,.grp 2,.grp 3,.grp 4] 5 L hit ?_ (λ_=>rfl) rfl ?_ rfl rfl (YL _) (z3s _) (by simp) ⟨hI⟩ ?_ ?_)
  ·unfold bgV rnB ruV fiV
   (with_reducible repeat'(first|simp (disch:=omega) only[push_cast,↓zz,seval,pR,pFi,pX,hdn,pLv,pRU,pFI,pO]|apply Aa|refine sp_ ?_ ?_<;>intro hc<;>push_cast at hc|omega|intro _))
  ·(with_reducible repeat'(first|simp (disch:=omega) only[push_cast,↓zz,seval,pO]|apply Aa|refine sp_ ?_ ?_<;>intro hc<;>push_cast at hc|omega|intro _))
  ·rintro j row L hrow ⟨hI⟩
   obtain⟨hj,rfl⟩:=z3r hrow;clear hrow hit;have hjk:j<k:=by omega
   obtain⟨s,hse⟩:∃s,s=nth ord (k-1-j):=⟨_,rfl⟩;have hsn:s<k:=(hT.all _).1 (by rw[hse];exact Bo (by omega));rw[hol,<-hse,show e1 s=AV.int .i64 ((s:Nat):Int) from rfl];have hat:at_<=x.length:=by omega
   have hpm:=GA hsn hat;rw[<-hm] at hpm;have aL:∀L,(lvB k m L).getD (at_ * k+s) .any=.bool (L at_ s):=λL=>zbr hsn hpm;have lL:∀L,(lvB k m L).length=m:=λL=>JM;have hmul:(at_:Int) * (k:Int)=((at_ * k:Nat):Int):=by norm_cast
   have hmulb:at_ * k<=1024 * 1024:=Cs (by omega) hn
   have hset:∀L e t,at_+e<=x.length->t<k->(lvB k m L).set ((at_+e) * k+t) (.bool true)=lvB k m (setP L (at_+e) t true)/\(at_+e) * k+t<m:=λL e t he htk=>by
    have:=GA htk he;rw[<-hm] at this;exact⟨z3l htk this,this⟩
   generalize hpe:at_ * k+s=p at *;generalize at_ * k=an at *;have hpi:(an:Int)+(s:Int)=(p:Int):=by omega
   have aLv:=aL L;have aR:(fD 1 e1 k (ruI d.rules)).getD s .any=.lst 1 ((ruI d.rules s).map e1):=z9a hsn;have aR2:(fD 1 e1 k (ruI d.rules))[s]? = some (.lst 1 ((ruI d.rules s).map e1)):=WX hsn;have lRU:(fD 1 e1 k (ruI d.rules)).length=k:=WW;have pRI:AD ((ruI d.rules s).map e1)=true:=Et (λ_=>rfl) _;refine W_T ?_;(with_reducible repeat'(first|simp (disch:=omega) only[push_cast,↓zz,seval]|apply Aa|refine sp_ ?_ ?_<;>intro hc<;>push_cast at hc|omega|intro _));unfold bgV rnB ruV fiV;refine W_T ?_;cases hLs:L at_ s with
   |false =>
    rw[hLs] at aLv;(with_reducible repeat'(first|simp (disch:=omega) only[push_cast,↓zz,seval,pR,pFi,pX,hdn,pLv,lL,pRU,pFI,pO,hmul,hpi,aLv,aR,aR2,lRU,pRI]|apply Aa|refine sp_ ?_ ?_<;>intro hc<;>push_cast at hc|omega|intro _));exact⟨L,Br _ _,⟨z9l hI hT hjk hse hLs⟩⟩
   |true =>
    rw[hLs] at aLv;(with_reducible repeat'(first|simp (disch:=omega) only[push_cast,↓zz,seval,pR,pFi,pX,hdn,pLv,lL,pRU,pFI,pO,hmul,hpi,aLv,aR,aR2,lRU,pRI]|apply Aa|refine sp_ ?_ ?_<;>intro hc<;>push_cast at hc|omega|intro _))
    refine Bw (B5 (λ(q:Nat × (Nat->Nat->Bool))=>q.1<=(ruI d.rules s).length/\Hold (LivS d x k ord at_ j s q.1 q.2)) (λq=>(ruI d.rules s).length-q.1)
     (λq=>[(1,AH x),(2,.ptr 2 1 0 0),(5,.ptr 1 1 0 0),(12,.ptr 4 1 0 0),(144,.lst 1 ((ruI d.rules s).map e1)),(145,.int .i64 (ruI d.rules s).length),(146,.int .i64 q.1)]) (λq=>bgV d x k m ord at_ q.2) (λ_ _=>[]) (0,L) ⟨A6 _,⟨z3m hI hLs⟩⟩ ?_ ?_)
    ·unfold bgV rnB ruV fiV
     (with_reducible repeat'(first|simp (disch:=omega) only[push_cast,↓zz,seval,pR,pFi,pX,hdn,pLv,pRU,pFI,pO,pRI]|apply Aa|refine sp_ ?_ ?_<;>intro hc<;>push_cast at hc|omega|intro _))
    rintro⟨i0,L2⟩ ⟨hi0,⟨hI2⟩⟩;simp only at hi0 hI2 ⊢;unfold bgV rnB ruV fiV;have hIl:=Vb d.rules s;rcases Ak i0 (ruI d.rules s).length with hil|hil
    ·obtain⟨i,hi⟩:∃i,i=nth (ruI d.rules s) i0:=⟨_,rfl⟩
     have him:i∈ruI d.rules s:=by rw[hi];exact Bo hil
     obtain⟨i1,i2⟩:=Hl.1 him;have aI:((ruI d.rules s).map e1).getD i0 .any=.int .i64 i:=by rw[hi];simp[nth,List.getD,hil]
     have hr:=Bo i1;obtain⟨hg1,hg2⟩:=hgb _ hr;obtain⟨_,htt,_,_⟩:=hgo.r _ hr;have hF:=Rb d x (.lst 1 (fD 1 e1 k (ruI d.rules))) (.lst 1 (fD 1 e1 k (fiI d.finals))) (.lst 1 (ord.map e1)) (.lst 1 (lvB k m L2)) (nth d.rules i).guards at_ pRU pFI pO (pLv L2) (by omega) h32 hg1.2 hg1.1 (by omega);simp only[DW,hdn] at hF;have hyes:=λhg=>z9j hI2 hgo hT hjk hse hil hg;have hno:=λhg=>zg5 hI2 (k:=i0) hg;rw[<-hi] at hyes hno;have tL:List.take m (lvB k m L2)=lvB k m L2:=Ay (by rw[JM];exact Ad _);generalize hre:nth d.rules i=r at *;have hgr:=Cc r.guards;have hot:=CI r.out;obtain⟨e,he⟩:∃e:Nat,r.eat=e:=⟨r.eat.toNat,by omega⟩;obtain⟨t,htq⟩:∃t:Nat,r.to_=t:=⟨r.to_.toNat,by omega⟩;have het:r.eat.toNat=e:=by omega
     have htt2:r.to_.toNat=t:=by omega
     rw[het,htt2] at hyes;cases hb:goB x r.guards at_ with
     |false =>
      rw[hb] at hF;have hno:=hno hb;refine W_T ?_;(with_reducible repeat'(first|simp (disch:=omega) only[push_cast,↓zz,seval,pR,pFi,pX,hdn,pLv,lL,pRU,pFI,pO,pRI,aI,hre,hgr,hot,tL]|apply Aa|refine sp_ ?_ ?_<;>intro hc<;>push_cast at hc|refine ee hF ?_|(refine cc hF ?_;(simp(disch:=omega)only[push_cast,↓zz,seval,pR,pFi,pX,hdn,pLv,lL,pRU,pFI,pO,pRI,aI,hre,hgr,hot,tL]);(fail_if_success change False))|omega|intro _));exact⟨(i0+1,L2),⟨by simp,Br _ _⟩,⟨by omega,⟨hno⟩⟩,by simp only;omega⟩
     |true =>
      rw[hb] at hF;have hyes:=hyes hb;have hle:=Jq hb;have hge:=(hgo.r _ hr).2.2.1;rw[het] at hge;obtain⟨hs1,hs2⟩:=hset L2 e t (by omega) (by omega);have hae:(at_:Int)+(e:Int)=((at_+e:Nat):Int):=by norm_cast
      have hmul2:((at_+e:Nat):Int) * (k:Int)=(((at_+e) * k:Nat):Int):=by norm_cast
      have hmulb2:(at_+e) * k<=1024 * 1024:=Cs (by omega) hn;generalize hpe2:(at_+e) * k+t=p2 at *;generalize (at_+e) * k=an2 at *;have hpi2:(an2:Int)+(t:Int)=(p2:Int):=by omega
      generalize hbe:at_+e=b2 at *;refine W_T ?_;(with_reducible repeat'(first|simp (disch:=omega) only[push_cast,↓zz,seval,pR,pFi,pX,hdn,pLv,lL,pRU,pFI,pO,pRI,aI,hre,hgr,hot,tL,he,htq,hae,hmul2,hpi2,hs1]|apply Aa|refine sp_ ?_ ?_<;>intro hc<;>push_cast at hc|refine ee hF ?_|(refine cc hF ?_;(simp(disch:=omega)only[push_cast,↓zz,seval,pR,pFi,pX,hdn,pLv,lL,pRU,pFI,pO,pRI,aI,hre,hgr,hot,tL,he,htq,hae,hmul2,hpi2,hs1]);(fail_if_success change False))|omega|intro _));exact⟨(i0+1,setP L2 b2 t true),⟨by simp,Br _ _⟩,⟨by omega,⟨hyes⟩⟩,by simp only;omega⟩
    ·obtain rfl:i0=(ruI d.rules s).length:=by omega
     have hend:=z9k hI2 hT hjk hse;refine W_T ?_;(with_reducible repeat'(first|simp (disch:=omega) only[push_cast,↓zz,seval,pR,pFi,pX,hdn,pLv,lL,pRU,pFI,pO,pRI]|apply Aa|refine sp_ ?_ ?_<;>intro hc<;>push_cast at hc|omega|intro _));exact⟨L2,Br _ _,⟨hend⟩⟩
  ·rintro L ⟨hI⟩
   rw[Oo,hol] at hI;have hI2:=zg6 hI hT;unfold bgV rnB ruV fiV;(with_reducible repeat'(first|simp (disch:=omega) only[push_cast,↓zz,seval,pR,pFi,pX,hdn,pLv,pRU,pFI,pO]|apply Aa|refine sp_ ?_ ?_<;>intro hc<;>push_cast at hc|omega|intro _));refine⟨(at_+1,L),⟨Br _ _,by simp⟩,⟨by omega,⟨hI2⟩⟩,by simp only;omega⟩
 ·obtain rfl:at_=x.length+1:=by omega
  have hE:=zg7 hI;have tL:∀L,List.take m (lvB k m L)=lvB k m L:=λL=>Ay (by rw[JM];exact Ad _);unfold bgV rnB ruV fiV;refine W_T ?_;(with_reducible repeat'(first|simp (disch:=omega) only[push_cast,↓zz,seval,pR,pFi,pX,hdn,pLv,pRU,pFI,pO]|apply Aa|refine sp_ ?_ ?_<;>intro hc<;>push_cast at hc|omega|intro _));refine⟨_,_,z9s 4 [0,3] (z:=DW d x (ruV d.rules k) (fiV d.finals k) (.lst 1 (ord.map e1)) (.lst 1 (lvB k m L))) ?_ ?_ ?_,rfl,ord,L,?_,hT,hE⟩
  ·(simp(disch:=omega)only[push_cast,↓zz,seval,pR,pFi,pX,pLv,pRU,pFI,pO,JM,tL])
  ·(simp(disch:=omega)only[push_cast,↓zz,seval,pR,pFi,pX,pLv,pRU,pFI,pO,JM,tL])
   have e:(k:Int)=d.states:=hdn.symm;rw[e];rfl
  ·simp[AV.pure,AD,pR,pFi,pX,pLv,pRU,pFI,pO,ruV,fiV]
  ·rw[hm];rfl
set_option maxRecDepth 100000
def DF:List Int->List Int->Nat
 |[],_=>0
 |_,[]=>0
 |a::l,b::m=>if a=b then DF l m+1 else 0
def cmpL:List Int->List Int->Int
 |[],[]=>0
 |[],_::_=>-1
 |_::_,[]=>1
 |a::l,b::m=>if a<b then -1 else if b<a then 1 else cmpL l m
theorem Xg:∀a b:List Int,DF a b<=a.length/\DF a b<=b.length
 |[],_=>by simp[DF]
 |_::_,[]=>by simp[DF]
 |a::l,b::m=>by
  have:=Xg l m;simp only[DF];split<;>simp<;>omega
theorem YS{a b:List Int}{k:Nat}(h1:k<a.length)(h2:k<b.length)(he:nth a k=nth b k):DF (a.drop k) (b.drop k)=DF (a.drop (k+1)) (b.drop (k+1))+1:=by
 rw[drop_at h1,drop_at h2,DF,Ae he]
theorem YT{a b:List Int}{k:Nat}(h:¬(k<a.length/\k<b.length/\nth a k=nth b k)):DF (a.drop k) (b.drop k)=0:=by
 by_cases h1:k<a.length
 ·by_cases h2:k<b.length
  ·rw[drop_at h1,drop_at h2,DF,Ac λe=>h ⟨h1,h2,e⟩]
  ·rw[Ax (l:=b) (by omega)]
   cases a.drop k<;>rfl
 ·rw[Ax (l:=a) (by omega)];rfl
theorem T7:∀a b:List Int,cmpL a b=if DF a b=a.length/\DF a b=b.length then 0 else if DF a b=a.length then -1 else if DF a b=b.length then 1 else if nth a (DF a b)<nth b (DF a b) then -1 else if nth b (DF a b)<nth a (DF a b) then 1 else 0
 |[],[]=>rfl
 |[],_::_=>by simp[cmpL,DF]
 |_::_,[]=>by simp[cmpL,DF]
 |a::l,b::m=>by
  by_cases e:a=b
  ·subst e
   have h1:DF (a::l) (a::m)=DF l m+1:=by rw[DF,Ae rfl]
   have h2:cmpL (a::l) (a::m)=cmpL l m:=by rw[cmpL,Ac (Int.lt_irrefl _),Ac (Int.lt_irrefl _)]
   rw[h1,h2,T7 l m];simp only[List.length_cons,Nat.add_right_cancel_iff,z6p];rfl
  ·have h1:DF (a::l) (b::m)=0:=by rw[DF,Ac e]
   have n1:¬(0=l.length+1):=by omega
   have n2:¬(0=m.length+1):=by omega
   rw[h1,cmpL];rw[List.length_cons,List.length_cons,Ac (show ¬(0=l.length+1/\0=m.length+1) from λh=>n1 h.1),Ac n1,Ac n2];by_cases h2:a<b
   ·rw[Ae h2,Ae (show nth (a::l) 0<nth (b::m) 0 from h2)]
   ·have h3:b<a:=by omega
    rw[Ac h2,Ac (show ¬nth (a::l) 0<nth (b::m) 0 from h2),Ae h3,Ae (show nth (b::m) 0<nth (a::l) 0 from h3)]
theorem YU(a b:List Int)(hl:a.length<=1000000000):PC Tryz.prog 140 [AH a,AH b] (.int .i64 (DF a b)):=by
 have pa:AD (a.map (AV.int .i32))=true:=AG .i32 _;have pb:AD (b.map (AV.int .i32))=true:=AG .i32 _;refine Cg SK ?_;unfold LZ;(with_reducible repeat'(first|simp (disch:=omega) only[push_cast,↓zz,seval]|apply Aa|refine sp_ ?_ ?_<;>intro hc<;>push_cast at hc|omega|intro _))
 refine Bw (B5 (λ(k:Nat)=>k<=a.length/\DF a b=k+DF (a.drop k) (b.drop k)) (λk=>a.length-k)
  (λk=>[(0,AH a),(1,AH b),(5,.int .i64 k)]) (λs=>[]) (λenv _=>[]) 0 (by simp) ?_ ?_)
 ·(with_reducible repeat'(first|simp (disch:=omega) only[push_cast,↓zz,seval,pa,pb]|apply Aa|refine sp_ ?_ ?_<;>intro hc<;>push_cast at hc|omega|intro _))
 rintro k ⟨hk,hr⟩;refine W_T ?_;by_cases h:k<a.length/\k<b.length/\nth a k=nth b k
 ·obtain⟨h1,h2,h3⟩:=h
  have hs:=YS h1 h2 h3;(with_reducible repeat'(first|simp (disch:=omega) only[push_cast,↓zz,seval,pa,pb,h3]|apply Aa|refine sp_ ?_ ?_<;>intro hc<;>push_cast at hc|omega|intro _))
  all_goals
   refine⟨k+1,?_⟩;(with_reducible repeat'(first|simp (disch:=omega) only[push_cast,↓zz,seval,pa,pb]|apply Aa|refine sp_ ?_ ?_<;>intro hc<;>push_cast at hc|omega|intro _))
 ·have hs:=YT h
  rw[hs] at hr;by_cases h1:k<a.length
  ·by_cases h2:k<b.length
   ·have h3:¬nth a k=nth b k:=λe=>h ⟨h1,h2,e⟩
    (with_reducible repeat'(first|simp (disch:=omega) only[push_cast,↓zz,seval,pa,pb,h3]|apply Aa|refine sp_ ?_ ?_<;>intro hc<;>push_cast at hc|omega|intro _))
    all_goals first|omega|trace_state
   ·(with_reducible repeat'(first|simp (disch:=omega) only[push_cast,↓zz,seval,pa,pb]|apply Aa|refine sp_ ?_ ?_<;>intro hc<;>push_cast at hc|omega|intro _))
    all_goals first|omega|trace_state
  ·(with_reducible repeat'(first|simp (disch:=omega) only[push_cast,↓zz,seval,pa,pb]|apply Aa|refine sp_ ?_ ?_<;>intro hc<;>push_cast at hc|omega|intro _))
   all_goals first|omega|trace_state
theorem T8(x:Int):PC Tryz.prog 166 [.int .i32 x] (.bool false):=by
 refine Cg Mv ?_;unfold Ih;(with_reducible repeat'(first|simp (disch:=omega) only[push_cast,↓zz,seval]|apply Aa|refine sp_ ?_ ?_<;>intro hc<;>push_cast at hc|omega|intro _))
 all_goals trace_state
theorem z9t(x y:Int):PC Tryz.prog 141 [.int .i32 x,.int .i32 y] (.int .i64 (if x<y then -1 else if y<x then 1 else 0)):=by
 have hx:=T8 x;have hy:=T8 y;refine Cg Kr ?_;unfold GW;by_cases h1:x<y
 ·rw[Ae h1]
  (with_reducible repeat'(first|simp (disch:=omega) only[push_cast,↓zz,seval,h1]|apply Aa|refine sp_ ?_ ?_<;>intro hc<;>push_cast at hc|refine ee hx ?_|refine ee hy ?_|((first|refine cc hx ?_|refine cc hy ?_);(simp(disch:=omega)only[push_cast,↓zz,seval,h1]);(fail_if_success change False))|omega|intro _))
 ·rw[Ac h1]
  by_cases h2:y<x
  ·rw[Ae h2]
   (with_reducible repeat'(first|simp (disch:=omega) only[push_cast,↓zz,seval,h1,h2]|apply Aa|refine sp_ ?_ ?_<;>intro hc<;>push_cast at hc|refine ee hx ?_|refine ee hy ?_|((first|refine cc hx ?_|refine cc hy ?_);(simp(disch:=omega)only[push_cast,↓zz,seval,h1,h2]);(fail_if_success change False))|omega|intro _))
  ·rw[Ac h2]
   (with_reducible repeat'(first|simp (disch:=omega) only[push_cast,↓zz,seval,h1,h2]|apply Aa|refine sp_ ?_ ?_<;>intro hc<;>push_cast at hc|refine ee hx ?_|refine ee hy ?_|((first|refine cc hx ?_|refine cc hy ?_);(simp(disch:=omega)only[push_cast,↓zz,seval,h1,h2]);(fail_if_success change False))|omega|intro _))
   all_goals trace_state
theorem Mp(a b:List Int)(ha:a.length<=1000000000)(hb:b.length<=1000000000):PC Tryz.prog 105 [AH a,AH b] (.int .i64 (cmpL a b)):=by
 have pa:AD (a.map (AV.int .i32))=true:=AG .i32 _;have pb:AD (b.map (AV.int .i32))=true:=AG .i32 _;have hF:=YU a b ha;have hfl:=Xg a b;have hC:=z9t (nth a (DF a b)) (nth b (DF a b));rw[T7];generalize hf:DF a b=f at *;refine Cg O9 ?_;unfold Jl;by_cases h1:f=a.length
 ·by_cases h2:f=b.length
  ·rw[Ae ⟨h1,h2⟩]
   (with_reducible repeat'(first|simp (disch:=omega) only[push_cast,↓zz,seval,pa,pb]|apply Aa|refine sp_ ?_ ?_<;>intro hc<;>push_cast at hc|refine ee hF ?_|(refine cc hF ?_;(simp(disch:=omega)only[push_cast,↓zz,seval,pa,pb]);(fail_if_success change False))|omega|intro _))
   all_goals first|omega|trace_state
  ·rw[Ac (λh=>h2 h.2),Ae h1]
   (with_reducible repeat'(first|simp (disch:=omega) only[push_cast,↓zz,seval,pa,pb]|apply Aa|refine sp_ ?_ ?_<;>intro hc<;>push_cast at hc|refine ee hF ?_|(refine cc hF ?_;(simp(disch:=omega)only[push_cast,↓zz,seval,pa,pb]);(fail_if_success change False))|omega|intro _))
   all_goals first|omega|trace_state
 ·rw[Ac (λh=>h1 h.1),Ac h1]
  by_cases h2:f=b.length
  ·rw[Ae h2]
   (with_reducible repeat'(first|simp (disch:=omega) only[push_cast,↓zz,seval,pa,pb]|apply Aa|refine sp_ ?_ ?_<;>intro hc<;>push_cast at hc|refine ee hF ?_|(refine cc hF ?_;(simp(disch:=omega)only[push_cast,↓zz,seval,pa,pb]);(fail_if_success change False))|omega|intro _))
   all_goals first|omega|trace_state
  ·rw[Ac h2]
   (with_reducible repeat'(first|simp (disch:=omega) only[push_cast,↓zz,seval,pa,pb]|apply Aa|refine sp_ ?_ ?_<;>intro hc<;>push_cast at hc|refine ee hF ?_|refine ee hC ?_|((first|refine cc hF ?_|refine cc hC ?_);(simp(disch:=omega)only[push_cast,↓zz,seval,pa,pb]);(fail_if_success change False))|omega|intro _))
   all_goals first|omega|trace_state
set_option maxRecDepth 100000
theorem Xh:∀a b:List Int,cmpL a b=0↔a=b
 |[],[]=>by simp[cmpL]
 |[],_::_=>by simp[cmpL]
 |_::_,[]=>by simp[cmpL]
 |a::l,b::m=>by
  simp only[cmpL,EP];by_cases h1:a<b
  ·rw[Ae h1];constructor
   ·intro h;cases h
   ·intro h;omega
  ·rw[Ac h1]
   by_cases h2:b<a
   ·rw[Ae h2];constructor
    ·intro h;cases h
    ·intro h;omega
   ·rw[Ac h2,Xh l m]
    have:a=b:=by omega
    simp[this]
theorem z3v:∀a b:List Int,cmpL a b<0↔ltW a b=true
 |[],[]=>by simp[cmpL,ltW]
 |[],_::_=>by simp[cmpL,ltW]
 |_::_,[]=>by simp[cmpL,ltW]
 |a::l,b::m=>by
  simp only[cmpL,ltW];by_cases h1:a<b
  ·rw[Ae h1,Ae h1];simp
  ·rw[Ac h1,Ac h1]
   by_cases h2:b<a
   ·rw[Ae h2,Ae h2];simp
   ·rw[Ac h2,Ac h2];exact z3v l m
theorem z3w(a b:List Int)(ha:a.length<=1000000000)(hb:b.length<=1000000000):PC Tryz.prog 107 [AH a,AH b] (.bool (decide (a=b))):=by
 have hC:=Mp a b ha hb;have hz:decide (cmpL a b=0)=decide (a=b):=BE.2 (Xh a b);refine Cg Q7 ?_;unfold Kn;rw[<-hz];generalize cmpL a b=c at *;(with_reducible repeat'(first|simp (disch:=omega) only[push_cast,↓zz,seval]|apply Aa|refine sp_ ?_ ?_<;>intro hc<;>push_cast at hc|refine ee hC ?_|(refine cc hC ?_;(simp(disch:=omega)only[push_cast,↓zz,seval]);(fail_if_success change False))|omega|intro _))
 all_goals trace_state
def Cp(l:List (List Int)):Nat->List (List Int)
 |0=>[]
 |k+1=>if 0<k/\nth l k=nth l (k-1) then Cp l k else Cp l k++[nth l k]
theorem Ou{l:List (List Int)}:∀(k:Nat),k<=l.length->∀w,w∈Cp l k↔w∈l.take k
 |0,_,w=>by simp[Cp]
 |k+1,hk,w=>by
  have ih:=Ou (l:=l) k (by omega) w;rw[take_at (by omega),Cp];split
  ·rename_i h
   rw[ih,Am,An];constructor
   ·exact .inl
   ·rintro (h1|rfl)
    ·exact h1
    ·rw[h.2]
     have e:l.take k=l.take (k-1)++[nth l (k-1)]:=by
      have:=take_at (l:=l) (i:=k-1) (by omega)
      rwa [show k-1+1=k by omega] at this
     rw[e];simp
  ·rw[Am,ih,Am]
theorem T9{l:List (List Int)}{k:Nat}(hk:k<=l.length){w:List Int}(h:w∈l.take k):∃i,i<k/\w=nth l i:=by
 obtain⟨i,hi,rfl⟩:=B0 h;rw[BJ] at hi;refine⟨i,by omega,?_⟩;rw[HN (by omega),List.getElem_take]
theorem PT{l:List (List Int)}(hs:l.Pairwise λa b=>ltW b a=false):∀(k:Nat),k<=l.length->Oj (Cp l k)
 |0,_=>List.Pairwise.nil
 |k+1,hk=>by
  have ih:=PT hs k (by omega)
  have hle:∀i j,i<j->j<l.length->ltW (nth l j) (nth l i)=false:=λi j hij hj=>by
   rw[HN hj,HN (by omega)];exact C9.1 hs i j (by omega) hj hij
  rw[Cp];split
  ·exact ih
  ·rename_i hne
   refine Dw.2 ⟨ih,DN _ _,λa ha b hb=>?_⟩;rw[An.1 hb];obtain⟨i,hi,rfl⟩:=T9 (by omega) ((Ou k (by omega) a).1 ha);cases hlt:ltW (nth l i) (nth l k) with
   |true=>rfl
   |false =>
    exfalso;have e:=IC _ _ hlt (hle i k hi (by omega));refine hne ⟨by omega,?_⟩;by_cases h1:i=k-1
    ·rw[<-e,h1]
    ·have h2:=hle i (k-1) (by omega) (by omega)
     have h3:=hle (k-1) k (by omega) (by omega);rw[<-e] at h3 ⊢;exact IC _ _ h3 h2
theorem TA(l:List (List Int)):∀k,(Cp l k).length<=k
 |0=>by simp[Cp]
 |k+1=>by
  have:=TA l k;rw[Cp];split
  ·omega
  ·simp;omega
theorem YV{l m:List (List Int)}(h:m.Pairwise λa b=>ltW b a=false)(hp:m.Perm l):Jh l=Cp m m.length:=WQ (PT h _ (Ad _)) λw=>by
 rw[Ou _ (Ad _),AA];exact hp.mem_iff
theorem z3x{α:Type}[Inhabited α](a b:List α)(k:Nat):nth (a++b) (a.length+k)=nth b k:=by
 simp[nth,List.getD,AE]
theorem Xi{α:Type}[Inhabited α](l:List α)(i k:Nat):nth (l.drop i) k=nth l (i+k):=by
 simp[nth,List.getD]
theorem set_mid{α:Type}(C J D:List α)(h v:α):(C++(h::J)++D).set C.length v=(C++[v])++J++D:=by simp
theorem KH(ex:Bool)(l:List (List Int))(hl:l.length<=1000000000)(hw:∀w∈l,w.length<=1000000000):B2 Tryz.prog 106 [.ref 0 1 0 l.length,.fn 107 []] (Abs.hl [⟨1,1,ex,l.map AH⟩]) λy H' =>
 y=.ref 0 1 0 (Cp l l.length).length/\∃z,AD z=true/\H'=Abs.hl [⟨1,1,ex,(Cp l l.length).map AH++z⟩]:=by
 have pL:=C0 l;have hc1:=TA l l.length;refine VR (b:=1) Ga rfl ?_;unfold E5;by_cases h2:l.length<2
 ·have hce:Cp l l.length=l:=by
   match l,h2 with
   |[],_=>rfl
   |[a],_=>rfl
  (with_reducible repeat'(first|simp (disch:=omega) only[push_cast,↓zz,seval,pL]|apply Aa|refine sp_ ?_ ?_<;>intro hc<;>push_cast at hc|omega|intro _))
  all_goals
   refine Sa [] (.ref 0 1 0 (Cp l l.length).length) [⟨1,1,ex,(Cp l l.length).map AH++[]⟩] ?_ ⟨rfl,[],rfl,rfl⟩;rw[hce,AB];(with_reducible repeat'(first|simp (disch:=omega) only[push_cast,↓zz,seval,pL]|apply Aa|refine sp_ ?_ ?_<;>intro hc<;>push_cast at hc|omega|intro _))
 ·have hcl:∀i,(∀j,1<=j->j<i->nth l j≠nth l (j-1))->i<=l.length->Cp l i=l.take i:=λi=>by
   induction i with
   |zero=>intro _ _;simp[Cp]
   |succ i ih =>
    intro hj hi;rw[Cp,ih (λj h1 h2=>hj j h1 (by omega)) (by omega),take_at (by omega)];by_cases h0:0<i
    ·rw[Ac λh=>hj i (by omega) (by omega) h.2]
    ·rw[Ac λh=>h0 h.1]
  have hfn:∀a∈l,∀b∈l,PC Tryz.prog 107 [AH a,AH b] (.bool (decide (a=b))):=λa ha b hb=>z3w a b (hw a ha) (hw b hb);(with_reducible repeat'(first|simp (disch:=omega) only[push_cast,↓zz,seval,pL]|apply Aa|refine sp_ ?_ ?_<;>intro hc<;>push_cast at hc|omega|intro _))
  refine Bw (B5 (λ(i:Nat)=>(1<=i/\i<=l.length)/\Hold (∀j,1<=j->j<i->nth l j≠nth l (j-1))) (λi=>l.length-i)
   (λi=>[(0,.ref 0 1 0 l.length),(1,.fn 107 []),(5,.int .i64 i)]) (λ_=>[⟨1,1,ex,l.map AH⟩]) (λ_ _=>[]) 1 ⟨by omega,⟨λj h1 h2=>by omega⟩⟩ ?_ ?_)
  ·(with_reducible repeat'(first|simp (disch:=omega) only[push_cast,↓zz,seval,pL]|apply Aa|refine sp_ ?_ ?_<;>intro hc<;>push_cast at hc|omega|intro _))
  rintro i ⟨⟨hi1,hi⟩,⟨hno⟩⟩;rcases Ak i l.length with hil|hil
  ·have m1:nth l i∈l:=Bo hil
   have m2:nth l (i-1)∈l:=Bo (by omega);have hF:=hfn _ m1 _ m2;have a1:((l.map AH).getD i .any)=AH (nth l i):=by simp[nth,List.getD,hil]
   have a2:((l.map AH).getD (i-1) .any)=AH (nth l (i-1)):=by
    have:i-1<l.length:=by omega
    simp[nth,List.getD,this]
   have hci:=hcl i hno (by omega);have hi0:((i:Int)-1).toNat=i-1:=by omega
   generalize hu:nth l i=u at *;generalize hv:nth l (i-1)=v at *;have pu:AD (u.map (AV.int .i32))=true:=AG .i32 _;have pv:AD (v.map (AV.int .i32))=true:=AG .i32 _;refine W_T ?_;by_cases he:u=v
   ·rw[AO he] at hF
    (with_reducible repeat'(first|simp (disch:=omega) only[push_cast,↓zz,seval,pL,hu,hv,pu,pv,hi0,a1,a2]|apply Aa|refine sp_ ?_ ?_<;>intro hc<;>push_cast at hc|refine ee hF ?_|(refine cc hF ?_;(simp(disch:=omega)only[push_cast,↓zz,seval,pL,hu,hv,pu,pv,hi0,a1,a2]);(fail_if_success change False))|omega|intro _));have hst:Cp l (i+1)=l.take i:=by rw[Cp,Ae ⟨by omega,by rw[hu,hv];exact he⟩,hci]
    have hstep:∀k,Cp l (i+k+1)=if nth l (i+k)=nth l (i+k-1) then Cp l (i+k) else Cp l (i+k)++[nth l (i+k)]:=λk=>by
     rw[Cp];by_cases h:nth l (i+k)=nth l (i+k-1)
     ·rw[Ae ⟨by omega,h⟩,Ae h]
     ·rw[Ac λhh=>h hh.2,Ac h]
    clear hno hcl hF a1 a2 pu pv
    refine Bw (B5 (λ(q:Nat × List (List Int))=>(1<=q.1/\i+q.1<=l.length)/\(Cp l (i+q.1)).length+q.2.length=i+q.1-1) (λq=>l.length-q.1)
     (λq=>[(0,.ref 0 1 0 l.length),(1,.fn 107 []),(5,.int .i64 (Cp l (i+q.1)).length),(6,.ref 0 1 i (l.length-i)),(7,.int .i64 q.1)])
     (λq=>[⟨1,1,ex,(Cp l (i+q.1)++q.2++l.drop (i+q.1-1)).map AH⟩]) (λ_ _=>[]) (1,[]) ⟨by omega,by simp only[hst];simp;omega⟩ ?_ ?_)
    ·have hX:Cp l (i+1)++[]++l.drop (i+1-1)=l:=by rw[hst,AB,Nat.add_sub_cancel,Cf]
     have hCl:(Cp l (i+1)).length=i:=by rw[hst,BJ];omega
     simp only[hX,hCl];(with_reducible repeat'(first|simp (disch:=omega) only[push_cast,↓zz,seval,pL]|apply Aa|refine sp_ ?_ ?_<;>intro hc<;>push_cast at hc|omega|intro _))
    rintro⟨k,J⟩ ⟨⟨hk1,hk⟩,hJ⟩;simp only at hk1 hk hJ ⊢;have hXl:(Cp l (i+k)++J++l.drop (i+k-1)).length=l.length:=by simp only[Ah,List.length_drop];omega
    have hCJ:(Cp l (i+k)++J).length=i+k-1:=by rw[Ah];exact hJ
    rcases Ak (i+k) l.length with hkl|hkl
    ·have n1:nth (Cp l (i+k)++J++l.drop (i+k-1)) (i+k)=nth l (i+k):=by
      have:=z3x (Cp l (i+k)++J) (l.drop (i+k-1)) 1;rw[hCJ,Xi] at this
      rwa [show i+k-1+1=i+k by omega] at this
     have n2:nth (Cp l (i+k)++J++l.drop (i+k-1)) (i+k-1)=nth l (i+k-1):=by
      have:=z3x (Cp l (i+k)++J) (l.drop (i+k-1)) 0;rw[hCJ,Xi,Nat.add_zero] at this;exact this
     have m1:nth l (i+k)∈l:=Bo hkl;have m2:nth l (i+k-1)∈l:=Bo (by omega);have hF:=hfn _ m1 _ m2;have hs:=hstep k
     have hdr:l.drop (i+k-1)=nth l (i+k-1)::l.drop (i+k):=by
      have:=drop_at (l:=l) (i:=i+k-1) (by omega)
      rwa [show i+k-1+1=i+k by omega] at this
     obtain⟨h,J',hJ'⟩:∃h J',J++[nth l (i+k-1)]=h::J':=by
      cases J with
      |nil=>exact⟨_,[],rfl⟩
      |cons a J=>exact⟨a,J++[_],rfl⟩
     have hJl:J'.length=J.length:=by have:=D9 List.length hJ';simp at this;omega
     have hXe:Cp l (i+k)++J++l.drop (i+k-1)=Cp l (i+k)++(h::J')++l.drop (i+k):=by
      rw[hdr,<-hJ'];simp
     have hset:(Cp l (i+k)++J++l.drop (i+k-1)).set (Cp l (i+k)).length (nth l (i+k))=Cp l (i+k)++[nth l (i+k)]++J'++l.drop (i+k):=by rw[hXe,set_mid]
     have hsame:Cp l (i+k)++J++l.drop (i+k-1)=Cp l (i+k)++(J++[nth l (i+k-1)])++l.drop (i+k):=by rw[hdr];simp
     have pX:=C0 (Cp l (i+k)++J++l.drop (i+k-1));have hmset:((Cp l (i+k)++J++l.drop (i+k-1)).map AH).set (Cp l (i+k)).length (AH (nth l (i+k)))=(Cp l (i+k)++[nth l (i+k)]++J'++l.drop (i+k)).map AH:=by rw[<-List.map_set,hset]
     have hidx:(i:Int)+k=((i+k:Nat):Int):=by omega
     have e1':i+(k-1)=i+k-1:=by omega
     have hk0:((k:Int)-1).toNat=k-1:=by omega
     have hcl2:(Cp l (i+k)).length<l.length:=by omega
     generalize hX:Cp l (i+k)++J++l.drop (i+k-1)=X at *;generalize hu2:nth l (i+k)=u2 at *;generalize hv2:nth l (i+k-1)=v2 at *;have pu:AD (u2.map (AV.int .i32))=true:=AG .i32 _;have pv:AD (v2.map (AV.int .i32))=true:=AG .i32 _;refine W_T ?_;by_cases he2:u2=v2
     ·rw[AO he2] at hF
      rw[Ae he2] at hs;(with_reducible repeat'(first|simp (disch:=omega) only[push_cast,↓zz,seval,pX,hXl,n1,n2,pu,pv,hk0,e1']|apply Aa|refine sp_ ?_ ?_<;>intro hc<;>push_cast at hc|refine ee hF ?_|(refine cc hF ?_;(simp(disch:=omega)only[push_cast,↓zz,seval,pX,hXl,n1,n2,pu,pv,hk0,e1']);(fail_if_success change False))|omega|intro _))
      all_goals
       refine⟨(k+1,J++[v2]),?_⟩;have e2:i+(k+1)-1=i+k:=by omega
       have hsm:(Cp l (i+k)).map AH++(J.map AH++AH v2::(l.drop (i+k)).map AH)=X.map AH:=by rw[hsame];simp
       simp only[<-AY,hs,e2];(with_reducible repeat'(first|simp (disch:=omega) only[push_cast,↓zz,seval,pX,hsm]|apply Aa|refine sp_ ?_ ?_<;>intro hc<;>push_cast at hc|omega|intro _))
     ·rw[Bb he2] at hF
      rw[Ac he2] at hs;have pX1:=C0 (Cp l (i+k)++[u2]++J'++l.drop (i+k));(with_reducible repeat'(first|simp (disch:=omega) only[push_cast,↓zz,seval,pX,hXl,n1,n2,pu,pv,hk0,e1',hmset]|apply Aa|refine sp_ ?_ ?_<;>intro hc<;>push_cast at hc|refine ee hF ?_|(refine cc hF ?_;(simp(disch:=omega)only[push_cast,↓zz,seval,pX,hXl,n1,n2,pu,pv,hk0,e1',hmset]);(fail_if_success change False))|omega|intro _))
      all_goals
       refine⟨(k+1,J'),?_⟩;have e2:i+(k+1)-1=i+k:=by omega
       simp only[<-AY,hs,e2];(with_reducible repeat'(first|simp (disch:=omega) only[push_cast,↓zz,seval,pX1,Ah,List.length_cons,List.length_nil]|apply Aa|refine sp_ ?_ ?_<;>intro hc<;>push_cast at hc|omega|intro _))
    ·have hkn:i+k=l.length:=by omega
     rw[hkn] at hXl hCJ hJ ⊢;have hm:(Cp l l.length++J++l.drop (l.length-1)).map AH=(Cp l l.length).map AH++(J++l.drop (l.length-1)).map AH:=by rw[A3,Ao]
     have hmt:((Cp l l.length++J++l.drop (l.length-1)).map AH).take (Cp l l.length).length=(Cp l l.length).map AH:=by rw[hm];exact DO (by simp)
     have hmd:((Cp l l.length++J++l.drop (l.length-1)).map AH).drop l.length=[]:=Ax (by rw[Bi,hXl];exact Ad _);have pX:=C0 (Cp l l.length++J++l.drop (l.length-1));have pC:=C0 (Cp l l.length);have pN:=IF (l.length-(Cp l l.length).length);generalize Cp l l.length++J++l.drop (l.length-1)=X at *;generalize Cp l l.length=C at *;have hcn:C.length+(l.length-C.length)=l.length:=by omega
     refine W_T ?_;(with_reducible repeat'(first|simp (disch:=omega) only[push_cast,↓zz,seval,pX,hXl,hmt,hmd,hcn,AB]|apply Aa|refine sp_ ?_ ?_<;>intro hc<;>push_cast at hc|omega|intro _))
     all_goals
      refine Sa [] (.ref 0 1 0 C.length) [⟨1,1,ex,C.map AH++List.replicate (l.length-C.length) .nilS⟩] ?_ ⟨rfl,_,pN,rfl⟩;(with_reducible repeat'(first|simp (disch:=omega) only[push_cast,↓zz,seval,pX,pC,pN]|apply Aa|refine sp_ ?_ ?_<;>intro hc<;>push_cast at hc|omega|intro _))
   ·rw[Bb he] at hF
    have hnx:Hold (∀j,1<=j->j<i+1->nth l j≠nth l (j-1)):=⟨λj h1 h2=>by
     by_cases e:j=i
     ·subst e;rw[hu,hv];exact he
     ·exact hno j h1 (by omega)⟩
    clear hno hcl;(with_reducible repeat'(first|simp (disch:=omega) only[push_cast,↓zz,seval,pL,hu,hv,pu,pv,hi0,a1,a2]|apply Aa|refine sp_ ?_ ?_<;>intro hc<;>push_cast at hc|refine ee hF ?_|(refine cc hF ?_;(simp(disch:=omega)only[push_cast,↓zz,seval,pL,hu,hv,pu,pv,hi0,a1,a2]);(fail_if_success change False))|omega|intro _))
    all_goals
     refine⟨i+1,?_⟩;(with_reducible repeat'(first|simp (disch:=omega) only[push_cast,↓zz,seval,pL]|apply Aa|refine sp_ ?_ ?_<;>intro hc<;>push_cast at hc|omega|intro _))
     all_goals first|exact⟨by omega,hnx⟩|exact hnx|trace_state
  ·obtain rfl:i=l.length:=by omega
   have hce:=hcl l.length hno (Ad _);rw[AA] at hce;clear hno hcl;refine W_T ?_;(with_reducible repeat'(first|simp (disch:=omega) only[push_cast,↓zz,seval,pL]|apply Aa|refine sp_ ?_ ?_<;>intro hc<;>push_cast at hc|omega|intro _))
   all_goals
    refine Sa [] (.ref 0 1 0 (Cp l l.length).length) [⟨1,1,ex,(Cp l l.length).map AH++[]⟩] ?_ ⟨rfl,[],rfl,rfl⟩;rw[hce,AB];(with_reducible repeat'(first|simp (disch:=omega) only[push_cast,↓zz,seval,pL]|apply Aa|refine sp_ ?_ ?_<;>intro hc<;>push_cast at hc|omega|intro _))
   all_goals trace_state
theorem Vk{l:List Hq}{s i:Nat}:i∈fiI l s↔i<l.length/\(nth l i).from_=s:=by simp[fiI,Ie]
theorem zga(l:List Hq)(s:Nat):(fiI l s).length<=l.length:=Ot _ _
section
variable (d:Desc)(x:List Int)(S:Nat->Nat->List (List Int))(at_ s:Nat)
def finW(k:Nat):List (List Int):=((fiI d.finals s).take k).flatMap λi=>if (nth d.finals i).guards.length+at_=x.length/\goB x (nth d.finals i).guards at_=true then [FR x (nth d.finals i).out (nth d.finals i).guards at_] else []
def toW(i:Nat):List (List Int):=S (at_+(nth d.rules i).eat.toNat) (nth d.rules i).to_.toNat
def rulW(k:Nat):List (List Int):=((ruI d.rules s).take k).flatMap λi=>if goB x (nth d.rules i).guards at_=true then (toW d S at_ i).map (FR x (nth d.rules i).out (nth d.rules i).guards at_++·) else []
def allW:List (List Int):=finW d x at_ s (fiI d.finals s).length++rulW d x S at_ s (ruI d.rules s).length
variable {d x S at_ s}{k:Nat}
theorem z3y:finW d x at_ s 0=[]:=rfl
theorem z3z:rulW d x S at_ s 0=[]:=rfl
theorem z9u(hk:k<(fiI d.finals s).length){f:Hq}(hf:nth d.finals (nth (fiI d.finals s) k)=f)(h:(decide (f.guards.length+at_=x.length)&&goB x f.guards at_)=true):finW d x at_ s (k+1)=finW d x at_ s k++[FR x f.out f.guards at_]:=by
 simp only[Ab,Ai] at h;rw[finW,take_at hk,CQ,C2,hf,Ae h];rfl
theorem zgb(hk:k<(fiI d.finals s).length){f:Hq}(hf:nth d.finals (nth (fiI d.finals s) k)=f)(h:(decide (f.guards.length+at_=x.length)&&goB x f.guards at_)=false):finW d x at_ s (k+1)=finW d x at_ s k:=by
 rw[finW,take_at hk,CQ,C2,hf,Ac,AB]
 ·rfl
 rintro⟨h1,h2⟩;rw[h2,AO h1] at h;cases h
theorem Xj(hk:k<(ruI d.rules s).length){r:Rule}(hf:nth d.rules (nth (ruI d.rules s) k)=r)(h:goB x r.guards at_=true):rulW d x S at_ s (k+1)=rulW d x S at_ s k++(S (at_+r.eat.toNat) r.to_.toNat).map (FR x r.out r.guards at_++·):=by
 rw[rulW,take_at hk,CQ,C2,hf,Ae h,toW,hf];rfl
theorem z40(hk:k<(ruI d.rules s).length){r:Rule}(hf:nth d.rules (nth (ruI d.rules s) k)=r)(h:goB x r.guards at_=false):rulW d x S at_ s (k+1)=rulW d x S at_ s k:=by
 rw[rulW,take_at hk,CQ,C2,hf,Ac (by rw[h];simp),AB];rfl
theorem Xk:(finW d x at_ s k).length<=k:=by
 induction k with
 |zero=>simp[finW]
 |succ k ih =>
  rcases Ak k (fiI d.finals s).length with h|h
  ·rw[finW,take_at h,CQ,Ah,C2]
   rw[finW] at ih;split
   ·rw[List.length_singleton];omega
   ·rw[List.length_nil];omega
  ·rw[finW,Ay (by omega)]
   rw[finW,Ay h] at ih;omega
theorem z9v{w:List Int}:w∈finW d x at_ s (fiI d.finals s).length↔∃f∈d.finals,f.from_=(s:Nat)/\(f.guards.length+at_=x.length/\goB x f.guards at_=true)/\w=FR x f.out f.guards at_:=by
 rw[finW,AA,D7];constructor
 ·rintro⟨i,hi,hw⟩
  obtain⟨i1,i2⟩:=Vk.1 hi;split at hw
  ·rename_i h
   exact⟨_,Bo i1,i2,h,by simpa using hw⟩
  ·cases hw
 ·rintro⟨f,hf,h1,h2,rfl⟩
  obtain⟨i,hi,rfl⟩:=B0 hf;have e:nth d.finals i=d.finals[i]:=HN hi;exact⟨i,Vk.2 ⟨hi,by rw[e];exact h1⟩,by rw[e,Ae h2];simp⟩
theorem z9w{w:List Int}:w∈rulW d x S at_ s (ruI d.rules s).length↔∃r∈d.rules,r.from_=(s:Nat)/\goB x r.guards at_=true/\∃v∈S (at_+r.eat.toNat) r.to_.toNat,w=FR x r.out r.guards at_++v:=by
 rw[rulW,AA,D7];constructor
 ·rintro⟨i,hi,hw⟩
  obtain⟨i1,i2⟩:=Hl.1 hi;split at hw
  ·rename_i h
   obtain⟨v,hv,rfl⟩:=Au.1 hw;exact⟨_,Bo i1,i2,h,v,hv,rfl⟩
  ·cases hw
 ·rintro⟨r,hr,h1,h2,v,hv,rfl⟩
  obtain⟨i,hi,rfl⟩:=B0 hr;have e:nth d.rules i=d.rules[i]:=HN hi;refine⟨i,Hl.2 ⟨hi,by rw[e];exact h1⟩,?_⟩;rw[e,Ae h2,toW,e];exact Au.2 ⟨v,hv,rfl⟩
theorem z41:Jh (allW d x S at_ s)=Jh (outL d x (λa t=>S a t.toNat) at_ (s:Nat)):=by
 refine (WQ (Jc _) λw=>?_);rw[ID,allW,Am,z9v,z9w,outL,Am,Au,D7];constructor
 ·rintro (⟨f,hf,rfl⟩|⟨r,hr,hw⟩)
  ·obtain⟨h1,h2⟩:=Bn.1 hf
   simp only[Ab,Ai] at h2;exact .inl ⟨f,h1,h2.1,h2.2,rfl⟩
  ·obtain⟨h1,h2⟩:=Bn.1 hr
   simp only[Ab,Ai] at h2;obtain⟨v,hv,rfl⟩:=Au.1 hw;exact .inr ⟨r,h1,h2.1,h2.2,v,hv,rfl⟩
 ·rintro (⟨f,h1,h2,h3,rfl⟩|⟨r,h1,h2,h3,v,hv,rfl⟩)
  ·exact .inl ⟨f,Bn.2 ⟨h1,by simp[h2,h3.1,h3.2]⟩,rfl⟩
  ·exact .inr ⟨r,Bn.2 ⟨h1,by simp[h2,h3]⟩,Au.2 ⟨v,hv,rfl⟩⟩
end
def Iu(o:Option (List Int))(w:List Int):Option (List Int):=match o with
 |none=>some w
 |some m=>if cmpL w m<0 then some w else some m
structure LeastI(C:List (List Int))(o:Option (List Int)):Prop where
 no:o=none->C=[]
 yes:∀m,o=some m->m∈C/\∀c∈C,ltW c m=false
section
variable {d:Desc}{x:List Int}{n:Nat}{ord:List Nat}{L:Nat->Nat->Bool}{at_ j:Nat}
structure LeaI(d:Desc)(x:List Int)(L:Nat->Nat->Bool)(ord:List Nat)(at_ j:Nat)(B:Nat->Nat->Option (List Int)):Prop where
 past:∀a t,a<=x.length->L a t=true->Past ord at_ j a t->B a t=(outW d x a t).head?
 rest:∀a t,¬Past ord at_ j a t->B a t=none
variable {B:Nat->Nat->Option (List Int)}
variable {y:List Int}{M:Nat->Nat->Nat->Bool}
end
set_option maxRecDepth 100000
theorem z9x{σ:Type}(d:Desc)(x:List Int){n:Nat}{ord:List Nat}{L:Nat->Nat->Bool}(RU FI:AV)(hRU:RU.pure=true)(hFI:FI.pure=true)(hdn:d.states=n)(hn:n<=1024)(hx:x.length<=1024)(ht:Topo d.rules n ord)
 (f:Nat) (caps:List AV) (N:Nat) (heap:σ->List Grp) (hN:∀s,(heap s).length=N) (hcl:∀s,∀G∈heap s,ltL N G.xs) (hcaps:ltL N caps)
 (Inv:Nat->Nat->σ->Prop) (s0:σ) (h0:Inv x.length 0 s0)
 (call:∀a j s,a<=x.length->j<n->Inv a j s->L a (nth ord j)=true->B2 Tryz.prog f (.int .i64 a::.int .i64 (nth ord j:Nat)::caps) (Abs.hl (heap s)) λy H'=>y=.tup []/\∃s',H'=Abs.hl (heap s')/\Inv a (j+1) s')
 (skip:∀a j s,a<=x.length->j<n->Inv a j s->L a (nth ord j)=false->Inv a (j+1) s)
 (row:∀a s,a+1<=x.length->Inv (a+1) n s->Inv a 0 s) :
 B2 Tryz.prog 61 [DW d x RU FI (.lst 1 (ord.map e1)) (.lst 1 (lvB n ((x.length+1) * n) L)),.fn f caps] (Abs.hl (heap s0)) λy H'=>y=.tup []/\∃s,H'=Abs.hl (heap s)/\Inv 0 n s:=by
 have pR:=Ca d.rules;have pFi:=Cn d.finals;have pX:AD (x.map (AV.int .i32))=true:=AG .i32 _;have pO:AD (ord.map e1)=true:=Et (λ_=>rfl) _;have hol:=ED ht;have lL:(lvB n ((x.length+1) * n) L).length=(x.length+1) * n:=JM;have pL:AD (lvB n ((x.length+1) * n) L)=true:=MC;have hmx:(x.length+1) * n<=1025 * 1024:=Cs (by omega) hn;have pN:(DW d x RU FI (.lst 1 (ord.map e1)) (.lst 1 (lvB n ((x.length+1) * n) L))).pure=true:=by simp[AV.pure,AD,pR,pFi,pX,pO,pL,hRU,hFI]
 have aL:∀a t,a<=x.length->t<n->(lvB n ((x.length+1) * n) L).getD (a * n+t) .any=.bool (L a t):=λa t ha htn=>zbr htn (GA htn ha);have pl:∀a t,a<=x.length->t<n->a * n+t<(x.length+1) * n:=λa t ha htn=>GA htn ha;generalize hm:(x.length+1) * n=m at *;generalize hLV:lvB n m L=LV at *;refine DJ (G3 Lb (W_T ?_));unfold Hu;(with_reducible repeat'(first|simp (disch:=omega) only[push_cast,↓zz,seval,pR,pFi,pX,pO,pL,hRU,hFI]|apply Aa|refine sp_ ?_ ?_<;>intro hc<;>push_cast at hc|omega|intro _))
 refine Bw (J8 (λ(q:Nat × σ)=>q.1<=x.length+1/\Hold ((q.1=0->Inv 0 n q.2)/\∀a,q.1=a+1->Inv a 0 q.2)) (λq=>q.1)
  (λq=>E0 [(0,DW d x RU FI (.lst 1 (ord.map e1)) (.lst 1 LV)),(1,.fn f caps),(4,.int .i64 ((q.1:Int)-1))]) (λq=>Abs.hl (heap q.2)) (x.length+1,s0) ⟨Ad _,⟨⟨λh=>(by cases h),λa h=>?_⟩⟩⟩ ?_ ?_)
 ·obtain rfl:x.length=a:=by simpa using h
  exact h0
 ·refine FZ (gar:=[]) _ (AB _).symm (D4 ((hN _).trans (hN _).symm)) (by rw[hN];exact hcl _) ?_
  rw[hN];refine⟨rfl,trivial,rfl,hcaps,?_,trivial,trivial⟩;show AV.int _ _=_;congr 1;simp only;omega
 rintro⟨k,s⟩ ⟨hk,⟨⟨hI0,hI⟩⟩⟩;simp only at hk hI0 hI ⊢;rcases Nat.eq_zero_or_pos k with rfl|hk0
 ·have hI0:=hI0 rfl
  refine W_T ?_;(with_reducible repeat'(first|simp (disch:=omega) only[push_cast,↓zz,seval,pR,pFi,pX,pO,pL,hRU,hFI]|apply Aa|refine sp_ ?_ ?_<;>intro hc<;>push_cast at hc|omega|intro _))
  all_goals exact⟨_,_,Ent.refl,rfl,s,rfl,hI0⟩
 ·obtain⟨a,rfl⟩:∃a,k=a+1:=⟨k-1,by omega⟩
  have hIa:=hI a rfl;clear hI0 hI;have ha:a<=x.length:=by omega
  refine W_T ?_;(with_reducible repeat'(first|simp (disch:=omega) only[push_cast,↓zz,seval,pR,pFi,pX,pO,pL,hRU,hFI]|apply Aa|refine sp_ ?_ ?_<;>intro hc<;>push_cast at hc|omega|intro _))
  refine Bw (J8 (λ(q:Nat × σ)=>q.1<=n/\Hold (Inv a q.1 q.2)) (λq=>n-q.1)
   (λq=>E0 [(0,DW d x RU FI (.lst 1 (ord.map e1)) (.lst 1 LV)),(1,.fn f caps),(4,.int .i64 a),(19,.lst 1 (ord.map e1)),(20,.int .i64 n),(21,.int .i64 q.1)]) (λq=>Abs.hl (heap q.2)) (0,s) ⟨A6 _,⟨hIa⟩⟩ ?_ ?_)
  ·refine FZ (gar:=[]) _ (AB _).symm (D4 ((hN _).trans (hN _).symm)) (by rw[hN];exact hcl _) ?_
   rw[hN];have hO:ltV N (.lst 1 (ord.map e1)):=Ct _ _ pO;refine⟨rfl,trivial,rfl,hcaps,?_,trivial,rfl,hO,?_,trivial,rfl,trivial,trivial⟩
   ·show AV.int _ _=_
    congr 1;omega
   ·show AV.int _ _=_
    congr 1;omega
  rintro⟨j,s1⟩ ⟨hj,⟨hI⟩⟩;simp only at hj hI ⊢;have hO:ltV N (.lst 1 (ord.map e1)):=Ct _ _ pO;rcases Ak j n with hjn|hjn
  ·have aO:(ord.map e1).getD j .any=.int .i64 (nth ord j:Nat):=by simp[nth,List.getD,hol,hjn]
   have htn:nth ord j<n:=(ht.all _).1 (Bo (by omega));have hcall:=call a j s1 ha hjn hI;have hskip:=skip a j s1 ha hjn hI;have aK:=aL a _ ha htn;have hpm:=pl a _ ha htn;generalize nth ord j=t at *;have hmul:((a:Int) * (n:Int))=((a * n:Nat):Int):=by norm_cast
   generalize hpe:a * n+t=p at *;generalize a * n=an at *;have hpi:(an:Int)+(t:Int)=(p:Int):=by omega
   cases hL:L a t with
   |true =>
    rw[hL] at aK;refine W_T ?_;(with_reducible repeat'(first|simp (disch:=omega) only[push_cast,↓zz,seval,pR,pFi,pX,pO,pL,hRU,hFI,aO,hdn,hmul,hpi,aK]|apply Aa|refine sp_ ?_ ?_<;>intro hc<;>push_cast at hc|omega|intro _));refine z3i (extra:=[]) (AB _).symm (hcall hL) ?_ (by rw[hN];exact hcl _) ?_
    ·rw[hN];exact⟨trivial,trivial,hcaps⟩
    rintro y H' ⟨rfl,s2,rfl,hI2⟩;refine⟨_,rfl,by rw[hN,hN],trivial,by rw[hN];exact hcl _,?_⟩;rw[AB];(with_reducible repeat'(first|simp (disch:=omega) only[push_cast,↓zz,seval]|apply Aa|refine sp_ ?_ ?_<;>intro hc<;>push_cast at hc|omega|intro _));refine⟨(j+1,s2),FZ (gar:=[]) _ (AB _).symm (D4 ((hN _).trans (hN _).symm)) (by rw[hN];exact hcl _) ?_,⟨by omega,⟨hI2⟩⟩,by simp only;omega⟩;rw[hN];exact⟨rfl,trivial,rfl,hcaps,rfl,trivial,rfl,hO,rfl,trivial,rfl,trivial,trivial⟩
   |false =>
    rw[hL] at aK;refine W_T ?_;(with_reducible repeat'(first|simp (disch:=omega) only[push_cast,↓zz,seval,pR,pFi,pX,pO,pL,hRU,hFI,aO,hdn,hmul,hpi,aK]|apply Aa|refine sp_ ?_ ?_<;>intro hc<;>push_cast at hc|omega|intro _));refine⟨(j+1,s1),FZ (gar:=[]) _ (AB _).symm (D4 ((hN _).trans (hN _).symm)) (by rw[hN];exact hcl _) ?_,⟨by omega,⟨hskip hL⟩⟩,by simp only;omega⟩;rw[hN];exact⟨rfl,trivial,rfl,hcaps,rfl,trivial,rfl,hO,rfl,trivial,rfl,trivial,trivial⟩
  ·obtain rfl:j=n:=by omega
   refine W_T ?_;(with_reducible repeat'(first|simp (disch:=omega) only[push_cast,↓zz,seval,pR,pFi,pX,pO,pL,hRU,hFI]|apply Aa|refine sp_ ?_ ?_<;>intro hc<;>push_cast at hc|omega|intro _));refine⟨(a,s1),FZ (gar:=[]) _ (AB _).symm (D4 ((hN _).trans (hN _).symm)) (by rw[hN];exact hcl _) ?_,⟨by omega,⟨⟨λh=>?_,λa' h=>?_⟩⟩⟩,by simp only;omega⟩
   ·rw[hN]
    exact⟨rfl,trivial,rfl,hcaps,rfl,trivial,trivial⟩
   ·have h:a=0:=h
    subst h;exact hI
   ·have h:a=a'+1:=h
    subst h;exact row a' s1 (by omega) hI
end Go.Proofs.YtflibbceibjddaaGreat
namespace Go.Proofs
open Go.Shelf
def Tryz.sortWd_ren:Go.Shelf.Ren:=⟨fun|6=>104|15=>139|14=>138|28=>164|29=>165|20=>156|21=>157|22=>158|23=>159|24=>160|25=>161|26=>162|27=>163|46=>181|47=>182|48=>183|49=>184|50=>185|57=>205|n=>n,fun|22=>41|24=>23|25=>136|3=>3|39=>179|0=>0|53=>196|55=>198|4=>4|46=>190|45=>189|50=>141|5=>5|9=>9|66=>212|70=>216|76=>237|77=>103|n=>n,fun|n=>n⟩
theorem Tryz.sortWd:Go.Proofs.SlLaysF.n6 Tryz.prog Tryz.sortWd_ren:={
 mixed:=by kernel_rfl
 f6:=⟨Tryz.f104.name,by decide,Tryz.func104.trans (congrArg some (by kernel_rfl))⟩
 f14:=⟨Tryz.f138.name,by decide,Tryz.func138.trans (congrArg some (by kernel_rfl))⟩
 f15:=Tryz.func139.trans (congrArg some (by kernel_rfl))
 f20:=⟨Tryz.f156.name,by decide,Tryz.func156.trans (congrArg some (by kernel_rfl))⟩
 f21:=⟨Tryz.f157.name,by decide,Tryz.func157.trans (congrArg some (by kernel_rfl))⟩
 f22:=⟨Tryz.f158.name,by decide,Tryz.func158.trans (congrArg some (by kernel_rfl))⟩
 f23:=⟨Tryz.f159.name,by decide,Tryz.func159.trans (congrArg some (by kernel_rfl))⟩
 f24:=⟨Tryz.f160.name,by decide,Tryz.func160.trans (congrArg some (by kernel_rfl))⟩
 f25:=⟨Tryz.f161.name,by decide,Tryz.func161.trans (congrArg some (by kernel_rfl))⟩
 f26:=⟨Tryz.f162.name,by decide,Tryz.func162.trans (congrArg some (by kernel_rfl))⟩
 f27:=⟨Tryz.f163.name,by decide,Tryz.func163.trans (congrArg some (by kernel_rfl))⟩
 f28:=Tryz.func164.trans (congrArg some (by kernel_rfl))
 f29:=Tryz.func165.trans (congrArg some (by kernel_rfl))
 f46:=⟨Tryz.f181.name,by decide,Tryz.func181.trans (congrArg some (by kernel_rfl))⟩
 f47:=Tryz.func182.trans (congrArg some (by kernel_rfl))
 f48:=Tryz.func183.trans (congrArg some (by kernel_rfl))
 f49:=⟨Tryz.f184.name,by decide,Tryz.func184.trans (congrArg some (by kernel_rfl))⟩
 f50:=⟨Tryz.f185.name,by decide,Tryz.func185.trans (congrArg some (by kernel_rfl))⟩
 f57:=⟨Tryz.f205.name,by decide,Tryz.func205.trans (congrArg some (by kernel_rfl))⟩
 t0:=Tryz.underlying0
 a0:=Tryz.isAgg0
 z0:=Tryz.sizeOf0
 v0:=Tryz.zeroValue0
 t3:=Tryz.underlying3
 a3:=Tryz.isAgg3
 z3:=Tryz.sizeOf3
 v3:=Tryz.zeroValue3
 t4:=Tryz.underlying4
 a4:=Tryz.isAgg4
 z4:=Tryz.sizeOf4
 v4:=Tryz.zeroValue4
 t5:=Tryz.underlying5
 a5:=Tryz.isAgg5
 z5:=Tryz.sizeOf5
 v5:=Tryz.zeroValue5
 t9:=Tryz.underlying9
 a9:=Tryz.isAgg9
 z9:=Tryz.sizeOf9
 v9:=Tryz.zeroValue9
 t22:=Tryz.underlying41
 a22:=Tryz.isAgg41
 z22:=Tryz.sizeOf41
 v22:=Tryz.zeroValue41
 a24:=Tryz.isAgg23
 z24:=Tryz.sizeOf23
 t25:=Tryz.underlying136
 a25:=Tryz.isAgg136
 z25:=Tryz.sizeOf136
 v25:=Tryz.zeroValue136
 t39:=Tryz.underlying179
 a39:=Tryz.isAgg179
 z39:=Tryz.sizeOf179
 v39:=Tryz.zeroValue179
 t45:=Tryz.underlying189
 a45:=Tryz.isAgg189
 z45:=Tryz.sizeOf189
 v45:=Tryz.zeroValue189
 t46:=Tryz.underlying190
 a46:=Tryz.isAgg190
 z46:=Tryz.sizeOf190
 v46:=Tryz.zeroValue190
 t50:=Tryz.underlying141
 a50:=Tryz.isAgg141
 z50:=Tryz.sizeOf141
 v50:=Tryz.zeroValue141
 t53:=Tryz.underlying196
 a53:=Tryz.isAgg196
 z53:=Tryz.sizeOf196
 v53:=Tryz.zeroValue196
 t55:=Tryz.underlying198
 a55:=Tryz.isAgg198
 z55:=Tryz.sizeOf198
 v55:=Tryz.zeroValue198
 t66:=Tryz.underlying212
 a66:=Tryz.isAgg212
 z66:=Tryz.sizeOf212
 v66:=Tryz.zeroValue212
 t70:=Tryz.underlying216
 a70:=Tryz.isAgg216
 z70:=Tryz.sizeOf216
 v70:=Tryz.zeroValue216
 t76:=Tryz.underlying237
 a76:=Tryz.isAgg237
 z76:=Tryz.sizeOf237
 v76:=Tryz.zeroValue237
 t77:=Tryz.underlying103
 a77:=Tryz.isAgg103
 z77:=Tryz.sizeOf103
 v77:=Tryz.zeroValue103 }
end Go.Proofs
set_option maxRecDepth 100000
namespace Go.Proofs.YtflibbceibjddaaGreat
open Abs O1 O2 O3 Go.Shelf Go.RowKit Go.Lib Go.Sort
def WV(S:MS):Type:={ p:List Int × Value // VRel S (AH p.1) p.2/\p.1.length<=1000000000 }
instance (S:MS):Inhabited (WV S):=⟨⟨([],.slice none 0 0),⟨rfl,Nat.one_pos,none,0,[],rfl,⟨Ad _,λ_=>rfl⟩,rfl,λh=>absurd rfl h⟩,A6 _⟩⟩
def encW(S:MS)(p:WV S):Value:=p.val.2
def cfW(S:MS)(p q:WV S):Int:=cmpL p.val.1 q.val.1
theorem ltCW(S:MS)(p q:WV S):ltOf (cfW S) p q=ltW p.val.1 q.val.1:=by
 unfold ltOf cfW;cases h:ltW p.val.1 q.val.1 with
 |true=>exact AO ((z3v _ _).2 h)
 |false=>exact Bb λhh=>by rw[(z3v _ _).1 hh] at h;cases h
theorem YW(a b c:List Int)(h1:ltW a b=false)(h2:ltW b c=false):ltW a c=false:=by
 cases h:ltW a c with
 |false=>rfl
 |true =>
  exfalso;cases hba:ltW b a with
  |true=>have:=IB b a c hba h;rw[h2] at this;cases this
  |false =>
   have e:=IC a b h1 hba;subst e;rw[h2] at h;cases h
theorem swoW(S:MS):SWO (ltOf (cfW S)) where
 irrefl x:=by rw[ltCW];exact GE _
 trans x y z h1 h2:=by rw[ltCW] at *;exact IB _ _ _ h1 h2
 ntrans x y z h1 h2:=by rw[ltCW] at *;exact YW _ _ _ h1 h2
theorem z42:∀{a b:World},a.heap=b.heap->a.tape=b.tape->a.drawn=b.drawn->a.os=b.os->a.output=b.output->a=b
 |⟨_,_,_,_,_⟩,⟨_,_,_,_,_⟩,rfl,rfl,rfl,rfl,rfl=>rfl
theorem Jr{α:Type}[Inhabited α](enc:α->Value)(w:World)(b m:Nat)(d:Array α)(os:Array Obj):w.heap.size<=(sortWorld enc w b 0 m d os).heap.size:=by
 show _<=((w.heap.modify _ _)++os).size;rw[Fo,CF];omega
theorem IG{α:Type}[Inhabited α](enc:α->Value)(w:World)(b m:Nat)(d:Array α)(os:Array Obj){k:Nat}(hk:k<w.heap.size)(hb:b≠k):(sortWorld enc w b 0 m d os).heap[k]? = w.heap[k]? := by
 show ((w.heap.modify _ _)++os)[k]? = _;rw[BC (by rw[CF];exact hk),Dj,Ac hb]
theorem YX(S:MS){H:Az}(hS:SRel S H){blk:Nat}(hni:¬(S.im blk\/S.keep blk))(size:Nat):CmpLays1 Tryz.prog 105 #[] (encW S) (cfW S) blk 0 size S.w:=by
 intro m os dk _ x y;obtain⟨W,hW⟩:∃W,W=sortWorld (encW S) S.w blk 0 m dk os:=⟨_,rfl⟩;rw[<-hW];have hsz:S.w.heap.size<=W.heap.size:=by rw[hW];exact Jr ..
 have hkept:∀b,S.im b->W.heap[b]? = S.w.heap[b]? := λb hb=>by rw[hW];exact IG _ _ _ _ _ _ (hS.im b (.inl hb)) λe=>hni (e ▸ .inl hb)
 have ev1:Evi S { S with w:=W }:=⟨hkept,λ_ h=>h,Ad _,λ_ _=>Ad _,λ_ _ _=>⟨rfl,rfl,rfl⟩⟩
 let S2:MS:=⟨W,S.im,λb=>b<W.heap.size,0,λ_=>0,λ_=>0,λ_=>0,λ_=>0,0⟩
 have down:∀p:WV S,VRel S2 (AH p.val.1) p.val.2:=λp=>by
  have h:=VRel.moni ev1 _ p.property.1;rw[<-Q0 (AH p.val.1)] at h;exact Qy (A:=S2) (B:={ S with w:=W }) (σ:=λg=>g) (m:=0) rfl (λb hb=>hb) (λg hg=>absurd hg (Ba _)) (AH p.val.1) trivial h
 have hS2:SRel S2 Az.nil:=⟨rfl,λg hg=>absurd hg (Ba _),λg _ hg=>absurd hg (Ba _),λb hb=>hb.elim (λh=>AU (hS.im b (.inl h)) hsz) id⟩;refine ((Mp x.val.1 y.val.1 x.property.2 y.property.2).2 S2 [encW S x,encW S y] hS2 ⟨_,_,rfl,down x,_,_,rfl,down y,rfl⟩).mono λe w' hh=>?_;obtain⟨v,S',z,H',rfl,rfl,ev,_,hv,rfl,_⟩:=hh;have hv':v=.int .i64 (cmpL x.val.1 y.val.1):=hv;subst hv';have hsz2:W.heap.size<=S'.w.heap.size:=ev.size;refine⟨rfl,S'.w.drawn-W.drawn,S'.w.heap.extract W.heap.size S'.w.heap.size,z42 ?_ ev.tape.1 ?_ ev.os ev.output⟩
 ·show S'.w.heap=W.heap++_
  refine Array.ext_getElem? λi=>?_;rcases Ak i W.heap.size with hi|hi
  ·rw[BC hi]
   exact ev.kept i (.inr hi)
  ·rw[Array.getElem?_append_right hi,Array.getElem?_extract]
   rcases Ak i S'.w.heap.size with h2|h2
   ·rw[Ae (by omega)];congr 1;omega
   ·rw[Ac (by omega),C1 (by omega)]
 ·show S'.w.drawn=W.drawn+(S'.w.drawn-W.drawn)
  have:=ev.tape.2;have h2:W.drawn<=S'.w.drawn:=this;omega
theorem PU{S:MS}:∀{l:List (List Int)}{vs:List Value},(∀w∈l,w.length<=1000000000)->A9 S (l.map AH) vs->∃pl:List (WV S),pl.map (λp=>p.val.1)=l/\pl.map (encW S)=vs
 |[],vs,_,h=>⟨[],rfl,h.symm⟩
 |x::l,vs,hl,⟨v,r,hv,h1,h2⟩=>by
  obtain⟨pl,a,b⟩:=PU (λw hw=>hl w (by simp[hw])) h2;exact⟨⟨(x,v),h1,hl x (by simp)⟩::pl,by show x::pl.map _=x::l;rw[a],by rw[hv,<-b];rfl⟩
theorem TB{S:MS}(p:WV S):∃a n c,encW S p=.slice a n c:=by
 obtain⟨_,_,a,cap,vs,hv,_⟩:=p.property.1;exact⟨a,_,cap,hv⟩
theorem oneW(S:MS):OneCell (encW S):=λp=>by
 obtain⟨a,n,c,h⟩:=TB p;rw[h];rfl
theorem Xl{S:MS}(p:WV S):(encW S p).cells=#[encW S p]:=by
 obtain⟨a,n,c,h⟩:=TB p;rw[h];rfl
theorem z9y{S:MS}{b:Nat}{cells:Array Value}{T:TypeId}{pl:List (WV S)}(hb:S.w.heap[b]? = some (.cells cells T (0,0)))(hf:Gd cells 1 (pl.map (encW S))):Holds (encW S) S.w b 0 pl.toArray:=by
 intro j hj;have hi:j<pl.length:=by simpa using hj
 have he:(pl.map (encW S))[j]? = some (encW S pl[j]):=by simp[hi]
 obtain⟨_,_,h3⟩:=hf _ _ he;have h4:=h3 0 Nat.one_pos;rw[Nat.mul_one,Nat.add_zero,Xl] at h4;have hg:pl.toArray[j]! = pl[j]:=by simp[hi]
 refine⟨?_,?_⟩
 ·rw[hg]
  simp only[World.cell?,hb,AW,Option.isSome_none,A5,Bm,h4,id];rfl
 ·simp[World.frozen?,hb]
theorem zgc{S:MS}{b n:Nat}{cells:Array Value}{T:TypeId}{d:Array (WV S)}{os:Array Obj}(hb:S.w.heap[b]? = some (.cells cells T (0,0)))(hsz:d.size<=cells.size):
 ∃cells',(sortWorld (encW S) S.w b 0 n d os).heap[b]? = some (.cells cells' T (0,0))/\cells'.size=cells.size/\Gd cells' 1 (d.toList.map (encW S)):=by
 have hlt:b<S.w.heap.size:=(Bg.1 hb).1;refine⟨putCells (encW S) 0 d cells,?_,by simp[putCells],λi v hv=>?_⟩
 ·show ((S.w.heap.modify b _)++os)[b]? = _
  rw[BC (by rw[CF];exact hlt),Dj,Ae rfl,hb];rfl
 ·rw[Do] at hv
  obtain⟨x,hx,rfl⟩:=Ag.1 hv;have hi:i<d.size:=by have:=(AJ.1 hx).1;simpa using this
  refine⟨by rw[Xl];rfl,λc hc=>?_,λj hj=>?_⟩
  ·rw[Xl] at hc
   obtain rfl:c=encW S x:=by simpa using hc
   exact oneW S x
  ·obtain rfl:j=0:=by omega
   have hlt2:i<cells.size:=by omega
   have hd:d[i]! = x:=by
    rw[Ew] at hx;rw[getElem!_pos d i hi];exact (Bg.1 hx).2
   rw[Nat.mul_one,Nat.add_zero,putCells,Ev,D1 hlt2];simp only[Option.map_some,A6,Ek,AW,Nat.sub_zero];rw[Ae hi,hd,Xl];rfl
def Vl(l:List (List Int)):Prop:=l.Pairwise λa b=>ltW b a=false
theorem z43{S:MS}{d:Array (WV S)}(h:SortedIn (ltOf (cfW S)) 0 d.size d):Vl (d.toList.map λp=>p.val.1):=by
 rw[Vl,Fp,C9];intro i j hi hj hij;have hi':i<d.size:=by simpa using hi
 have hj':j<d.size:=by simpa using hj
 have:=h i j (A6 _) hij hj';rw[ltCW,getElem!_pos d j hj',getElem!_pos d i hi'] at this;simpa using this
theorem z44{S:MS}:∀(pl:List (WV S)),A9 S (pl.map λp=>AH p.val.1) (pl.map (encW S))
 |[]=>rfl
 |p::pl=>⟨_,_,rfl,p.property.1,z44 pl⟩
theorem zgd{H:Az}{g ver:Nat}{ex:Bool}{l:List (List Int)}(hg:g<H.n)(hG:H.at_ g=⟨1,ver,ex,l.map AH⟩)(h1:l≠[])(hl:l.length<4611686018427387904)(hw:∀w∈l,w.length<=1000000000):
 B2 Tryz.prog 104 [.ref g ver 0 l.length,.fn 105 []] H λy H'=>y=.tup []/\∃l':List (List Int),l'.Perm l/\Vl l'/\H'=H.set g ⟨1,ver,ex,l'.map AH⟩:=by
 have eg:∀args w,(callFunc 105 args).run Tryz.prog w=.ok (.enter 105 args) w:=enters_of Tryz.func105 (by kernel_rfl) rfl;refine⟨enters_of Tryz.func104 (by kernel_rfl) rfl,λS cargs hS hx=>?_⟩;obtain⟨v1,r1,rfl,⟨_,hgn,_,hv1⟩,v2,r2,rfl,⟨lb,rfl,rfl⟩,rfl⟩:=hx;have hgr:=hS.grp g hg;rw[hG] at hgr;obtain⟨a,cap',rfl,hcase⟩:=hv1 hgr.ver;have hpos:0<l.length:=by cases l;exact absurd rfl h1;simp
 obtain⟨rfl,rfl,hcap⟩:=hcase.resolve_right (λh=>by omega);have hlen:l.length<=S.cap g:=by have:=hgr.len (show 0<1 by decide);simpa using this
 obtain⟨⟨cells,T,vs,b1,b2,b3,b4⟩,hni⟩:=hgr.live (show 0<1 by decide) (by omega);obtain⟨pl,e1,rfl⟩:=PU hw b3;have b2':cells.size=S.cap g * 1:=b2;have hpl:pl.length=l.length:=by rw[<-e1,Bi]
 have hblk:S.place g<S.w.heap.size:=(Bg.1 b1).1;have hcon:=Any.slices_SortFunc Tryz.sortWd (encW S) (oneW S) (cfW S) (swoW S) 105 #[] (S.place g) 0 (S.cap g-0) pl.toArray S.w eg (YX S hS hni _) (z9y b1 b4) hblk (by simp;omega);change Calls Tryz.prog 104 _ _ _ at hcon;rw[BM,hpl] at hcon;rw[EZ];refine hcon.mono λe w' ⟨he,d',n,os,hp,hs,hw'⟩=>?_;subst he hw';obtain⟨q1,q2,q3⟩:=hp;have q1:d'.size=l.length:=by simpa [hpl] using q1
 have hperm:(d'.toList.map λp=>p.val.1).Perm l:=by
  rw[Dt,Dt] at q3;have q4:d'.toList.Perm pl:=by simpa [List.extract,q1,hpl,Ay (show d'.toList.length<=l.length by simp[q1]),Ay (show pl.length<=l.length by omega)] using q3
  rw[<-e1];exact q4.map _
 rw[<-q1] at hs;obtain⟨cells',c1,c2,c3⟩:=zgc (n:=n) (d:=d') (os:=os) b1 (by omega);have hoth:∀b,b≠S.place g->b<S.w.heap.size->(sortWorld (encW S) S.w (S.place g) 0 n d' os).heap[b]? = S.w.heap[b]? := λb hb hlt=>IG _ _ _ _ _ _ hlt (CS hb);have ev1:Evi S { S with w:=sortWorld (encW S) S.w (S.place g) 0 n d' os }:=⟨λb hb=>hoth b (λe=>hni (e ▸ .inl hb)) (hS.im b (.inl hb)),λ_ h=>h,Ad _,λ_ _=>Ad _,λ_ _ _=>⟨rfl,rfl,rfl⟩⟩;have hmm:(d'.toList.map λp=>p.val.1).map AH=d'.toList.map λp=>AH p.val.1:=by rw[C8];rfl
 have hh:=hS.moved hg (by rw[hG];exact (show 0<1 by decide)) (sortWorld (encW S) S.w (S.place g) 0 n d' os) (S.place g) (S.cap g) ⟨1,ver,ex,(d'.toList.map λp=>p.val.1).map AH⟩ rfl ⟨rfl,CW _ _⟩ rfl
  (Jr ..)
  (λb hb hlt=>hoth b (λe=>hb ⟨by omega,e⟩) hlt)
  (.inl ⟨by omega,rfl⟩) (λ_=>⟨cells',T,_,c1,by rw[c2];exact b2',by rw[hmm];exact z44 _,c3⟩) (by simp[q1];exact hlen)
  (λhx=>by have:=hgr.full (show 0<1 by decide) hx;simp at this;simp[q1];exact this) (show 0<1 by decide) (by rw[hgr.ver];exact Ad _) (λ_=>⟨rfl,rfl,by rw[hgr.wid]⟩)
 exact⟨_,_,.tup [],_,rfl,rfl,hh.1,hh.2,⟨[],rfl,rfl⟩,rfl,_,hperm,z43 hs,rfl⟩
set_option maxRecDepth 100000
theorem z9z(l:List (List Int)):B2 Tryz.prog 156 [.ref 0 1 0 0,.int .i64 0,.int .i64 0,.fn 105 []] (Abs.hl [⟨1,1,true,l.map AH⟩]) λy H'=>y=.tup []/\H'=Abs.hl [⟨1,1,true,l.map AH⟩]:=by
 refine Gr (b:=1) FP rfl ?_;unfold DZ;(with_reducible repeat'(first|simp (disch:=omega) only[push_cast,↓zz,seval]|apply Aa|refine sp_ ?_ ?_<;>intro hc<;>push_cast at hc|omega|intro _))
 refine Bw (B5 (λ(_:Unit)=>True) (λ_=>0) (λ_=>[(0,.ref 0 1 0 0),(1,.int .i64 0),(2,.int .i64 0),(3,.fn 105 []),(8,.int .i64 1)])
  (λ_=>[⟨1,1,true,l.map AH⟩]) (λ_ _=>[]) () trivial ?_ ?_)
 ·(with_reducible repeat'(first|simp (disch:=omega) only[push_cast,↓zz,seval]|apply Aa|refine sp_ ?_ ?_<;>intro hc<;>push_cast at hc|omega|intro _))
 rintro _ _;refine W_T ?_;(with_reducible repeat'(first|simp (disch:=omega) only[push_cast,↓zz,seval]|apply Aa|refine sp_ ?_ ?_<;>intro hc<;>push_cast at hc|omega|intro _))
 all_goals trace_state
theorem pdqW0(l:List (List Int)):B2 Tryz.prog 138 [.ref 0 1 0 0,.int .i64 0,.int .i64 0,.int .i64 0,.fn 105 []] (Abs.hl [⟨1,1,true,l.map AH⟩]) λy H'=>y=.tup []/\H'=Abs.hl [⟨1,1,true,l.map AH⟩]:=by
 refine Gr (b:=1) G7 rfl ?_;unfold Fh;(with_reducible repeat'(first|simp (disch:=omega) only[push_cast,↓zz,seval]|apply Aa|refine sp_ ?_ ?_<;>intro hc<;>push_cast at hc|omega|intro _))
 refine Bw (B5 (λ(_:Unit)=>True) (λ_=>0) (λ_=>[(0,.ref 0 1 0 0),(1,.int .i64 0),(2,.int .i64 0),(3,.int .i64 0),(4,.fn 105 []),(10,.bool true),(11,.bool true)])
  (λ_=>[⟨1,1,true,l.map AH⟩]) (λ_ _=>[]) () trivial ?_ ?_)
 ·(with_reducible repeat'(first|simp (disch:=omega) only[push_cast,↓zz,seval]|apply Aa|refine sp_ ?_ ?_<;>intro hc<;>push_cast at hc|omega|intro _))
 rintro _ _;refine W_T ?_;(with_reducible repeat'(first|simp (disch:=omega) only[push_cast,↓zz,seval]|apply Aa|refine sp_ ?_ ?_<;>intro hc<;>push_cast at hc|omega|intro _));refine B2.mono (z9z l) ?_;rintro y H' ⟨rfl,rfl⟩;(with_reducible repeat'(first|simp (disch:=omega) only[push_cast,↓zz,seval]|apply Aa|refine sp_ ?_ ?_<;>intro hc<;>push_cast at hc|omega|intro _))
 all_goals trace_state
theorem zki(l:List (List Int)):B2 Tryz.prog 104 [.ref 0 1 0 0,.fn 105 []] (Abs.hl [⟨1,1,true,l.map AH⟩]) λy H'=>y=.tup []/\H'=Abs.hl [⟨1,1,true,l.map AH⟩]:=by
 refine Gr (b:=1) Gz rfl ?_;unfold Fa;(with_reducible repeat'(first|simp (disch:=omega) only[push_cast,↓zz,seval]|apply Aa|refine sp_ ?_ ?_<;>intro hc<;>push_cast at hc|refine ee z7n ?_|(refine cc z7n ?_;(simp(disch:=omega)only[push_cast,↓zz,seval]);(fail_if_success change False))|omega|intro _));refine B2.mono (pdqW0 l) ?_;rintro y H' ⟨rfl,rfl⟩;(with_reducible repeat'(first|simp (disch:=omega) only[push_cast,↓zz,seval]|apply Aa|refine sp_ ?_ ?_<;>intro hc<;>push_cast at hc|omega|intro _))
 all_goals trace_state
theorem Vm(l:List Int)(hl:l.length<=1000000000000):PC Tryz.prog 103 [AH l] (AH l):=by
 have hp:AD (l.map (AV.int .i32))=true:=AG .i32 _;cases l with
 |nil =>
  refine zj1 ?_ ?_
  ·refine Cg EJ ?_
   unfold Dx;(with_reducible repeat'(first|simp (disch:=omega) only[push_cast,↓zz,seval]|apply Aa|refine sp_ ?_ ?_<;>intro hc<;>push_cast at hc|omega|intro _))
  ·refine Cg EJ ?_
   unfold Dx;(with_reducible repeat'(first|simp (disch:=omega) only[push_cast,↓zz,seval]|apply Aa|refine sp_ ?_ ?_<;>intro hc<;>push_cast at hc|omega|intro _))
 |cons a l =>
  have hne:((a::l).map (AV.int .i32)).isEmpty=false:=rfl;have hm0:¬(a::l)=[]:=by simp
  generalize (a::l)=m at *;refine Cg EJ ?_;unfold Dx;(with_reducible repeat'(first|simp (disch:=omega) only[push_cast,↓zz,seval,hne,hp,hm0]|apply Aa|refine sp_ ?_ ?_<;>intro hc<;>push_cast at hc|omega|intro _))
  all_goals trace_state
theorem z47(l:List (List Int))(hl:l.length<=1000000000)(hw:∀w∈l,w.length<=1000000000):PC Tryz.prog 67 [Iz l] (Iz (Jh l)):=by
 have pW:=C0 l;refine Cg Uv ?_;unfold Nx;(with_reducible repeat'(first|simp (disch:=omega) only[push_cast,↓zz,seval,pW]|apply Aa|refine sp_ ?_ ?_<;>intro hc<;>push_cast at hc|omega|intro _))
 refine Bw (B5 (λ(k:Nat)=>k<=l.length) (λk=>l.length-k)
  (λk=>[(3,.ref 0 1 0 l.length),(9,Iz l),(10,.int .i64 l.length),(11,.int .i64 k)]) (λk=>[⟨1,1,true,(l.take k).map AH++List.replicate (l.length-k) .nilS⟩]) (λenv _=>[Dg 1 (env 3)]) 0 (by simp) ?_ ?_)
 ·(with_reducible repeat'(first|simp (disch:=omega) only[push_cast,↓zz,seval,pW,IF,List.take_zero,A8,List.nil_append,Nat.sub_zero]|apply Aa|refine sp_ ?_ ?_<;>intro hc<;>push_cast at hc|omega|intro _))
 intro k hk;rcases Ak k l.length with hkl|hkl
 ·have hC:=Vm (nth l k) (by have:=hw _ (Bo hkl);omega)
  have lT:((l.take k).map AH++List.replicate (l.length-k) AV.nilS).length=l.length:=by simp;omega
  have sT:((l.take k).map AH++List.replicate (l.length-k) AV.nilS).set k (AH (nth l k))=(l.take (k+1)).map AH++List.replicate (l.length-(k+1)) AV.nilS:=by
   have e1:List.replicate (l.length-k) AV.nilS=AV.nilS::List.replicate (l.length-(k+1)) AV.nilS:=by rw[<-List.replicate_succ];congr 1;omega
   have e2:((l.take k).map AH).length=k:=by simp;omega
   rw[e1,Dm _ _ (by omega),e2,Nat.sub_self,List.set_cons_zero,take_at hkl,Ao,A3];rfl
  have pK:AD ((nth l k).map (AV.int .i32))=true:=AG .i32 _;have pT:∀k,AD ((l.take k).map AH++List.replicate (l.length-k) AV.nilS)=true:=λk=>by rw[Kd,C0 (l.take k),IF];rfl
  generalize hwk:nth l k=w at *;generalize hLk:(l.take k).map AH++List.replicate (l.length-k) AV.nilS=T0 at *;have hp0:=pT k;have hp1:=pT (k+1);rw[hLk] at hp0;generalize hLk1:(l.take (k+1)).map AH++List.replicate (l.length-(k+1)) AV.nilS=T1 at *;refine W_T ?_;(with_reducible repeat'(first|simp (disch:=omega) only[push_cast,↓zz,seval,pW,hwk,lT,sT,pK,hp0]|apply Aa|refine sp_ ?_ ?_<;>intro hc<;>push_cast at hc|refine ee hC ?_|(refine cc hC ?_;(simp(disch:=omega)only[push_cast,↓zz,seval,pW,hwk,lT,sT,pK,hp0]);(fail_if_success change False))|omega|intro _))
  all_goals
   refine⟨k+1,?_⟩;(with_reducible repeat'(first|simp (disch:=omega) only[push_cast,↓zz,seval,pW,hLk1,hp1]|apply Aa|refine sp_ ?_ ?_<;>intro hc<;>push_cast at hc|omega|intro _))
 ·obtain rfl:k=l.length:=by omega
  have e1:(l.take l.length).map AH++List.replicate (l.length-l.length) AV.nilS=l.map AH:=by simp
  rw[e1];refine W_T ?_;(with_reducible repeat'(first|simp (disch:=omega) only[push_cast,↓zz,seval,pW]|apply Aa|refine sp_ ?_ ?_<;>intro hc<;>push_cast at hc|omega|intro _));by_cases h0:l=[]
  ·subst h0
   refine B2.mono (zki []) ?_;rintro y H' ⟨rfl,rfl⟩;have hC:=KH true [] (by simp) (λw hw'=>by cases hw');(with_reducible repeat'(first|simp (disch:=omega) only[push_cast,↓zz,seval]|apply Aa|refine sp_ ?_ ?_<;>intro hc<;>push_cast at hc|omega|intro _));refine B2.mono hC ?_;rintro y H' ⟨rfl,z,pz,rfl⟩;have e0:Cp [] 0=[]:=rfl;have e1:Jh []=[]:=rfl;(with_reducible repeat'(first|simp (disch:=omega) only[push_cast,↓zz,seval,pz,e0,e1,List.length_nil,A8,List.nil_append,List.take_zero]|apply Aa|refine sp_ ?_ ?_<;>intro hc<;>push_cast at hc|omega|intro _))
  have hS:=zgd (H:=Abs.hl [⟨1,1,true,l.map AH⟩]) (g:=0) (ver:=1) (ex:=true) (l:=l) (by show 0<1;omega) rfl h0 (by omega) hw;refine B2.mono hS ?_;rintro y H' ⟨rfl,l',hp,hs,rfl⟩;have hl':l'.length=l.length:=hp.length_eq;have hC:=KH true l' (by omega) λw hw'=>hw w (hp.mem_iff.1 hw');have hsw:=YV hs hp;rw[hl'] at hC hsw;rw[hsw];(with_reducible repeat'(first|simp (disch:=omega) only[push_cast,↓zz,seval]|apply Aa|refine sp_ ?_ ?_<;>intro hc<;>push_cast at hc|omega|intro _));refine B2.mono hC ?_;rintro y H' ⟨rfl,z,pz,rfl⟩;generalize Cp l' l.length=M at *;have pM:=C0 M;have tM:∀z,List.take M.length (M.map AH++z)=M.map AH:=λz=>DO (by simp);(with_reducible repeat'(first|simp (disch:=omega) only[push_cast,↓zz,seval,pz,pM,tM]|apply Aa|refine sp_ ?_ ?_<;>intro hc<;>push_cast at hc|omega|intro _))
  all_goals trace_state
theorem YY(n:Nat)(h0:0<n)(hn:n<=1000000000):B2 Tryz.prog 102 [.nilS,.int .i64 n] (Abs.hl []) λy H'=>y=.ref 0 1 0 0/\H'=Abs.hl [⟨1,1,false,List.replicate n (AV.int .i32 0)⟩]:=by
 refine Gr (b:=0) FX rfl ?_;unfold EX;have e0:((n:Int)-0).toNat=n:=by omega
 (with_reducible repeat'(first|simp (disch:=omega) only[push_cast,↓zz,seval,e0]|apply Aa|refine sp_ ?_ ?_<;>intro hc<;>push_cast at hc|omega|intro _))
 all_goals trace_state
theorem Vn:PC Tryz.prog 102 [.nilS,.int .i64 0] .nilS:=by
 refine Cg FX ?_;unfold EX;(with_reducible repeat'(first|simp (disch:=omega) only[push_cast,↓zz,seval]|apply Aa|refine sp_ ?_ ?_<;>intro hc<;>push_cast at hc|omega|intro _))
 all_goals trace_state
theorem HB(l:List Int):AD (l.map (AV.int .i32))=true:=AG .i32 _
def Gy(ws:List (List Int))(k:Nat):List AV:=(ws.take k).flatten.map (AV.int .i32)++List.replicate (ws.flatten.length-(ws.take k).flatten.length) (AV.int .i32 0)
theorem PV{α:Type}(ws:List (List α)){k:Nat}(h:k<ws.length):(ws.take (k+1)).flatten=(ws.take k).flatten++ws[k]:=by
 rw[List.take_succ_eq_append_getElem h,List.flatten_append];simp only[List.flatten_cons,List.flatten_nil,AB]
theorem Ri{α:Type}(ws:List (List α))(k:Nat):(ws.take k).flatten.length<=ws.flatten.length:=by
 have:ws.flatten=(ws.take k).flatten++(ws.drop k).flatten:=by rw[<-List.flatten_append,Cf]
 rw[this];simp
theorem TC(ws:List (List Int))(hk:ws.length<=1000000000)(h0:0<ws.flatten.length)(hl:ws.flatten.length<=1000000000):PC Tryz.prog 66 [.lst 1 (ws.map AH)] (AH ws.flatten):=by
 have pW:AD (ws.map AH)=true:=BU.2 λx hx=>by
  obtain⟨l,_,rfl⟩:=Au.1 hx;exact HB l
 have aW:∀k,k<ws.length->(ws.map AH).getD k .any=AH (nth ws k):=λk hk=>by simp[nth,List.getD,hk]
 have hG:=YY ws.flatten.length h0 hl;refine Cg FB ?_;unfold E1;(with_reducible repeat'(first|simp (disch:=omega) only[push_cast,↓zz,seval,pW]|apply Aa|refine sp_ ?_ ?_<;>intro hc<;>push_cast at hc|omega|intro _))
 refine Bw (B5 (λ(k:Nat)=>k<=ws.length) (λk=>ws.length-k)
  (λk=>[(0,.lst 1 (ws.map AH)),(3,.int .i64 (ws.take k).flatten.length),(9,.lst 1 (ws.map AH)),(10,.int .i64 ws.length),(11,.int .i64 k)]) (λ_=>[]) (λ_ _=>[]) 0 (by simp) ?_ ?_)
 ·(with_reducible repeat'(first|simp (disch:=omega) only[push_cast,↓zz,seval,pW,List.flatten_nil,List.length_nil]|apply Aa|refine sp_ ?_ ?_<;>intro hc<;>push_cast at hc|omega|intro _))
 intro k hkw;rcases Ak k ws.length with hkl|hkl
 ·have hn:nth ws k=ws[k]:=by simp[nth,hkl]
  have hf:=PV ws hkl;rw[<-hn] at hf;have h1:=Ri ws (k+1);have h2:(ws.take (k+1)).flatten.length=(ws.take k).flatten.length+(nth ws k).length:=by rw[hf];simp
  have aK:=aW k hkl;generalize (ws.take k).flatten.length=m at *;refine W_T ?_;(with_reducible repeat'(first|simp (disch:=omega) only[push_cast,↓zz,seval,pW,aK]|apply Aa|refine sp_ ?_ ?_<;>intro hc<;>push_cast at hc|omega|intro _))
  all_goals
   refine⟨k+1,?_⟩;(with_reducible repeat'(first|simp (disch:=omega) only[push_cast,↓zz,seval,pW,h2]|apply Aa|refine sp_ ?_ ?_<;>intro hc<;>push_cast at hc|omega|intro _))
 ·obtain rfl:k=ws.length:=by omega
  rw[Ay (Ad _)];have hzz:(ws.flatten.length:Int)≠0:=by omega
  refine W_T ?_;(with_reducible repeat'(first|simp (disch:=omega) only[push_cast,↓zz,seval,pW]|apply Aa|refine sp_ ?_ ?_<;>intro hc<;>push_cast at hc|omega|intro _))
  (refine Ch [] (hG) (by decide) (by simp) (by (simp(disch:=omega)only[push_cast,↓zz,seval])) (by (simp(disch:=omega)only[push_cast,↓zz,seval])) (by (simp(disch:=omega)only[push_cast,↓zz,seval])) (by (simp(disch:=omega)only[push_cast,↓zz,seval,Af,Aj,Ar,Aw,AL,As])) ?_)
  rintro y H' ⟨rfl,rfl⟩;refine⟨_,rfl,by simp,?_⟩;(with_reducible repeat'(first|simp (disch:=omega) only[push_cast,↓zz,seval,pW]|apply Aa|refine sp_ ?_ ?_<;>intro hc<;>push_cast at hc|omega|intro _))
  refine Bw (B5 (λ(k:Nat)=>k<=ws.length) (λk=>ws.length-k)
   (λk=>[(6,.ref 0 1 0 (ws.take k).flatten.length),(25,.lst 1 (ws.map AH)),(26,.int .i64 ws.length),(27,.int .i64 k)]) (λk=>[⟨1,1,false,Gy ws k⟩]) (λenv _=>[Dg 1 (env 6)]) 0 (by simp) ?_ ?_)
  ·have r0:Gy ws 0=List.replicate ws.flatten.length (AV.int .i32 0):=by simp[Gy]
   have pZ:∀n,AD (List.replicate n (AV.int .i32 0))=true:=λn=>BU.2 λx hx=>by rw[CL hx];rfl
   (with_reducible repeat'(first|simp (disch:=omega) only[push_cast,↓zz,seval,pW,pZ,r0,List.flatten_nil,List.length_nil]|apply Aa|refine sp_ ?_ ?_<;>intro hc<;>push_cast at hc|omega|intro _))
  intro k hkw
  have pL:∀k,AD (Gy ws k)=true:=λk=>by
   rw[Gy,Kd,HB,AP];exact BU.2 λx hx=>by rw[CL hx];rfl
  have h1:=Ri ws k;have lR:(Gy ws k).length=ws.flatten.length:=by simp only[Gy,Ah,Bi,List.length_replicate];omega
  rcases Ak k ws.length with hkl|hkl
  ·have hn:nth ws k=ws[k]:=by simp[nth,hkl]
   have hf:=PV ws hkl;rw[<-hn] at hf;have h1':=Ri ws (k+1);have h2:(ws.take (k+1)).flatten.length=(ws.take k).flatten.length+(nth ws k).length:=by rw[hf];simp
   have aK:=aW k hkl;have pw:=HB (nth ws k)
   have hR:(Gy ws k).take (ws.take k).flatten.length++(nth ws k).map (AV.int .i32)++(Gy ws k).drop ((ws.take k).flatten.length+(nth ws k).length)=Gy ws (k+1):=by
    have e1:(Gy ws k).take (ws.take k).flatten.length=(ws.take k).flatten.map (AV.int .i32):=by
     rw[Gy];exact DO (by rw[Bi])
    have e2:(Gy ws k).drop ((ws.take k).flatten.length+(nth ws k).length)=List.replicate (ws.flatten.length-(ws.take (k+1)).flatten.length) (AV.int .i32 0):=by
     rw[<-List.drop_drop,Gy,List.drop_left' (by rw[Bi]),List.drop_replicate,h2];congr 1;omega
    rw[e1,e2,Gy,hf,Ao,A3]
   rw[A3] at hR
   have hQ:(Gy ws k).length<=(ws.take k).flatten.length->Gy ws k++(nth ws k).map (AV.int .i32)=Gy ws (k+1):=λh=>by
    have h0:nth ws k=[]:=Av (by omega);rw[Gy,Gy,hf,h0,AB,A8,AB]
   have pT:AD ((Gy ws k).take (ws.take k).flatten.length)=true:=BU.2 λx hx=>BU.1 (pL k) x (B6 hx);have pD:AD ((Gy ws k).drop ((ws.take k).flatten.length+(nth ws k).length))=true:=BU.2 λx hx=>BU.1 (pL k) x (BB hx);have hpk:=pL k;have hpk1:=pL (k+1);generalize (ws.take k).flatten.length=m at *;generalize hRk:Gy ws k=R at *;generalize hRk1:Gy ws (k+1)=R1 at *;refine W_T ?_;(with_reducible repeat'(first|simp (disch:=omega) only[push_cast,↓zz,seval,pW,aK,pw,hpk]|apply Aa|refine sp_ ?_ ?_<;>intro hc<;>push_cast at hc|omega|intro _))
   all_goals
    refine⟨k+1,?_⟩;(with_reducible repeat'(first|simp (disch:=omega) only[push_cast,↓zz,seval,pW,h2,hRk1,hpk1,pw,hpk,pT,pD,hR,hQ]|apply Aa|refine sp_ ?_ ?_<;>intro hc<;>push_cast at hc|omega|intro _))
  ·obtain rfl:k=ws.length:=by omega
   have rE:Gy ws ws.length=ws.flatten.map (AV.int .i32):=by simp[Gy]
   rw[rE,AA] at *;refine W_T ?_;(with_reducible repeat'(first|simp (disch:=omega) only[push_cast,↓zz,seval,pW,HB]|apply Aa|refine sp_ ?_ ?_<;>intro hc<;>push_cast at hc|omega|intro _))
   all_goals trace_state
theorem Rj(ws:List (List Int))(hk:ws.length<=1000000000)(h0:ws.flatten.length=0):PC Tryz.prog 66 [.lst 1 (ws.map AH)] (AH ws.flatten):=by
 have pW:AD (ws.map AH)=true:=BU.2 λx hx=>by
  obtain⟨l,_,rfl⟩:=Au.1 hx;exact HB l
 have hE:ws.flatten=[]:=Av h0
 have aW:∀k,k<ws.length->(ws.map AH).getD k .any=.lst 1 []:=λk hk=>by
  have:ws[k]=[]:=by
   have:=List.flatten_eq_nil_iff.1 hE _ (BS hk);exact this
  simp[List.getD,hk,this,AH]
 have hG:=Vn;rw[hE];refine Cg FB ?_;unfold E1;(with_reducible repeat'(first|simp (disch:=omega) only[push_cast,↓zz,seval,pW]|apply Aa|refine sp_ ?_ ?_<;>intro hc<;>push_cast at hc|omega|intro _))
 refine Bw (B5 (λ(k:Nat)=>k<=ws.length) (λk=>ws.length-k)
  (λk=>[(0,.lst 1 (ws.map AH)),(3,.int .i64 0),(9,.lst 1 (ws.map AH)),(10,.int .i64 ws.length),(11,.int .i64 k)]) (λ_=>[]) (λ_ _=>[]) 0 (by simp) ?_ ?_)
 ·(with_reducible repeat'(first|simp (disch:=omega) only[push_cast,↓zz,seval,pW]|apply Aa|refine sp_ ?_ ?_<;>intro hc<;>push_cast at hc|omega|intro _))
 intro k hkw;rcases Ak k ws.length with hkl|hkl
 ·have aK:=aW k hkl
  refine W_T ?_;(with_reducible repeat'(first|simp (disch:=omega) only[push_cast,↓zz,seval,pW,aK]|apply Aa|refine sp_ ?_ ?_<;>intro hc<;>push_cast at hc|omega|intro _))
  all_goals
   refine⟨k+1,?_⟩;(with_reducible repeat'(first|simp (disch:=omega) only[push_cast,↓zz,seval,pW]|apply Aa|refine sp_ ?_ ?_<;>intro hc<;>push_cast at hc|omega|intro _))
 ·obtain rfl:k=ws.length:=by omega
  refine W_T ?_;(with_reducible repeat'(first|simp (disch:=omega) only[push_cast,↓zz,seval,pW]|apply Aa|refine sp_ ?_ ?_<;>intro hc<;>push_cast at hc|refine ee hG ?_|(refine cc hG ?_;(simp(disch:=omega)only[push_cast,↓zz,seval,pW]);(fail_if_success change False))|omega|intro _))
  refine Bw (B5 (λ(k:Nat)=>k<=ws.length) (λk=>ws.length-k)
   (λk=>[(6,.ref 0 1 0 0),(25,.lst 1 (ws.map AH)),(26,.int .i64 ws.length),(27,.int .i64 k)]) (λk=>[⟨1,1,false,[]⟩]) (λenv _=>[Dg 1 (env 6)]) 0 (by simp) ?_ ?_)
  ·(with_reducible repeat'(first|simp (disch:=omega) only[push_cast,↓zz,seval,pW]|apply Aa|refine sp_ ?_ ?_<;>intro hc<;>push_cast at hc|omega|intro _))
  intro k hkw;rcases Ak k ws.length with hkl|hkl
  ·have aK:=aW k hkl
   refine W_T ?_;(with_reducible repeat'(first|simp (disch:=omega) only[push_cast,↓zz,seval,pW,aK]|apply Aa|refine sp_ ?_ ?_<;>intro hc<;>push_cast at hc|omega|intro _))
   all_goals
    refine⟨k+1,?_⟩;(with_reducible repeat'(first|simp (disch:=omega) only[push_cast,↓zz,seval,pW]|apply Aa|refine sp_ ?_ ?_<;>intro hc<;>push_cast at hc|omega|intro _))
  ·obtain rfl:k=ws.length:=by omega
   refine W_T ?_;(with_reducible repeat'(first|simp (disch:=omega) only[push_cast,↓zz,seval,pW]|apply Aa|refine sp_ ?_ ?_<;>intro hc<;>push_cast at hc|omega|intro _))
   all_goals trace_state
theorem Rk(a b:List Int)(hl:a.length+b.length<=1000000000):PC Tryz.prog 66 [.lst 1 [AH a,AH b]] (AH (a++b)):=by
 have e:[a,b].flatten=a++b:=by simp
 have el:[a,b].flatten.length=a.length+b.length:=by rw[e,Ah]
 rw[<-e];rcases Nat.eq_zero_or_pos [a,b].flatten.length with h|h
 ·exact Rj [a,b] (by simp) h
 ·exact TC [a,b] (by simp) h (by omega)
set_option maxRecDepth 100000
structure za0(d:Desc)(x:List Int)(n:Nat):Prop where
 st:d.states=n
 n1:n<=1024
 start:0<=d.start/\d.start<n
 rl:d.rules.length<=4096
 fl:d.finals.length<=4096
 xl:x.length<=1024
 x32:∀v∈x,-2147483648<=v/\v<=2147483647
 goes:Goes d n
 ff:∀f∈d.finals,0<=f.from_/\f.from_<n
 rb:∀r∈d.rules,(r.guards.length<=1000000/\∀g∈r.guards,g.length<=1000000)/\(r.out.length<=64/\∀t∈r.out,t.parts.length<=1000000)/\0<=r.eat/\r.eat<=1000000
 fb:∀f∈d.finals,(f.guards.length<=1000000/\∀g∈f.guards,g.length<=1000000)/\(f.out.length<=64/\∀t∈f.out,t.parts.length<=1000000)
 cyc:¬cycP d.rules n
def setT(n m:Nat)(S:Nat->Nat->List (List Int)):List AV:=(List.range m).map λp=>Iz (S (p / n) (p % n))
section
variable {n m a t:Nat}{S:Nat->Nat->List (List Int)}
theorem Xm:(setT n m S).length=m:=by simp[setT]
theorem Ov:AD (setT n m S)=true:=BU.2 λx hx=>by
 obtain⟨i,_,rfl⟩:=Au.1 hx;exact C0 _
theorem z48{z:AV}(ht:t<n)(hp:a * n+t<m):(setT n m S).getD (a * n+t) z=Iz (S a t):=by
 rw[setT,CK hp,KF ht,KG ht]
theorem za1{v:List (List Int)}(ht:t<n)(hp:a * n+t<m):(setT n m S).set (a * n+t) (Iz v)=setT n m (setP S a t v):=by
 rw[setT,Es hp,setT];refine AS λp _=>?_;simp only[setP];by_cases e:p=a * n+t
 ·subst e;rw[Ae rfl,KF ht,KG ht,Ae ⟨rfl,rfl⟩]
 ·rw[Ac e,Ac λh=>e (Xc ht h)]
theorem z49{l:List Grp}:leSL l (List.replicate m .nilS) (setT n m λ_ _=>[]):=by
 have key:∀(f:Nat->Nat)(q:List Nat),leSL l (List.replicate q.length .nilS) (q.map λ_=>Iz []):=λ_ q=>by
  induction q with
  |nil=>exact rfl
  |cons a q ih=>exact⟨⟨Nat.one_pos,rfl⟩,ih⟩
 have:=key id (List.range m)
 rwa [CH] at this
end
def outH(d:Desc)(R:AV)(mo n m:Nat)(S:Nat->Nat->List (List Int))(many:Bool):List Grp:=[⟨6,1,true,[E8 d]⟩,⟨1,1,true,[.int .i64 mo]⟩,⟨1,1,true,[R]⟩,⟨1,1,true,setT n m S⟩,⟨1,1,true,[.ref 3 1 0 m]⟩,⟨1,1,true,[.bool many]⟩]
theorem Ow{d:Desc}{R:AV}(hR:R.pure=true){mo n m:Nat}{S:Nat->Nat->List (List Int)}{many:Bool}:∀G∈outH d R mo n m S many,ltL 6 G.xs:=λG hG=>by
 simp only[outH,Af,Aj,Ar] at hG;rcases hG with rfl|rfl|rfl|rfl|rfl|rfl
 ·exact CM _ _ (by simp[AD,H8])
 ·exact⟨trivial,trivial⟩
 ·exact CM _ _ (by simp[AD,hR])
 ·exact CM _ _ Ov
 ·exact⟨(show 3<6 by omega),trivial⟩
 ·exact⟨trivial,trivial⟩
theorem Xn{d:Desc}{x:List Int}{S:Nat->Nat->List (List Int)}{at_ s B:Nat}(hB:∀r∈d.rules,r.from_=(s:Nat)->goB x r.guards at_=true->(S (at_+r.eat.toNat) r.to_.toNat).length<=B):∀k,k<=(ruI d.rules s).length->(rulW d x S at_ s k).length<=k * B
 |0,_=>by simp[rulW]
 |k+1,hk=>by
  have ih:=Xn hB k (by omega);obtain⟨i1,i2⟩:=Hl.1 (Bo (show k<(ruI d.rules s).length by omega));have e:(k+1) * B=k * B+B:=Nat.succ_mul k B;cases hg:goB x (nth d.rules (nth (ruI d.rules s) k)).guards at_ with
  |true =>
   rw[Xj (by omega) rfl hg,Ah,Bi];have:=hB _ (Bo i1) i2 hg;omega
  |false =>
   rw[z40 (by omega) rfl hg];omega
def putW(d:Desc)(x:List Int)(S:Nat->Nat->List (List Int))(at_ s k:Nat):List (List Int):=finW d x at_ s (fiI d.finals s).length++rulW d x S at_ s k
def putQ(A:List (List Int))(h:List Int)(W:List (List Int))(q:Nat):List (List Int):=A++(W.take q).map (h++·)
theorem z4a{A:List (List Int)}{h:List Int}{W:List (List Int)}:putQ A h W 0=A:=by simp[putQ]
theorem z4b{A:List (List Int)}{h:List Int}{W:List (List Int)}{q:Nat}(hq:q<W.length):putQ A h W (q+1)=putQ A h W q++[h++nth W q]:=by
 rw[putQ,putQ,take_at hq,Ao,A3];rfl
theorem za2{A:List (List Int)}{h:List Int}{W:List (List Int)}{q:Nat}:(putQ A h W q).length<=A.length+W.length:=by
 simp[putQ];omega
theorem za3{d:Desc}{x:List Int}{n:Nat}{ord:List Nat}{L:Nat->Nat->Bool}{mo a j:Nat}{S:Nat->Nat->List (List Int)}(hI:OutI d x L ord mo a j S false)(hl:LivE d x n L)(hg:Goes d n)(ht:Topo d.rules n ord)(hj:j<n)(ha:a<=x.length)(hlv:L a (nth ord j)=true)
 {r:Rule} (hr:r∈d.rules) (hf:r.from_=(nth ord j:Nat)) (hgo:goB x r.guards a=true):S (a+r.eat.toNat) r.to_.toNat=outW d x (a+r.eat.toNat) (r.to_.toNat:Nat)/\(S (a+r.eat.toNat) r.to_.toNat).length<=mo/\L (a+r.eat.toNat) r.to_.toNat=true/\a+r.eat.toNat<=x.length/\r.to_.toNat<n:=by
 obtain⟨_,htt,e1,e2⟩:=hg.r r hr;have hle:=Jq hgo;have hlt:=hl.clos _ _ hlv r hr hf hgo;have h1:=hI.no rfl (a+r.eat.toNat) r.to_.toNat (by omega) hlt (Vh hg ht hj hr hf);exact⟨h1.1,h1.2,hlt,by omega,by omega⟩
theorem z4c(d:Desc)(x:List Int){n:Nat}(hk:za0 d x n){ord:List Nat}{L:Nat->Nat->Bool}(ht:Topo d.rules n ord)(hl:LivE d x n L)(mo:Nat)(hmo:mo<=9223372036854775807)(hB:Nat.min mo (outW d x 0 d.start).length<=200000)
 (a j:Nat) (S:Nat->Nat->List (List Int)) (many:Bool) (ha:a<=x.length) (hj:j<n) (hI:OutI d x L ord mo a j S many) (hlv:L a (nth ord j)=true) :
 B2 Tryz.prog 62 [.int .i64 a,.int .i64 (nth ord j:Nat),.ptr 5 1 0 0,.ptr 2 1 0 0,.ptr 0 1 0 0,.ptr 4 1 0 0,.ptr 1 1 0 0]
  (Abs.hl (outH d (DW d x (ruV d.rules n) (fiV d.finals n) (.lst 1 (ord.map e1)) (.lst 1 (lvB n ((x.length+1) * n) L))) mo n ((x.length+1) * n) S many)) λy H'=>y=.tup []/\∃(s':(Nat->Nat->List (List Int)) × Bool),
   H'=Abs.hl (outH d (DW d x (ruV d.rules n) (fiV d.finals n) (.lst 1 (ord.map e1)) (.lst 1 (lvB n ((x.length+1) * n) L))) mo n ((x.length+1) * n) s'.1 s'.2)/\OutI d x L ord mo a (j+1) s'.1 s'.2:=by
 have pR:=Ca d.rules;have pFi:=Cn d.finals;have pX:AD (x.map (AV.int .i32))=true:=AG .i32 _;have pO:AD (ord.map e1)=true:=Et (λ_=>rfl) _;have pL:AD (lvB n ((x.length+1) * n) L)=true:=MC;have pRU:AD (fD 1 e1 n (ruI d.rules))=true:=FN λ_=>rfl;have pFI:AD (fD 1 e1 n (fiI d.finals))=true:=FN λ_=>rfl;have lRU:(fD 1 e1 n (ruI d.rules)).length=n:=WW;have lFI:(fD 1 e1 n (fiI d.finals)).length=n:=WW;have hdn:=hk.st;have hn:=hk.n1;have hx:=hk.xl;have hol:=ED ht;have htn:nth ord j<n:=(ht.all _).1 (Bo (by omega));have hgoes:=hk.goes;have hmx:(x.length+1) * n<=1025 * 1024:=Cs (by omega) hn;have hpm:=GA htn ha;unfold ruV fiV;refine DJ (G3 Nw (W_T ?_));unfold I1;cases many with
 |true =>
  generalize fD 1 e1 n (ruI d.rules)=RU at *;generalize fD 1 e1 n (fiI d.finals)=FI at *;unfold outH;(with_reducible repeat'(first|simp (disch:=omega) only[push_cast,↓zz,seval]|apply Aa|refine sp_ ?_ ?_<;>intro hc<;>push_cast at hc|omega|intro _))
  all_goals exact⟨_,_,Ent.refl,rfl,(S,true),rfl,z3o hI _ _⟩
 |false =>
  have hto:=λr hr hf hgo=>za3 hI hl hgoes ht hj ha hlv (r:=r) hr hf hgo
  have hSB:∀r∈d.rules,r.from_=(nth ord j:Nat)->goB x r.guards a=true->(S (a+r.eat.toNat) r.to_.toNat).length<=200000:=λr hr hf hgo=>by
   obtain⟨h1,h2,h3,h4,h5⟩:=hto r hr hf hgo;have h6:=z9p hl hgoes ht hk.start h3;rw[<-h1] at h6;exact AZ (Nat.le_min.2 ⟨h2,h6⟩) hB
  have hwl:∀r∈d.rules,r.from_=(nth ord j:Nat)->goB x r.guards a=true->∀w∈S (a+r.eat.toNat) r.to_.toNat,w.length<=100000000:=λr hr hf hgo w hw=>by
   obtain⟨h1,h2,h3,h4,h5⟩:=hto r hr hf hgo;rw[h1] at hw;exact Xd hgoes ht ⟨λr hr=>(hk.rb r hr).2.1.1,λf hf=>(hk.fb f hf).2.1⟩ hn hx h4 h5 (((On hgoes ht h4 h5).2 w).1 hw)
  have hMeq:=zg9 hI hl hgoes ht hj ha hlv;rw[<-z41] at hMeq;have hnext:=z3q hI hl hgoes ht hj ha hlv (M:=Jh (allW d x S a (nth ord j))) hMeq;have hRL:=Xn (d:=d) (x:=x) (S:=S) (at_:=a) (s:=nth ord j) hSB;have aR:(fD 1 e1 n (ruI d.rules)).getD (nth ord j) .any=.lst 1 ((ruI d.rules (nth ord j)).map e1):=z9a htn;have aR2:(fD 1 e1 n (ruI d.rules))[nth ord j]? = some (.lst 1 ((ruI d.rules (nth ord j)).map e1)):=WX htn;have aF:(fD 1 e1 n (fiI d.finals)).getD (nth ord j) .any=.lst 1 ((fiI d.finals (nth ord j)).map e1):=z9a htn;have aF2:(fD 1 e1 n (fiI d.finals))[nth ord j]? = some (.lst 1 ((fiI d.finals (nth ord j)).map e1)):=WX htn;have pRI:AD ((ruI d.rules (nth ord j)).map e1)=true:=Et (λ_=>rfl) _;have pFJ:AD ((fiI d.finals (nth ord j)).map e1)=true:=Et (λ_=>rfl) _;have hrI:=Vb d.rules (nth ord j);have hfI:=zga d.finals (nth ord j);have hrl:=hk.rl;have hfl:=hk.fl;have pST:AD (setT n ((x.length+1) * n) S)=true:=Ov;have lST:(setT n ((x.length+1) * n) S).length=(x.length+1) * n:=Xm;have aST:∀b t,b<=x.length->t<n->(setT n ((x.length+1) * n) S).getD (b * n+t) .any=Iz (S b t):=λb t hb htn=>z48 htn (GA htn hb);have sST:=λv=>za1 (v:=v) (S:=S) htn hpm;have pl:∀b t,b<=x.length->t<n->b * n+t<(x.length+1) * n:=λb t hb htn=>GA htn hb;generalize hRUe:fD 1 e1 n (ruI d.rules)=RU at *;generalize hFIe:fD 1 e1 n (fiI d.finals)=FI at *;generalize hme:(x.length+1) * n=m at *;generalize hLVe:lvB n m L=LV at *;generalize hODe:ord.map e1=OD at *;have hEnds:=λ(f:Hq) (hf:f∈d.finals)=>z93 d x (.lst 1 RU) (.lst 1 FI) (.lst 1 OD) (.lst 1 LV) f a pRU pFI pO pL (by omega) hk.x32 (hk.fb f hf).1.2 (hk.fb f hf).1.1 (by omega);have hWf:=λ(f:Hq) (hf:f∈d.finals) (hgo:goB x f.guards a=true)=>PL d x (.lst 1 RU) (.lst 1 FI) (.lst 1 OD) (.lst 1 LV) f.out a f.guards.length pRU pFI pO pL (by omega) hk.x32 (by have:=(hk.fb f hf).2.1;omega) (hk.fb f hf).2.2 (by have:=Jq hgo;omega);have hFits:=λ(r:Rule) (hr:r∈d.rules)=>Rb d x (.lst 1 RU) (.lst 1 FI) (.lst 1 OD) (.lst 1 LV) r.guards a pRU pFI pO pL (by omega) hk.x32 (hk.rb r hr).1.2 (hk.rb r hr).1.1 (by omega);have hWr:=λ(r:Rule) (hr:r∈d.rules) (hgo:goB x r.guards a=true)=>PL d x (.lst 1 RU) (.lst 1 FI) (.lst 1 OD) (.lst 1 LV) r.out a r.guards.length pRU pFI pO pL (by omega) hk.x32 (by have:=(hk.rb r hr).2.1.1;omega) (hk.rb r hr).2.1.2 (by have:=Jq hgo;omega);have pRn:(DW d x (.lst 1 RU) (.lst 1 FI) (.lst 1 OD) (.lst 1 LV)).pure=true:=by simp[AV.pure,AD,pR,pFi,pX,pO,pL,pRU,pFI]
  have hcl:=λS many=>Ow (d:=d) (R:=DW d x (.lst 1 RU) (.lst 1 FI) (.lst 1 OD) (.lst 1 LV)) pRn (mo:=mo) (n:=n) (m:=m) (S:=S) (many:=many);generalize nth ord j=s at *;obtain⟨F,hF⟩:∃F,F=finW d x a s (fiI d.finals s).length:=⟨_,rfl⟩;have hFlen:F.length<=4096:=by rw[hF];have:=Xk (d:=d) (x:=x) (at_:=a) (s:=s) (k:=(fiI d.finals s).length);omega
  unfold outH;generalize hSTe:setT n m S=ST at *;(with_reducible repeat'(first|simp (disch:=omega) only[push_cast,↓zz,seval,pR,pFi,pX,pO,pL,pRU,pFI,aF,aF2,lFI,pST,lST]|apply Aa|refine sp_ ?_ ?_<;>intro hc<;>push_cast at hc|omega|intro _))
  refine Bw (B5 (λ(k:Nat)=>k<=(fiI d.finals s).length) (λk=>(fiI d.finals s).length-k)
   (λk=>[(0,.int .i64 a),(1,.int .i64 s),(2,.ptr 5 1 0 0),(3,.ptr 2 1 0 0),(4,.ptr 0 1 0 0),(5,.ptr 4 1 0 0),(6,.ptr 1 1 0 0),(9,.ref 6 1 0 (finW d x a s k).length),(26,.lst 1 ((fiI d.finals s).map e1)),(27,.int .i64 (fiI d.finals s).length),(28,.int .i64 k)])
   (λk=>[⟨6,1,true,[E8 d]⟩,⟨1,1,true,[.int .i64 mo]⟩,⟨1,1,true,[DW d x (.lst 1 RU) (.lst 1 FI) (.lst 1 OD) (.lst 1 LV)]⟩,⟨1,1,true,ST⟩,⟨1,1,true,[.ref 3 1 0 m]⟩,⟨1,1,true,[.bool false]⟩,⟨1,1,false,(finW d x a s k).map AH⟩]) (λenv _=>[Dg 1 (env 9)]) 0 (A6 _) ?_ ?_)
  ·(with_reducible repeat'(first|simp (disch:=omega) only[push_cast,↓zz,seval,pR,pFi,pX,pO,pL,pRU,pFI,pST,pFJ,z3y,List.length_nil,A8]|apply Aa|refine sp_ ?_ ?_<;>intro hc<;>push_cast at hc|omega|intro _))
  intro k hkk;rcases Ak k (fiI d.finals s).length with hkl|hkl
  ·obtain⟨i,hi⟩:∃i,i=nth (fiI d.finals s) k:=⟨_,rfl⟩
   have him:i∈fiI d.finals s:=by rw[hi];exact Bo hkl
   obtain⟨i1,i2⟩:=Vk.1 him;have aI:((fiI d.finals s).map e1).getD k .any=.int .i64 i:=by rw[hi];simp[nth,List.getD,hkl]
   have hE:=hEnds _ (Bo i1);have hW:=hWf _ (Bo i1);have hyes:=λf hf h=>z9u (d:=d) (x:=x) (at_:=a) (s:=s) hkl (f:=f) hf h;have hno:=λf hf h=>zgb (d:=d) (x:=x) (at_:=a) (s:=s) hkl (f:=f) hf h;rw[<-hi] at hyes hno;have hyes:=hyes _ rfl;have hno:=hno _ rfl;have hlen:=Xk (d:=d) (x:=x) (at_:=a) (s:=s) (k:=k);generalize hfe:nth d.finals i=f at *;have hgr:=Cc f.guards;have hot:=CI f.out;generalize finW d x a s k=A at *;have pA:=C0 A;cases hb:(decide (f.guards.length+a=x.length)&&goB x f.guards a) with
   |true =>
    rw[hb] at hE;have hyes:=hyes hb;have hgo:goB x f.guards a=true:=by simp only[Ab] at hb;exact hb.2
    have hW:=hW hgo;have pw:AD ((FR x f.out f.guards a).map (AV.int .i32))=true:=AG .i32 _;rw[show FY f.out ((x.drop a).take f.guards.length)=FR x f.out f.guards a from rfl] at hW;generalize FR x f.out f.guards a=w at *;refine W_T ?_;(with_reducible repeat'(first|simp (disch:=omega) only[push_cast,↓zz,seval,pR,pFi,pX,pO,pL,pRU,pFI,pST,pFJ,aI,hfe,hgr,hot,pA,pw]|apply Aa|refine sp_ ?_ ?_<;>intro hc<;>push_cast at hc|refine ee hE ?_|refine ee hW ?_|((first|refine cc hE ?_|refine cc hW ?_);(simp(disch:=omega)only[push_cast,↓zz,seval,pR,pFi,pX,pO,pL,pRU,pFI,pST,pFJ,aI,hfe,hgr,hot,pA,pw]);(fail_if_success change False))|omega|intro _))
    all_goals
     refine⟨k+1,?_⟩;(with_reducible repeat'(first|simp (disch:=omega) only[push_cast,↓zz,seval,pR,pFi,pX,pO,pL,pRU,pFI,pST,pFJ,hyes,pA,pw]|apply Aa|refine sp_ ?_ ?_<;>intro hc<;>push_cast at hc|omega|intro _))
   |false =>
    rw[hb] at hE;have hno:=hno hb;refine W_T ?_;(with_reducible repeat'(first|simp (disch:=omega) only[push_cast,↓zz,seval,pR,pFi,pX,pO,pL,pRU,pFI,pST,pFJ,aI,hfe,hgr,hot,pA]|apply Aa|refine sp_ ?_ ?_<;>intro hc<;>push_cast at hc|refine ee hE ?_|(refine cc hE ?_;(simp(disch:=omega)only[push_cast,↓zz,seval,pR,pFi,pX,pO,pL,pRU,pFI,pST,pFJ,aI,hfe,hgr,hot,pA]);(fail_if_success change False))|omega|intro _))
    all_goals
     refine⟨k+1,?_⟩;(with_reducible repeat'(first|simp (disch:=omega) only[push_cast,↓zz,seval,pR,pFi,pX,pO,pL,pRU,pFI,pST,pFJ,hno,pA]|apply Aa|refine sp_ ?_ ?_<;>intro hc<;>push_cast at hc|omega|intro _))
  obtain rfl:k=(fiI d.finals s).length:=by omega
  rw[<-hF];have pF:=C0 F;have hP0:putW d x S a s 0=F:=by rw[putW,z3z,AB,hF]
  refine W_T ?_;(with_reducible repeat'(first|simp (disch:=omega) only[push_cast,↓zz,seval,pR,pFi,pX,pO,pL,pRU,pFI,pST,pFJ,aR,aR2,lRU,pF]|apply Aa|refine sp_ ?_ ?_<;>intro hc<;>push_cast at hc|omega|intro _))
  refine Bw (B5 (λ(k:Nat)=>k<=(ruI d.rules s).length) (λk=>(ruI d.rules s).length-k)
   (λk=>[(0,.int .i64 a),(1,.int .i64 s),(2,.ptr 5 1 0 0),(3,.ptr 2 1 0 0),(4,.ptr 0 1 0 0),(5,.ptr 4 1 0 0),(6,.ptr 1 1 0 0),(9,.ref 6 1 0 (putW d x S a s k).length),(59,.lst 1 ((ruI d.rules s).map e1)),(60,.int .i64 (ruI d.rules s).length),(61,.int .i64 k)])
   (λk=>[⟨6,1,true,[E8 d]⟩,⟨1,1,true,[.int .i64 mo]⟩,⟨1,1,true,[DW d x (.lst 1 RU) (.lst 1 FI) (.lst 1 OD) (.lst 1 LV)]⟩,⟨1,1,true,ST⟩,⟨1,1,true,[.ref 3 1 0 m]⟩,⟨1,1,true,[.bool false]⟩,⟨1,1,false,(putW d x S a s k).map AH⟩]) (λenv _=>[Dg 1 (env 9)]) 0 (A6 _) ?_ ?_)
  ·(with_reducible repeat'(first|simp (disch:=omega) only[push_cast,↓zz,seval,pR,pFi,pX,pO,pL,pRU,pFI,pST,pRI,pF,hP0]|apply Aa|refine sp_ ?_ ?_<;>intro hc<;>push_cast at hc|omega|intro _))
  intro k hkk;have hRk:=hRL k hkk
  have hlk:(putW d x S a s k).length<=900000000:=by
   rw[putW,Ah,<-hF];have:k * 200000<=4096 * 200000:=AT _ (by omega);omega
  rcases Ak k (ruI d.rules s).length with hkl|hkl
  ·obtain⟨i,hi⟩:∃i,i=nth (ruI d.rules s) k:=⟨_,rfl⟩
   have him:i∈ruI d.rules s:=by rw[hi];exact Bo hkl
   obtain⟨i1,i2⟩:=Hl.1 him;have aI:((ruI d.rules s).map e1).getD k .any=.int .i64 i:=by rw[hi];simp[nth,List.getD,hkl]
   have hr:=Bo i1;have hE:=hFits _ hr;have hW:=hWr _ hr;have hyes:=λr hf h=>Xj (d:=d) (x:=x) (S:=S) (at_:=a) (s:=s) hkl (r:=r) hf h;have hno:=λr hf h=>z40 (d:=d) (x:=x) (S:=S) (at_:=a) (s:=s) hkl (r:=r) hf h;rw[<-hi] at hyes hno;have hyes:=hyes _ rfl;have hno:=hno _ rfl;have hto:=hto _ hr i2;have hSB:=hSB _ hr i2;have hwl:=hwl _ hr i2;obtain⟨_,htt,e1',e2'⟩:=hgoes.r _ hr;have heb:=(hk.rb _ hr).2.2;have hol:=(hk.rb _ hr).2.1.1;generalize hre:nth d.rules i=r at *;have hgr:=Cc r.guards;have hot:=CI r.out;obtain⟨e,he⟩:∃e:Nat,r.eat=e:=⟨r.eat.toNat,by omega⟩;obtain⟨t,htq⟩:∃t:Nat,r.to_=t:=⟨r.to_.toNat,by omega⟩;have het:r.eat.toNat=e:=by omega
   have htt2:r.to_.toNat=t:=by omega
   rw[het,htt2] at hyes hto hSB hwl;generalize hAe:putW d x S a s k=A at *;have pA:=C0 A;cases hb:goB x r.guards a with
   |false =>
    rw[hb] at hE;have hno:putW d x S a s (k+1)=A:=by rw[putW,hno hb];exact hAe
    refine W_T ?_;(with_reducible repeat'(first|simp (disch:=omega) only[push_cast,↓zz,seval,pR,pFi,pX,pO,pL,pRU,pFI,pST,pRI,aI,hre,hgr,hot,pA]|apply Aa|refine sp_ ?_ ?_<;>intro hc<;>push_cast at hc|refine ee hE ?_|(refine cc hE ?_;(simp(disch:=omega)only[push_cast,↓zz,seval,pR,pFi,pX,pO,pL,pRU,pFI,pST,pRI,aI,hre,hgr,hot,pA]);(fail_if_success change False))|omega|intro _))
    all_goals
     refine⟨k+1,?_⟩;(with_reducible repeat'(first|simp (disch:=omega) only[push_cast,↓zz,seval,pR,pFi,pX,pO,pL,pRU,pFI,pST,pRI,hno,pA]|apply Aa|refine sp_ ?_ ?_<;>intro hc<;>push_cast at hc|omega|intro _))
   |true =>
    rw[hb] at hE;have hyes:=hyes hb;have hW:=hW hb;obtain⟨h1,h2,h3,h4,h5⟩:=hto hb;have hSB:=hSB hb;have hwl:=hwl hb;have hle:=Jq hb;have pw:AD ((FR x r.out r.guards a).map (AV.int .i32))=true:=AG .i32 _;have hhl:(FR x r.out r.guards a).length<=64:=by simp[FR,FY];omega
    rw[show FY r.out ((x.drop a).take r.guards.length)=FR x r.out r.guards a from rfl] at hW;have hAn:putW d x S a s (k+1)=putQ A (FR x r.out r.guards a) (S (a+e) t) (S (a+e) t).length:=by rw[putW,hyes,<-A3,putQ,AA,<-hAe];rfl
    have aT:=aST (a+e) t h4 h5;have hpl:=pl (a+e) t h4 h5;have hae:(a:Int)+(e:Int)=((a+e:Nat):Int):=by norm_cast
    have hmul:((a+e:Nat):Int) * (n:Int)=(((a+e) * n:Nat):Int):=by norm_cast
    have hmulb:(a+e) * n<=1024 * 1024:=Cs (by omega) hn;generalize FR x r.out r.guards a=h at *;generalize S (a+e) t=Wd at *;generalize hpe:(a+e) * n+t=p at *;generalize (a+e) * n=an at *;have hpi:(an:Int)+(t:Int)=(p:Int):=by omega
    generalize hbe:a+e=b at *;have pWd:=C0 Wd;refine W_T ?_;(with_reducible repeat'(first|simp (disch:=omega) only[push_cast,↓zz,seval,pR,pFi,pX,pO,pL,pRU,pFI,pST,lST,pRI,aI,hre,hgr,hot,pA,pw,he,htq,hae,hdn,hmul,hpi,aT,pWd]|apply Aa|refine sp_ ?_ ?_<;>intro hc<;>push_cast at hc|refine ee hE ?_|refine ee hW ?_|((first|refine cc hE ?_|refine cc hW ?_);(simp(disch:=omega)only[push_cast,↓zz,seval,pR,pFi,pX,pO,pL,pRU,pFI,pST,lST,pRI,aI,hre,hgr,hot,pA,pw,he,htq,hae,hdn,hmul,hpi,aT,pWd]);(fail_if_success change False))|omega|intro _))
    refine Bw (B5 (λ(q:Nat)=>q<=Wd.length) (λq=>Wd.length-q)
     (λq=>[(0,.int .i64 a),(1,.int .i64 s),(2,.ptr 5 1 0 0),(3,.ptr 2 1 0 0),(4,.ptr 0 1 0 0),(5,.ptr 4 1 0 0),(6,.ptr 1 1 0 0),(9,.ref 6 1 0 (putQ A h Wd q).length),(16,AH h),(59,.lst 1 ((ruI d.rules s).map e1)),(60,.int .i64 (ruI d.rules s).length),(61,.int .i64 k),(96,Iz Wd),(97,.int .i64 Wd.length),(98,.int .i64 q)])
     (λq=>[⟨6,1,true,[E8 d]⟩,⟨1,1,true,[.int .i64 mo]⟩,⟨1,1,true,[DW d x (.lst 1 RU) (.lst 1 FI) (.lst 1 OD) (.lst 1 LV)]⟩,⟨1,1,true,ST⟩,⟨1,1,true,[.ref 3 1 0 m]⟩,⟨1,1,true,[.bool false]⟩,⟨1,1,false,(putQ A h Wd q).map AH⟩]) (λenv _=>[Dg 1 (env 9)]) 0 (A6 _) ?_ ?_)
    ·(with_reducible repeat'(first|simp (disch:=omega) only[push_cast,↓zz,seval,pR,pFi,pX,pO,pL,pRU,pFI,pST,pRI,pA,pw,pWd,z4a]|apply Aa|refine sp_ ?_ ?_<;>intro hc<;>push_cast at hc|omega|intro _))
    intro q hq;have hAq:(putQ A h Wd q).length<=901000000:=by have:=za2 (A:=A) (h:=h) (W:=Wd) (q:=q);omega
    rcases Ak q Wd.length with hql|hql
    ·have hC:=Rk h (nth Wd q) (by have:=hwl _ (Bo hql);omega)
     have hnx:=z4b (A:=A) (h:=h) hql;have pv:AD ((h++nth Wd q).map (AV.int .i32))=true:=AG .i32 _;have pv2:AD ((nth Wd q).map (AV.int .i32))=true:=AG .i32 _;generalize hwe:nth Wd q=w at *;generalize hAqe:putQ A h Wd q=A2 at *;have pA2:=C0 A2;generalize hve:h++w=v at *;refine W_T ?_;(with_reducible repeat'(first|simp (disch:=omega) only[push_cast,↓zz,seval,pR,pFi,pX,pO,pL,pRU,pFI,pST,pRI,pA2,pw,pWd,hwe,pv,pv2]|apply Aa|refine sp_ ?_ ?_<;>intro hc<;>push_cast at hc|refine ee hC ?_|(refine cc hC ?_;(simp(disch:=omega)only[push_cast,↓zz,seval,pR,pFi,pX,pO,pL,pRU,pFI,pST,pRI,pA2,pw,pWd,hwe,pv,pv2]);(fail_if_success change False))|omega|intro _))
     all_goals
      refine⟨q+1,?_⟩;(with_reducible repeat'(first|simp (disch:=omega) only[push_cast,↓zz,seval,pR,pFi,pX,pO,pL,pRU,pFI,pST,pRI,pA2,pw,pWd,hnx,pv]|apply Aa|refine sp_ ?_ ?_<;>intro hc<;>push_cast at hc|omega|intro _))
    ·obtain rfl:q=Wd.length:=by omega
     rw[<-hAn] at *;have pA3:=C0 (putW d x S a s (k+1));refine W_T ?_;(with_reducible repeat'(first|simp (disch:=omega) only[push_cast,↓zz,seval,pR,pFi,pX,pO,pL,pRU,pFI,pST,pRI,pA3,pw,pWd]|apply Aa|refine sp_ ?_ ?_<;>intro hc<;>push_cast at hc|omega|intro _))
     all_goals
      refine⟨k+1,?_⟩;(with_reducible repeat'(first|simp (disch:=omega) only[push_cast,↓zz,seval,pR,pFi,pX,pO,pL,pRU,pFI,pST,pRI,pA3]|apply Aa|refine sp_ ?_ ?_<;>intro hc<;>push_cast at hc|omega|intro _))
  ·obtain rfl:k=(ruI d.rules s).length:=by omega
   have hall:putW d x S a s (ruI d.rules s).length=allW d x S a s:=rfl;have hlk:(allW d x S a s).length<=900000000:=hlk;rw[hall]
   have hSo:=z47 (allW d x S a s) (by omega) (λw hw=>by
    have h1:w∈outW d x a (s:Nat):=by rw[<-hMeq,ID];exact hw
    have h2:w.length<=100000000:=Xd hgoes ht ⟨λr hr=>(hk.rb r hr).2.1.1,λf hf=>(hk.fb f hf).2.1⟩ hn hx ha htn (((On hgoes ht ha htn).2 w).1 h1)
    exact AZ h2 (by decide))
   have hML:=Tt (allW d x S a s);have pA:=C0 (allW d x S a s);generalize allW d x S a s=A at *;generalize Jh A=M at *;have pM:=C0 M;have hmul:(a:Int) * (n:Int)=((a * n:Nat):Int):=by norm_cast
   have hmulb:a * n<=1024 * 1024:=Cs (by omega) hn;have sM:=sST M;generalize hpe:a * n+s=p at *;generalize a * n=an at *;have hpi:(an:Int)+(s:Int)=(p:Int):=by omega
   have hdec:decide ((mo:Int)<(M.length:Int))=decide (mo<M.length):=BE.2 (by omega);refine W_T ?_;(with_reducible repeat'(first|simp (disch:=omega) only[push_cast,↓zz,seval,pR,pFi,pX,pO,pL,pRU,pFI,pST,lST,pA,pM,hdn,hmul,hpi,sM]|apply Aa|refine sp_ ?_ ?_<;>intro hc<;>push_cast at hc|refine ee hSo ?_|(refine cc hSo ?_;(simp(disch:=omega)only[push_cast,↓zz,seval,pR,pFi,pX,pO,pL,pRU,pFI,pST,lST,pA,pM,hdn,hmul,hpi,sM]);(fail_if_success change False))|omega|intro _));rw[hdec];exact⟨_,_,Hc (l0:=outH d (DW d x (.lst 1 RU) (.lst 1 FI) (.lst 1 OD) (.lst 1 LV)) mo n m (setP S a s M) (decide (mo<M.length))) (gar:=[⟨0,2,false,[]⟩]) rfl (Ad _) (hcl _ _) trivial,rfl,(setP S a s M,decide (mo<M.length)),rfl,hnext⟩
theorem Vo{P:Program}{f:Nat}{xs:List AV}{l l':List Grp}{K:AV->Az->Prop}(h:B2 P f xs (Abs.hl l') K)(hle:Ho l l l'):B2 P f xs (Abs.hl l) K:=⟨h.1,λS cargs hS hx=>h.2 S cargs (Hp hS hle) hx⟩
noncomputable def outA (d:Desc) (x:List Int) (mo:Nat):AV:=if (outW d x 0 d.start).length<=mo then .tup [Iz (outW d x 0 d.start),.int .i64 0] else .tup [.nilS,.int .i64 5]
theorem za4{d:Desc}{x:List Int}{n:Nat}(hk:za0 d x n):B2 Tryz.prog 60 [E8 d,AH x] (Abs.hl []) λy H'=>H'=Abs.hl []/\∃ord L,y=DW d x (ruV d.rules n) (fiV d.finals n) (.lst 1 (ord.map e1)) (.lst 1 (lvB n ((x.length+1) * n) L))/\Topo d.rules n ord/\LivE d x n L :=
 z3u d x hk.st hk.n1 hk.rl hk.fl hk.start hk.goes hk.cyc hk.ff hk.xl hk.x32 λr hr=>⟨(hk.rb r hr).1,(hk.rb r hr).2.2⟩
theorem Vp(d:Desc)(x:List Int){n:Nat}(hk:za0 d x n)(hq:PC Tryz.prog 59 [E8 d,AH x] (.int .i64 0))(mo:Nat)(h1:1<=mo)(hmo:mo<=9223372036854775807)(hB:Nat.min mo (outW d x 0 d.start).length<=200000):
 PC Tryz.prog 23 [E8 d,AH x,.int .i64 mo] (outA d x mo):=by
 have pR:=Ca d.rules;have pFi:=Cn d.finals;have pX:AD (x.map (AV.int .i32))=true:=AG .i32 _;have hBe:=za4 hk;have hdn:=hk.st;refine Cg HO ?_;unfold G6;(with_reducible repeat'(first|simp (disch:=omega) only[push_cast,↓zz,seval,pR,pFi,pX]|apply Aa|refine sp_ ?_ ?_<;>intro hc<;>push_cast at hc|refine ee hq ?_|(refine cc hq ?_;(simp(disch:=omega)only[push_cast,↓zz,seval,pR,pFi,pX]);(fail_if_success change False))|omega|intro _))
 (refine Ch [] (hBe) (by decide) (by simp) (by (simp(disch:=omega)only[push_cast,↓zz,seval])) (by (simp(disch:=omega)only[push_cast,↓zz,seval])) (by (simp(disch:=omega)only[push_cast,↓zz,seval])) (by (simp(disch:=omega)only[push_cast,↓zz,seval,Af,Aj,Ar,Aw,AL,As])) ?_)
 rintro y H' ⟨rfl,ord,L,rfl,ht,hl⟩;refine⟨_,rfl,by simp,?_⟩;have hmx:(x.length+1) * n<=1025 * 1024:=Cs (by have:=hk.xl;omega) hk.n1;have pO:AD (ord.map e1)=true:=Et (λ_=>rfl) _;have pL:AD (lvB n ((x.length+1) * n) L)=true:=MC;have lL:(lvB n ((x.length+1) * n) L).length=(x.length+1) * n:=JM;have pRU:AD (fD 1 e1 n (ruI d.rules))=true:=FN λ_=>rfl;have pFI:AD (fD 1 e1 n (fiI d.finals))=true:=FN λ_=>rfl;have pRn:(DW d x (ruV d.rules n) (fiV d.finals n) (.lst 1 (ord.map e1)) (.lst 1 (lvB n ((x.length+1) * n) L))).pure=true:=by simp[AV.pure,AD,pR,pFi,pX,pO,pL,pRU,pFI,ruV,fiV]
 have hbk:=z9x (σ:=(Nat->Nat->List (List Int)) × Bool) d x (ruV d.rules n) (fiV d.finals n) pRU pFI hdn hk.n1 hk.xl ht (L:=L) 62 [.ptr 5 1 0 0,.ptr 2 1 0 0,.ptr 0 1 0 0,.ptr 4 1 0 0,.ptr 1 1 0 0] 6
  (λs=>outH d (DW d x (ruV d.rules n) (fiV d.finals n) (.lst 1 (ord.map e1)) (.lst 1 (lvB n ((x.length+1) * n) L))) mo n ((x.length+1) * n) s.1 s.2) (λ_=>rfl) (λ_=>Ow pRn) ⟨(show 5<6 by omega),(show 2<6 by omega),(show 0<6 by omega),(show 4<6 by omega),(show 1<6 by omega),trivial⟩
  (λa j s=>OutI d x L ord mo a j s.1 s.2) ((λ_ _=>[]),false) (z3n (ED ht)) (λa j s ha hj hI hlv=>z4c d x hk ht hl mo hmo hB a j s.1 s.2 ha hj hI hlv)
  (λa j s ha hj hI hlv=>z3p hI (by rw[ED ht];exact hj) hlv) (λa s ha hI=>z9n hI hl ht)
 generalize hm:(x.length+1) * n=m at *;(with_reducible repeat'(first|simp (disch:=omega) only[push_cast,↓zz,seval,pR,pFi,pX,lL]|apply Aa|refine sp_ ?_ ?_<;>intro hc<;>push_cast at hc|omega|intro _));refine Vo (B2.mono hbk ?_) ?_
 rotate_left
 ·unfold outH
  refine⟨⟨rfl,rfl,id,Br _ _⟩,⟨rfl,rfl,id,Br _ _⟩,⟨rfl,rfl,id,Br _ _⟩,⟨rfl,rfl,id,z49 (n:=n)⟩,⟨rfl,rfl,id,Br _ _⟩,⟨rfl,rfl,id,Br _ _⟩,trivial⟩
 rintro y H' ⟨rfl,⟨S,many⟩,rfl,hI⟩;simp only at hI ⊢;obtain⟨g1,g2⟩:=z9o hI hl hk.goes ht hk.start;unfold outH;have hst:=hk.start;obtain⟨s0,hs0⟩:∃s0:Nat,d.start=s0:=⟨d.start.toNat,by omega⟩;have hsn:s0<n:=by omega
 have hsm:0 * n+s0<m:=by rw[<-hm];exact GA hsn (A6 _)
 have aS:(setT n m S).getD s0 .any=Iz (S 0 s0):=by
  have:=z48 (S:=S) (z:=.any) hsn hsm
  rwa [EZ,AW] at this
 have lS:(setT n m S).length=m:=Xm;have pS:AD (setT n m S)=true:=Ov;have hsm2:s0<m:=by omega
 unfold outA;cases many with
 |true =>
  rw[Ac (by have:=of_decide_eq_true g1.symm;omega)];(with_reducible repeat'(first|simp (disch:=omega) only[push_cast,↓zz,seval]|apply Aa|refine sp_ ?_ ?_<;>intro hc<;>push_cast at hc|omega|intro _))
 |false =>
  have g2:=g2 rfl;rw[Ae (by have:=of_decide_eq_false g1.symm;omega),<-g2,show d.start.toNat=s0 by omega];have pW:=C0 (S 0 s0);(with_reducible repeat'(first|simp (disch:=omega) only[push_cast,↓zz,seval,hs0,aS,lS,pS,pW]|apply Aa|refine sp_ ?_ ?_<;>intro hc<;>push_cast at hc|omega|intro _))
  all_goals trace_state
def zkj(l:List Bool)(k:Nat):List Int:=((List.range k).filter λi=>nth l i).map λi:Nat=>(i:Int)
noncomputable def zkk (d:Desc):List Int:=zkj (comeL d) d.states.toNat
noncomputable def goesI (d:Desc):List Int:=zkj (goL d) d.states.toNat
noncomputable def za5 (d:Desc) (i:Nat):Bool:=WI (fwdE d) [d.start] i&&WI (bwdE d) (endE d) i
def cntB(u:Nat->Bool)(k:Nat):Nat:=((List.range k).filter u).length
def numB(u:Nat->Bool)(i:Nat):Int:=if u i=true then (cntB u i:Int) else -1
def keepR(u:Nat->Bool)(l:List Rule):List Rule:=(l.filter λr=>u r.from_.toNat&&u r.to_.toNat).map λr=>⟨numB u r.from_.toNat,numB u r.to_.toNat,r.guards,r.eat,r.out⟩
def keepF(u:Nat->Bool)(l:List Hq):List Hq:=(l.filter λf=>u f.from_.toNat).map λf=>⟨numB u f.from_.toNat,f.guards,f.out⟩
noncomputable def trimV (d:Desc):Desc :=
 if WI (bwdE d) (endE d) d.start.toNat=false then zka d.in_ d.out
 else ⟨d.in_,d.out,cntB (za5 d) d.states.toNat,numB (za5 d) d.start.toNat,keepR (za5 d) d.rules,keepF (za5 d) d.finals⟩
theorem KI(u:Nat->Bool)(k:Nat):cntB u (k+1)=if u k=true then cntB u k+1 else cntB u k:=by
 simp only[cntB,FF,C6,Ah,Cb,List.filter_nil];split<;>simp_all
section
variable {d:Desc}
end
structure Trimmed(c:Desc):Prop where
 check:Gw c=0
 again:trimV c=c
 all:((zkk c).length=c.states.toNat/\(goesI c).length=c.states.toNat)\/(c.states=1/\c.rules=[]/\c.finals=[])
set_option maxRecDepth 100000
set_option maxRecDepth 100000
set_option maxRecDepth 100000
section
variable {α β:Type}[Inhabited α]
variable {W:Nat->List α}{g:Nat->α->List β}
end
structure WayOk(n:Nat)(w:Int × List Term):Prop where
 e:0<=w.1/\w.1<n
 l:w.2.length<=70000
 p:∀t∈w.2,t.parts.length<=4
set_option maxRecDepth 100000
abbrev pathV(p:List Nat):AV:=.lst 1 (p.map e1)
def resV:Option (List Nat)->AV
 |some x=>pathV x
 |none=>.nilS
set_option maxRecDepth 100000
theorem TD{u v:Nat->Bool}:∀{n:Nat},(∀i,i<n->u i=v i)->cntB u n=cntB v n
 |0,_=>rfl
 |n+1,h=>by rw[KI,KI,h n (by omega),TD λi hi=>h i (by omega)]
theorem Xo{on:Nat->Bool}{s:Nat}(ho:on s=false):∀{n:Nat},s<n->cntB (setB on s) n=cntB on n+1
 |n+1,h=>by
  rw[KI,KI];by_cases hs:s=n
  ·subst hs
   rw[Ae (by simp[setB]),Ac (by simp[ho]),TD (u:=setB on s) (v:=on) λi hi=>by simp[setB];omega]
  ·have:=Xo ho (n:=n) (by omega)
   have e:setB on s n=on n:=by simp[setB];omega
   rw[e];split<;>omega
structure RInv(n:Nat)(F:List Int)(E:List (Int × Int))(on:Nat->Bool):Prop where
 sound:∀i:Nat,on i=true->Reach E F i
 base:∀s∈F,on s.toNat=true
theorem RInv.set{n:Nat}{F:List Int}{E:List (Int × Int)}{on:Nat->Bool}(h:RInv n F E on){x y:Nat}(hx:on x=true)(he:((x:Int),(y:Int))∈E):RInv n F E (setB on y) where
 sound i hi:=by
  unfold setB at hi;split at hi
  ·rename_i e;subst e;exact .step (h.sound x hx) he
  ·exact h.sound i hi
 base s hs:=by
  unfold setB;split
  ·rfl
  ·exact h.base s hs
structure RIn(n:Nat)(F:List Int)(E:List (Int × Int))(on0 on:Nat->Bool)(more:Bool)(i:Nat):Prop where
 inv:RInv n F E on
 no:more=false->on=on0/\∀j,j<i->on (nth E j).1.toNat=true->on (nth E j).2.toNat=true
 yes:more=true->cntB on0 n<cntB on n
theorem RIn.start{n:Nat}{F:List Int}{E:List (Int × Int)}{on:Nat->Bool}(h:RInv n F E on):RIn n F E on on false 0 :=
 ⟨h,λ_=>⟨rfl,λj hj=>absurd hj (Ba j)⟩,λh=>by cases h⟩
theorem RIn.skip{n i:Nat}{F:List Int}{E:List (Int × Int)}{on0 on:Nat->Bool}{more:Bool}(h:RIn n F E on0 on more i){x y:Nat}(he:nth E i=((x:Int),(y:Int)))(hs:on x=true->on y=true):RIn n F E on0 on more (i+1):=by
 refine⟨h.inv,λhm=>⟨(h.no hm).1,λj hj=>?_⟩,h.yes⟩;by_cases e:j=i
 ·subst e;rw[he];simpa using hs
 ·exact (h.no hm).2 j (by omega)
theorem RIn.take{n i:Nat}{F:List Int}{E:List (Int × Int)}{on0 on:Nat->Bool}{more:Bool}(h:RIn n F E on0 on more i){x y:Nat}(he:((x:Int),(y:Int))∈E)(hx:on x=true)(hy:on y=false)(hyn:y<n):RIn n F E on0 (setB on y) true (i+1):=by
 refine⟨h.inv.set hx he,λhm=>(by cases hm),λ_=>?_⟩;have h1:=Xo hy hyn;cases more with
 |true=>have:=h.yes rfl;omega
 |false=>have:=(h.no rfl).1;subst this;omega
theorem RIn.done{n:Nat}{F:List Int}{E:List (Int × Int)}{on0 on:Nat->Bool}(h:RIn n F E on0 on false E.length):∀e∈E,on e.1.toNat=true->on e.2.toNat=true:=λe he=>by
 obtain⟨j,hj,rfl⟩:=B0 he;have:=(h.no rfl).2 j hj;have e:nth E j=E[j]:=by simp[nth,List.getD,hj]
 rwa [e] at this
set_option maxRecDepth 100000
theorem zkl{d:Desc}(h:Gw d=0):¬cycP d.rules d.states.toNat:=λhc=>by
 obtain⟨h1,h2,h3⟩:=Jb h
 have h0:(Hb d).1=0:=by
  unfold Gw at h;split at h
  ·assumption
  ·omega
 rw[Hb,Ac (by simp[h1]),KB h2] at h0;simp only at h0;rw[KB h3] at h0;simp only at h0;rw[Ae hc] at h0;simp at h0
theorem wf_n{d:Desc}(h:Gw d=0):∃n:Nat,d.states=n/\1<=n/\n<=1024/\¬cycP d.rules n/\∀r∈d.rules,(0<=r.from_/\r.from_<n)/\0<=r.to_/\r.to_<n:=by
 have hw:=zft h;obtain⟨n,hn,h1,h2⟩:=hw.n;refine⟨n,hn,h1,h2,?_,λr hr=>by have:=hw.r r hr;rw[hn] at this;exact this⟩;have:=zkl h
 rwa [hn,Int.toNat_natCast] at this
def conT(x:Int):Term:=⟨0,0,21,0,x,[]⟩
theorem z4d{x:Int}(hx:0<=x/\x<=1114111){w:List Int}(hw:w.all symB=true):EL (conT x) w=some x:=by
 have ho:(conT x).outer=⟨0,0,21,0⟩:=rfl;obtain⟨_,h1,h2⟩:=NJ (p:=⟨0,0,21,0⟩) (x:=x) (by decide) (by omega);have h3:valB ⟨0,0,21,0⟩ x=true:=h1;rw[EL,Ae hw];simp only[conT,sumP];show (if valB (conT x).outer x&&decide (x<=1114111) then some (IntKind.i64.wrap (0+valP (conT x).outer x)) else none)=some x;rw[ho,h1,h2,AO hx.2,Int.zero_add,IntWalk.i64_in _ (by omega)];rfl
theorem za6{gs:List (List Span)}:∀{w:List Int},Win (gs.map symI) w->w.all symB=true:=by
 induction gs with
 |nil=>intro w hw;rw[z2z.1 hw];rfl
 |cons g gs ih =>
  intro w hw;obtain⟨x,r,rfl,h1,h2⟩:=win_cons.1 hw;have hm:=((K6 g).2 x).1 h1;rw[List.all_cons,ih h2,DG,symB];exact AO hm.1
theorem za7{x:Int}{i o:Int}{gs:List (List Span)}(h4:gs.length<=4)(hr:H7 (conT x) i o gs.length=true)(hx:0<=x/\x<=1114111)(ho:E3 o x=true):Ly (conT x) i o gs=true:=by
 refine (Oh h4).2 ⟨hr,λw hw=>?_⟩;rw[fitW,z4d hx (za6 hw)];simp[hx,ho]
set_option maxRecDepth 100000
theorem Xp{d:Desc}{x:List Int}:askV d x=0↔Gw d=0/\x.length<=1024/\x.all (E3 d.in_)=true:=by
 unfold askV;by_cases h:Gw d=0
 ·rw[Ac (by simp[h])]
  by_cases h2:1024<x.length
  ·rw[Ae h2];constructor
   ·intro h;cases h
   ·intro h;omega
  ·rw[Ac h2]
   cases h3:x.all (E3 d.in_) with
   |true=>simp[h];omega
   |false=>simp
 ·rw[Ae h];constructor
  ·intro h;cases h
  ·intro h';exact absurd h'.1 h
theorem za8{s v:Int}(h:E3 s v=true):0<=v/\v<1114112:=by
 simp only[E3,Ai] at h;omega
theorem zge{d:Desc}(h:Gw d=0){n:Nat}(hn:d.states=n):Goes d n:=by
 obtain⟨h1,h2,h3⟩:=Jb h;have hw:=zft h;refine⟨λr hr=>?_⟩;have h4:=h2 r hr;have h5:=hw.r r hr;rw[hn] at h5;simp only[K9,eatB,Ab,AQ,Bc] at h4;obtain⟨_,_,_,⟨h6,h7⟩,_⟩:=h4;refine⟨h5.1,h5.2,by omega,λhe=>?_⟩;simp only[CZ,Bc] at he;omega
theorem za9{d:Desc}{x:List Int}(h:askV d x=0):∃n,za0 d x n:=by
 obtain⟨h1,h2,h3⟩:=Xp.1 h;obtain⟨n,hn,hn1,hn2,hc,hl⟩:=wf_n h1;have hw:=zft h1;have hst:=hw.start;have hff:=hw.f;rw[hn] at hst hff;obtain⟨_,k2,k3⟩:=Jb h1;refine⟨n,hn,hn2,hst,hw.rl,hw.fl,h2,λv hv=>?_,zge h1 hn,hff,λr hr=>?_,λf hf=>?_,hc⟩
 ·have:=za8 (AR.1 h3 v hv);omega
 ·have h4:=k2 r hr
  simp only[K9,eatB,Ab,AQ,Bc] at h4;obtain⟨_,_,h5,⟨h6,h7⟩,h8⟩:=h4;obtain⟨g1,g2⟩:=GZ h5;obtain⟨w1,w2⟩:=Mk h8;exact⟨⟨by omega,λg hg=>by have:=g2 g hg;omega⟩,⟨w1,λt ht=>by have:=w2 t ht;omega⟩,by omega,by omega⟩
 ·have h4:=k3 f hf
  simp only[Ha,Ab] at h4;obtain⟨_,h5,h8⟩:=h4;obtain⟨g1,g2⟩:=GZ h5;obtain⟨w1,w2⟩:=Mk h8;exact⟨⟨by omega,λg hg=>by have:=g2 g hg;omega⟩,w1,λt ht=>by have:=w2 t ht;omega⟩
noncomputable def runA (d:Desc) (x:List Int) (mo:Int):AV:=if askV d x≠0 then .tup [.nilS,.int .i64 (askV d x)] else if mo<1 then .tup [.nilS,.int .i64 1] else outA d x mo.toNat
theorem TE(d:Desc)(x:List Int)(hf:Lz d)(hl:x.length<=9223372036854775807)(h32:∀v∈x,-2147483648<=v/\v<=2147483647)(mo:Int)(hmo:mo<=9223372036854775807)(hB:askV d x=0->Nat.min mo.toNat (outW d x 0 d.start).length<=200000):
 PC Tryz.prog 23 [E8 d,AH x,.int .i64 mo] (runA d x mo):=by
 have hq:=z38 d x hf hl h32;have pR:=Ca d.rules;have pFi:=Cn d.finals;have pX:AD (x.map (AV.int .i32))=true:=AG .i32 _;unfold runA;by_cases h:askV d x=0
 ·rw[Ac (by simp[h])]
  rw[h] at hq;by_cases h1:mo<1
  ·rw[Ae h1]
   refine Cg HO ?_;unfold G6;(with_reducible repeat'(first|simp (disch:=omega) only[push_cast,↓zz,seval,pR,pFi,pX]|apply Aa|refine sp_ ?_ ?_<;>intro hc<;>push_cast at hc|refine ee hq ?_|(refine cc hq ?_;(simp(disch:=omega)only[push_cast,↓zz,seval,pR,pFi,pX]);(fail_if_success change False))|omega|intro _))
  ·rw[Ac h1]
   obtain⟨n,hk⟩:=za9 h;obtain⟨m,rfl⟩:∃m:Nat,mo=m:=⟨mo.toNat,by omega⟩;rw[Int.toNat_natCast] at hB ⊢;exact Vp d x hk hq m (by omega) (by omega) (hB h)
 ·rw[Ae h]
  generalize askV d x=k at *;refine Cg HO ?_;unfold G6;(with_reducible repeat'(first|simp (disch:=omega) only[push_cast,↓zz,seval,pR,pFi,pX,h]|apply Aa|refine sp_ ?_ ?_<;>intro hc<;>push_cast at hc|refine ee hq ?_|(refine cc hq ?_;(simp(disch:=omega)only[push_cast,↓zz,seval,pR,pFi,pX,h]);(fail_if_success change False))|omega|intro _))
  all_goals trace_state
set_option maxRecDepth 100000
set_option maxRecDepth 100000
set_option maxRecDepth 100000
theorem z4e(s:Int)(l:List Int)(hl:l.length<=1000000000000)(h32:∀x∈l,-2147483648<=x/\x<=2147483647):PC Tryz.prog 16 [.int .i64 s,AH l] (.bool (l.all (E3 s))):=by
 have pI:AD (l.map (AV.int .i32))=true:=AG .i32 _;refine Cg Sr ?_;unfold LC;(with_reducible repeat'(first|simp (disch:=omega) only[push_cast,↓zz,seval,pI]|apply Aa|refine sp_ ?_ ?_<;>intro hc<;>push_cast at hc|omega|intro _))
 refine Bw (B5 (λ(k:Nat)=>k<=l.length/\l.all (E3 s)=(l.drop k).all (E3 s)) (λk=>l.length-k)
  (λk=>[(0,.int .i64 s),(1,AH l),(5,.int .i64 k)]) (λ_=>[]) (λ_ _=>[]) 0 (by simp) ?_ ?_)
 ·(with_reducible repeat'(first|simp (disch:=omega) only[push_cast,↓zz,seval,pI]|apply Aa|refine sp_ ?_ ?_<;>intro hc<;>push_cast at hc|omega|intro _))
 rintro k ⟨hk,hr⟩;rcases Ak k l.length with hkl|hkl
 ·have hI:=z91 s (nth l k) (h32 _ (Bo hkl))
  rw[drop_at hkl,List.all_cons] at hr;generalize E3 s (nth l k)=b at *;cases b with
  |true =>
   refine W_T ?_;(with_reducible repeat'(first|simp (disch:=omega) only[push_cast,↓zz,seval,pI]|apply Aa|refine sp_ ?_ ?_<;>intro hc<;>push_cast at hc|refine ee hI ?_|(refine cc hI ?_;(simp(disch:=omega)only[push_cast,↓zz,seval,pI]);(fail_if_success change False))|omega|intro _))
   all_goals
    refine⟨k+1,?_⟩;(with_reducible repeat'(first|simp (disch:=omega) only[push_cast,↓zz,seval]|apply Aa|refine sp_ ?_ ?_<;>intro hc<;>push_cast at hc|omega|intro _));simpa using hr
  |false =>
   refine W_T ?_;(with_reducible repeat'(first|simp (disch:=omega) only[push_cast,↓zz,seval,pI]|apply Aa|refine sp_ ?_ ?_<;>intro hc<;>push_cast at hc|refine ee hI ?_|(refine cc hI ?_;(simp(disch:=omega)only[push_cast,↓zz,seval,pI]);(fail_if_success change False))|omega|intro _))
   all_goals (rw[hr];rfl)
 ·rw[Ax hkl] at hr
  refine W_T ?_;(with_reducible repeat'(first|simp (disch:=omega) only[push_cast,↓zz,seval,pI]|apply Aa|refine sp_ ?_ ?_<;>intro hc<;>push_cast at hc|omega|intro _))
  all_goals (rw[hr];rfl)
set_option maxRecDepth 100000
theorem L3(n:Rec)(hf:Ea n):PC Tryz.prog 28 [recV n] (.bool (okR n 0)):=by
 have hR:=PP n hf 0 (by omega) (by omega);generalize okR n 0=q at *;generalize secR n 0=q2 at *;obtain⟨k,s,b,r,w,l⟩:=n;have ps:=AX s;have pr:AD (r.map (AV.int .i32))=true:=AG .i32 _;have pw:AD (w.map (AV.int .i32))=true:=AG .i32 _;have pl:=BN l;rw[Ck] at *;refine Cg Sv ?_;unfold LG;(with_reducible repeat'(first|simp (disch:=omega) only[push_cast,↓zz,seval,ps,pr,pw,pl]|apply Aa|refine sp_ ?_ ?_<;>intro hc<;>push_cast at hc|refine ee hR ?_|(refine cc hR ?_;(simp(disch:=omega)only[push_cast,↓zz,seval,ps,pr,pw,pl]);(fail_if_success change False))|omega|intro _))
 all_goals trace_state
theorem TF(n:Rec)(hf:Ea n):PC Tryz.prog 29 [recV n] (.bool (okR n 0&&G1 n)):=by
 have hR:=PP n hf 0 (by omega) (by omega);have hS:=zbq (n:=n) (d:=0);cases ho:okR n 0 with
 |false =>
  rw[ho] at hR;rw[Bh];generalize secR n 0=q2 at *;obtain⟨k,s,b,r,w,l⟩:=n;have ps:=AX s;have pr:AD (r.map (AV.int .i32))=true:=AG .i32 _;have pw:AD (w.map (AV.int .i32))=true:=AG .i32 _;have pl:=BN l;rw[Ck] at *;refine Cg Nq ?_;unfold J9;(with_reducible repeat'(first|simp (disch:=omega) only[push_cast,↓zz,seval,ps,pr,pw,pl]|apply Aa|refine sp_ ?_ ?_<;>intro hc<;>push_cast at hc|refine ee hR ?_|(refine cc hR ?_;(simp(disch:=omega)only[push_cast,↓zz,seval,ps,pr,pw,pl]);(fail_if_success change False))|omega|intro _))
 |true =>
  rw[ho,hS ho] at hR;rw[AP];generalize G1 n=q2 at *;obtain⟨k,s,b,r,w,l⟩:=n;have ps:=AX s;have pr:AD (r.map (AV.int .i32))=true:=AG .i32 _;have pw:AD (w.map (AV.int .i32))=true:=AG .i32 _;have pl:=BN l;rw[Ck] at *;refine Cg Nq ?_;unfold J9;(with_reducible repeat'(first|simp (disch:=omega) only[push_cast,↓zz,seval,ps,pr,pw,pl]|apply Aa|refine sp_ ?_ ?_<;>intro hc<;>push_cast at hc|refine ee hR ?_|(refine cc hR ?_;(simp(disch:=omega)only[push_cast,↓zz,seval,ps,pr,pw,pl]);(fail_if_success change False))|omega|intro _))
  all_goals trace_state
mutual
def JN:Rec->Nat
 |.mk _ _ _ r w l=>1+r.length+w.length+JO l
def JO:List Rec->Nat
 |[]=>0
 |n::l=>JN n+JO l
end
theorem PW{l:List Rec}{i:Nat}(hi:i<l.length):JO (l.drop i)=JN (nth l i)+JO (l.drop (i+1)):=by rw[drop_at hi,JO]
def If(n:Rec):Nat:=Nat.min (JN n) 1048576
theorem z4f(n:Rec):Ea n->PC Tryz.prog 30 [recV n] (.int .i64 (If n:Nat)):=by
 refine Rec.ind (P:=λn=>Ea n->PC Tryz.prog 30 [recV n] (.int .i64 (If n:Nat))) ?_ n;intro k s b r w l ih hf;cases hf with
 |mk hs hr hw hl hch =>
 have ps:=AX s;have pr:AD (r.map (AV.int .i32))=true:=AG .i32 _;have pw:AD (w.map (AV.int .i32))=true:=AG .i32 _;have pl:=BN l;have hr1:=hr.1;have hw1:=hw.1;have e0:If (.mk k s b r w l)=Nat.min (1+r.length+w.length+JO l) 1048576:=by rw[If,JN]
 rw[Ck];generalize If (.mk k s b r w l)=z at *;refine Cg Ur ?_;unfold Nr;(with_reducible repeat'(first|simp (disch:=omega) only[push_cast,↓zz,seval,ps,pr,pw,pl]|apply Aa|refine sp_ ?_ ?_<;>intro hc<;>push_cast at hc|omega|intro _))
 refine Bw (B5 (λ(q:Nat × Nat)=>q.1<=l.length/\q.2<=4000000/\z=Nat.min (q.2+JO (l.drop q.1)) 1048576) (λq=>l.length-q.1)
  (λq=>[(3,.int .i64 q.2),(15,.lst 6 (l.map recV)),(16,.int .i64 l.length),(17,.int .i64 q.1)]) (λ_=>[]) (λ_ _=>[]) (0,1+r.length+w.length) ⟨by simp,by simp only;omega,by simpa using e0⟩ ?_ ?_)
 ·(with_reducible repeat'(first|simp (disch:=omega) only[push_cast,↓zz,seval,ps,pr,pw,pl]|apply Aa|refine sp_ ?_ ?_<;>intro hc<;>push_cast at hc|omega|intro _))
 rintro⟨i,t⟩ ⟨hi,ht,hz⟩;simp only at hi ht hz;rcases Ak i l.length with hil|hil
 ·have hm:=ih _ (Bo hil) (hch _ (Bo hil))
  rw[PW hil] at hz;have hzn:1048576<=t->z=1048576:=λh=>by rw[hz];exact Nat.min_eq_right (by omega)
  have hz2:z=Nat.min (t+If (nth l i)+JO (l.drop (i+1))) 1048576:=by
   rw[hz,If];rcases Nat.le_total (JN (nth l i)) 1048576 with h|h
   ·rw[show Nat.min (JN (nth l i)) 1048576=JN (nth l i) from BI h,AY]
   ·rw[show Nat.min (JN (nth l i)) 1048576=1048576 from Nat.min_eq_right h,show Nat.min (t+(JN (nth l i)+JO (l.drop (i+1)))) 1048576=1048576 from Nat.min_eq_right (by omega)]
    exact (Nat.min_eq_right (by omega)).symm
  have hcl:If (nth l i)<=1048576:=Nat.min_le_right _ _;clear hz;generalize hne:nth l i=n1 at *;generalize If n1=c at *;obtain⟨k',s',b',r',w',l'⟩:=n1;have ps':=AX s';have pr':AD (r'.map (AV.int .i32))=true:=AG .i32 _;have pw':AD (w'.map (AV.int .i32))=true:=AG .i32 _;have pl':=BN l';rw[Ck] at hm;have hrm:=Ck k' s' b' r' w' l';refine W_T ?_;(with_reducible repeat'(first|simp (disch:=omega) only[push_cast,↓zz,seval,ps,pr,pw,pl,ps',pr',pw',pl',hne,hrm]|apply Aa|refine sp_ ?_ ?_<;>intro hc<;>push_cast at hc|refine ee hm ?_|(refine cc hm ?_;(simp(disch:=omega)only[push_cast,↓zz,seval,ps,pr,pw,pl,ps',pr',pw',pl',hne,hrm]);(fail_if_success change False))|omega|intro _))
  all_goals first
   |(refine⟨(i+1,t+c),?_⟩
     (with_reducible repeat'(first|simp (disch:=omega) only[push_cast,↓zz,seval,ps,pr,pw,pl]|apply Aa|refine sp_ ?_ ?_<;>intro hc<;>push_cast at hc|omega|intro _))
     all_goals first|exact hz2|omega
     done)
   |(have:=hzn (by omega);subst this;(repeat'(first|(simp(disch:=omega)only[push_cast,↓zz,seval,DC])|omega|(with_reducible refine Aa ?_ ?_)));done)
   |trace_state
 ·obtain rfl:i=l.length:=by omega
  rw[List.drop_length,JO,Nat.add_zero] at hz
  have h2:z<=t/\z<=1048576/\(z=t\/z=1048576):=by
   rw[hz];rcases Nat.le_total t 1048576 with h|h
   ·rw[show Nat.min t 1048576=t from BI h];omega
   ·rw[show Nat.min t 1048576=1048576 from Nat.min_eq_right h];omega
  clear hz e0;refine W_T ?_;(with_reducible repeat'(first|simp (disch:=omega) only[push_cast,↓zz,seval,ps,pr,pw,pl]|apply Aa|refine sp_ ?_ ?_<;>intro hc<;>push_cast at hc|omega|intro _))
  all_goals first|omega|trace_state
set_option maxRecDepth 100000
theorem zgf(g:List Span)(hl:g.length<=1000000):PC Tryz.prog 49 [Bf g] (.bool (EN 2 g)):=by
 have hN:=Lv g (by omega);have hS:=Y3 g (Bv g) (by omega);have hD:=Ml 2;have hM:=Lu g (domL 2) 2 (by omega) (by simp[domL]);rw[P4] at hM;have pg:=AX g;have pn:=AX (Bv g);have pd:=AX (domL 2);have pm:=AX (Er g (domL 2));have hz:decide (Er g (domL 2)=[])=decide (((Er g (domL 2)).length:Int)=0):=BE.2 ⟨λh=>by rw[h];rfl,λh=>Av (by omega)⟩;have e:EN 2 g=(decide (g.length≠0)&&(decide (g.length<=64)&&(decide (g=Bv g)&&decide (Er g (domL 2)=[])))):=(YH 2 g).symm;rw[e,hz];generalize decide (g=Bv g)=c at *;generalize Er g (domL 2)=M at *;generalize Bv g=N at *;generalize domL 2=D at *;refine Cg Us ?_;unfold Ns;by_cases h0:g.length=0
 ·rw[Bb (by omega)]
  (with_reducible repeat'(first|simp (disch:=omega) only[push_cast,↓zz,seval,pg]|apply Aa|refine sp_ ?_ ?_<;>intro hc<;>push_cast at hc|omega|intro _))
  all_goals first|omega|trace_state
 ·rw[AO (p:=g.length≠0) (by omega)]
  by_cases h1:g.length<=64
  ·rw[AO h1]
   cases c<;>(with_reducible repeat'(first|simp (disch:=omega) only[push_cast,↓zz,seval,pg,pd,pn,pm]|apply Aa|refine sp_ ?_ ?_<;>intro hc<;>push_cast at hc|refine ee hN ?_|refine ee hS ?_|refine ee hD ?_|refine ee hM ?_|((first|refine cc hN ?_|refine cc hS ?_|refine cc hD ?_|refine cc hM ?_);(simp(disch:=omega)only[push_cast,↓zz,seval,pg,pd,pn,pm]);(fail_if_success change False))|omega|intro _))
   all_goals first|omega|trace_state
  ·rw[Bb h1]
   (with_reducible repeat'(first|simp (disch:=omega) only[push_cast,↓zz,seval,pg]|apply Aa|refine sp_ ?_ ?_<;>intro hc<;>push_cast at hc|omega|intro _))
   all_goals first|omega|trace_state
theorem Ox(n:Rec):Ea n->PC Tryz.prog 53 [recV n] (.bool (G1 n)):=by
 refine Rec.ind (P:=λn=>Ea n->PC Tryz.prog 53 [recV n] (.bool (G1 n))) ?_ n;intro k s b r w l ih hf;cases hf with
 |mk hs hr hw hl hch =>
 have ps:=AX s;have pr:AD (r.map (AV.int .i32))=true:=AG .i32 _;have pw:AD (w.map (AV.int .i32))=true:=AG .i32 _;have pl:=BN l;rw[Ck,G1,show decide (r.length=0)=decide ((r.length:Int)=0) from BE.2 (by omega)];refine Cg Nt ?_;unfold I0;by_cases h3:k=3
 ·subst h3
  rw[Ae rfl];(with_reducible repeat'(first|simp (disch:=omega) only[push_cast,↓zz,seval,ps,pr,pw,pl]|apply Aa|refine sp_ ?_ ?_<;>intro hc<;>push_cast at hc|omega|intro _))
 by_cases h4:k=4
 ·subst h4
  rw[Ac (by decide),Ae rfl];(with_reducible repeat'(first|simp (disch:=omega) only[push_cast,↓zz,seval,ps,pr,pw,pl]|apply Aa|refine sp_ ?_ ?_<;>intro hc<;>push_cast at hc|omega|intro _))
  refine Bw (B5 (λ(i:Nat)=>i<=l.length/\Ff l=Ff (l.drop i)) (λi=>l.length-i) (λi=>[(1,.ptr 0 1 0 0),(3,.int .i64 i)])
   (λ_=>[⟨6,1,true,[.agg [.int .i64 4,Bf s,.int .i64 b,AH r,AH w,.lst 6 (l.map recV)]]⟩]) (λenv _=>[Dg 6 (env 1)]) 0 ⟨by simp,by simp⟩ ?_ ?_)
  ·(with_reducible repeat'(first|simp (disch:=omega) only[push_cast,↓zz,seval,ps,pr,pw,pl]|apply Aa|refine sp_ ?_ ?_<;>intro hc<;>push_cast at hc|omega|intro _))
  rintro i ⟨hi,hk⟩;rcases Ak i l.length with hil|hil
  ·have hm:=ih _ (Bo hil) (hch _ (Bo hil))
   rw[Mm hil] at hk;generalize G1 (nth l i)=q at *;have pn:=NK (nth l i);obtain⟨k',s',b',r',w',l',he⟩:∃k' s' b' r' w' l',nth l i=.mk k' s' b' r' w' l':=by cases nth l i;exact⟨_,_,_,_,_,_,rfl⟩
   have hrm:=Ck k' s' b' r' w' l';have ps':=AX s';have pr':AD (r'.map (AV.int .i32))=true:=AG .i32 _;have pw':AD (w'.map (AV.int .i32))=true:=AG .i32 _;have pl':=BN l';rw[he,hrm] at hm;refine W_T ?_;cases q with
   |false =>
    (with_reducible repeat'(first|simp (disch:=omega) only[push_cast,↓zz,seval,ps,pr,pw,pl,ps',pr',pw',pl',he,hrm]|apply Aa|refine sp_ ?_ ?_<;>intro hc<;>push_cast at hc|refine ee hm ?_|(refine cc hm ?_;(simp(disch:=omega)only[push_cast,↓zz,seval,ps,pr,pw,pl,ps',pr',pw',pl',he,hrm]);(fail_if_success change False))|omega|intro _))
    all_goals first|(simp[hk];done)|trace_state
   |true =>
    (with_reducible repeat'(first|simp (disch:=omega) only[push_cast,↓zz,seval,ps,pr,pw,pl,ps',pr',pw',pl',he,hrm]|apply Aa|refine sp_ ?_ ?_<;>intro hc<;>push_cast at hc|refine ee hm ?_|(refine cc hm ?_;(simp(disch:=omega)only[push_cast,↓zz,seval,ps,pr,pw,pl,ps',pr',pw',pl',he,hrm]);(fail_if_success change False))|omega|intro _))
    all_goals
     refine⟨i+1,?_⟩;(with_reducible repeat'(first|simp (disch:=omega) only[push_cast,↓zz,seval,ps,pr,pw,pl]|apply Aa|refine sp_ ?_ ?_<;>intro hc<;>push_cast at hc|omega|intro _))
    all_goals first|(simpa using hk)|trace_state
  ·obtain rfl:i=l.length:=by omega
   rw[List.drop_length,Ff] at hk;refine W_T ?_;(with_reducible repeat'(first|simp (disch:=omega) only[push_cast,↓zz,seval,ps,pr,pw,pl]|apply Aa|refine sp_ ?_ ?_<;>intro hc<;>push_cast at hc|omega|intro _))
   all_goals first|(simp[hk];done)|trace_state
 by_cases h5:k=5
 ·subst h5
  rw[Ac (by decide),Ac (by decide),Ae rfl];(with_reducible repeat'(first|simp (disch:=omega) only[push_cast,↓zz,seval,ps,pr,pw,pl]|apply Aa|refine sp_ ?_ ?_<;>intro hc<;>push_cast at hc|omega|intro _))
  refine Bw (B5 (λ(i:Nat)=>i<=l.length/\Gl l=Gl (l.drop i)) (λi=>l.length-i) (λi=>[(1,.ptr 0 1 0 0),(4,.int .i64 i)])
   (λ_=>[⟨6,1,true,[.agg [.int .i64 5,Bf s,.int .i64 b,AH r,AH w,.lst 6 (l.map recV)]]⟩]) (λenv _=>[Dg 6 (env 1)]) 0 ⟨by simp,by simp⟩ ?_ ?_)
  ·(with_reducible repeat'(first|simp (disch:=omega) only[push_cast,↓zz,seval,ps,pr,pw,pl]|apply Aa|refine sp_ ?_ ?_<;>intro hc<;>push_cast at hc|omega|intro _))
  rintro i ⟨hi,hk⟩;rcases Ak i l.length with hil|hil
  ·have hm:=ih _ (Bo hil) (hch _ (Bo hil))
   rw[Mn hil] at hk;generalize G1 (nth l i)=q at *;obtain⟨k',s',b',r',w',l',he⟩:∃k' s' b' r' w' l',nth l i=.mk k' s' b' r' w' l':=by cases nth l i;exact⟨_,_,_,_,_,_,rfl⟩
   have hrm:=Ck k' s' b' r' w' l';have ps':=AX s';have pr':AD (r'.map (AV.int .i32))=true:=AG .i32 _;have pw':AD (w'.map (AV.int .i32))=true:=AG .i32 _;have pl':=BN l';rw[he,hrm] at hm;refine W_T ?_;cases q with
   |true =>
    (with_reducible repeat'(first|simp (disch:=omega) only[push_cast,↓zz,seval,ps,pr,pw,pl,ps',pr',pw',pl',he,hrm]|apply Aa|refine sp_ ?_ ?_<;>intro hc<;>push_cast at hc|refine ee hm ?_|(refine cc hm ?_;(simp(disch:=omega)only[push_cast,↓zz,seval,ps,pr,pw,pl,ps',pr',pw',pl',he,hrm]);(fail_if_success change False))|omega|intro _))
    all_goals first|(simp[hk];done)|trace_state
   |false =>
    (with_reducible repeat'(first|simp (disch:=omega) only[push_cast,↓zz,seval,ps,pr,pw,pl,ps',pr',pw',pl',he,hrm]|apply Aa|refine sp_ ?_ ?_<;>intro hc<;>push_cast at hc|refine ee hm ?_|(refine cc hm ?_;(simp(disch:=omega)only[push_cast,↓zz,seval,ps,pr,pw,pl,ps',pr',pw',pl',he,hrm]);(fail_if_success change False))|omega|intro _))
    all_goals
     refine⟨i+1,?_⟩;(with_reducible repeat'(first|simp (disch:=omega) only[push_cast,↓zz,seval,ps,pr,pw,pl]|apply Aa|refine sp_ ?_ ?_<;>intro hc<;>push_cast at hc|omega|intro _))
    all_goals first|(simpa using hk)|trace_state
  ·obtain rfl:i=l.length:=by omega
   rw[List.drop_length,Gl] at hk;refine W_T ?_;(with_reducible repeat'(first|simp (disch:=omega) only[push_cast,↓zz,seval,ps,pr,pw,pl]|apply Aa|refine sp_ ?_ ?_<;>intro hc<;>push_cast at hc|omega|intro _))
   all_goals first|(simp[hk];done)|trace_state
 ·rw[Ac h3,Ac h4,Ac h5]
  (with_reducible repeat'(first|simp (disch:=omega) only[push_cast,↓zz,seval,ps,pr,pw,pl,h3,h4,h5]|apply Aa|refine sp_ ?_ ?_<;>intro hc<;>push_cast at hc|omega|intro _))
  all_goals first|(exfalso;omega)|trace_state
theorem TG(n:Rec):Ea n->∀d:Int,0<=d->d<=65->PC Tryz.prog 19 [recV n,.int .i64 d] (.bool (okR n d)):=by
 refine Rec.ind (P:=λn=>Ea n->∀d:Int,0<=d->d<=65->PC Tryz.prog 19 [recV n,.int .i64 d] (.bool (okR n d))) ?_ n;intro k s b r w l ih hf d hd0 hd1;have hNo:=λ(h6:k=6)=>Ox (.mk 4 [] 0 [] [] l) (by cases hf with|mk hs hr hw hl hch=>exact .mk (by simp) (by simp) (by simp) hl hch);cases hf with
 |mk hs hr hw hl hch =>
 have ps:=AX s;have pr:AD (r.map (AV.int .i32))=true:=AG .i32 _;have pw:AD (w.map (AV.int .i32))=true:=AG .i32 _;have pl:=BN l;rw[Ck];refine Cg Q4 ?_;unfold Kj;by_cases hd:64<d
 ·rw[show okR (.mk k s b r w l) d=false by rw[okR,AO hd];rfl]
  (with_reducible repeat'(first|simp (disch:=omega) only[push_cast,↓zz,seval,ps,pr,pw,pl]|apply Aa|refine sp_ ?_ ?_<;>intro hc<;>push_cast at hc|omega|intro _))
 have e0:okR (.mk k s b r w l) d=(if k=1 then !decide (b < -1114111\/1114111<b)&&(EN 2 s&&decide (Er (Fl s b) (domL 2)=[])) else if k=2 then EN 2 s
  else if k=3 then r.all (E3 2)&&w.all (E3 2) else if k=4\/k=5 then okL l (d+1) else if k=6 then okL l (d+1)&&!Ff l else false):=by rw[okR,Bb hd];rfl
 rw[e0];clear e0;have hS:=zgf s hs;have hD:=Ml 2;have pD:=AX (domL 2);by_cases h1:k=1
 ·subst h1
  rw[Ae rfl];by_cases hb:b < -1114111\/1114111<b
  ·rw[AO hb]
   (with_reducible repeat'(first|simp (disch:=omega) only[push_cast,↓zz,seval,ps,pr,pw,pl]|apply Aa|refine sp_ ?_ ?_<;>intro hc<;>push_cast at hc|omega|intro _))
   all_goals first|omega|trace_state
  ·rw[Bb hb]
   have hM:=YF s b (by omega);have hW:=Lu (Fl s b) (domL 2) 2 (by have:=Ty s b;omega) (by simp[domL]);rw[P4] at hW;have pM:=AX (Fl s b);have pW:=AX (Er (Fl s b) (domL 2));have hz:decide (Er (Fl s b) (domL 2)=[])=decide (((Er (Fl s b) (domL 2)).length:Int)=0):=BE.2 ⟨λh=>by rw[h];rfl,λh=>Av (by omega)⟩;rw[hz];generalize Er (Fl s b) (domL 2)=X at *;generalize Fl s b=M at *;generalize domL 2=D at *;cases hg:EN 2 s with
   |false =>
    rw[hg] at hS;(with_reducible repeat'(first|simp (disch:=omega) only[push_cast,↓zz,seval,ps,pr,pw,pl]|apply Aa|refine sp_ ?_ ?_<;>intro hc<;>push_cast at hc|refine ee hS ?_|(refine cc hS ?_;(simp(disch:=omega)only[push_cast,↓zz,seval,ps,pr,pw,pl]);(fail_if_success change False))|omega|intro _))
    all_goals first|omega|trace_state
   |true =>
    rw[hg] at hS;(with_reducible repeat'(first|simp (disch:=omega) only[push_cast,↓zz,seval,ps,pr,pw,pl,pM,pD,pW]|apply Aa|refine sp_ ?_ ?_<;>intro hc<;>push_cast at hc|refine ee hS ?_|refine ee hM ?_|refine ee hD ?_|refine ee hW ?_|((first|refine cc hS ?_|refine cc hM ?_|refine cc hD ?_|refine cc hW ?_);(simp(disch:=omega)only[push_cast,↓zz,seval,ps,pr,pw,pl,pM,pD,pW]);(fail_if_success change False))|omega|intro _))
    all_goals first|omega|trace_state
 by_cases h2:k=2
 ·subst h2
  rw[Ac (by decide),Ae rfl];generalize EN 2 s=q at *;(with_reducible repeat'(first|simp (disch:=omega) only[push_cast,↓zz,seval,ps,pr,pw,pl]|apply Aa|refine sp_ ?_ ?_<;>intro hc<;>push_cast at hc|refine ee hS ?_|(refine cc hS ?_;(simp(disch:=omega)only[push_cast,↓zz,seval,ps,pr,pw,pl]);(fail_if_success change False))|omega|intro _))
 by_cases h3:k=3
 ·subst h3
  rw[Ac (by decide),Ac (by decide),Ae rfl];have hR:=z4e 2 r (by omega) hr.2;have hW:=z4e 2 w (by omega) hw.2;generalize w.all (E3 2)=qw at *;cases hq:r.all (E3 2)<;>rw[hq] at hR
  ·(with_reducible repeat'(first|simp (disch:=omega) only[push_cast,↓zz,seval,ps,pr,pw,pl]|apply Aa|refine sp_ ?_ ?_<;>intro hc<;>push_cast at hc|refine ee hR ?_|(refine cc hR ?_;(simp(disch:=omega)only[push_cast,↓zz,seval,ps,pr,pw,pl]);(fail_if_success change False))|omega|intro _))
  ·(with_reducible repeat'(first|simp (disch:=omega) only[push_cast,↓zz,seval,ps,pr,pw,pl]|apply Aa|refine sp_ ?_ ?_<;>intro hc<;>push_cast at hc|refine ee hR ?_|refine ee hW ?_|((first|refine cc hR ?_|refine cc hW ?_);(simp(disch:=omega)only[push_cast,↓zz,seval,ps,pr,pw,pl]);(fail_if_success change False))|omega|intro _))
 by_cases h456:k=4\/k=5\/k=6
 ·rw[Ac h1,Ac h2,Ac h3]
  (with_reducible repeat'(first|simp (disch:=omega) only[push_cast,↓zz,seval,ps,pr,pw,pl,h1,h2,h3]|apply Aa|refine sp_ ?_ ?_<;>intro hc<;>push_cast at hc|omega|intro _))
  all_goals first|(exfalso;omega)|skip
  all_goals
   refine Bw (B5 (λ(i:Nat)=>i<=l.length/\okL l (d+1)=okL (l.drop i) (d+1)) (λi=>l.length-i)
    (λi=>[(1,.int .i64 d),(2,.ptr 0 1 0 0),(5,.int .i64 i)])
    (λ_=>[⟨6,1,true,[.agg [.int .i64 k,Bf s,.int .i64 b,AH r,AH w,.lst 6 (l.map recV)]]⟩]) (λenv _=>[Dg 6 (env 2)]) 0 ⟨by simp,by simp⟩ ?_ ?_)
   ·(with_reducible repeat'(first|simp (disch:=omega) only[push_cast,↓zz,seval,ps,pr,pw,pl]|apply Aa|refine sp_ ?_ ?_<;>intro hc<;>push_cast at hc|omega|intro _))
   rintro i ⟨hi,hk1⟩;rcases Ak i l.length with hil|hil
   ·have hm:=ih _ (Bo hil) (hch _ (Bo hil)) (d+1) (by omega) (by omega)
    rw[Xb hil] at hk1;obtain⟨k',s',b',r',w',l',he⟩:∃k' s' b' r' w' l',nth l i=.mk k' s' b' r' w' l':=by cases nth l i;exact⟨_,_,_,_,_,_,rfl⟩
    have hrm:=Ck k' s' b' r' w' l';have ps':=AX s';have pr':AD (r'.map (AV.int .i32))=true:=AG .i32 _;have pw':AD (w'.map (AV.int .i32))=true:=AG .i32 _;have pl':=BN l';generalize okR (nth l i) (d+1)=q at *;rw[he,hrm] at hm;clear hNo;refine W_T ?_;cases q with
    |false =>
     rw[Bh] at hk1;(with_reducible repeat'(first|simp (disch:=omega) only[push_cast,↓zz,seval,ps,pr,pw,pl,ps',pr',pw',pl',he,hrm]|apply Aa|refine sp_ ?_ ?_<;>intro hc<;>push_cast at hc|refine ee hm ?_|(refine cc hm ?_;(simp(disch:=omega)only[push_cast,↓zz,seval,ps,pr,pw,pl,ps',pr',pw',pl',he,hrm]);(fail_if_success change False))|omega|intro _))
     all_goals first|(simp[hk1];done)|trace_state
    |true =>
     rw[AP] at hk1;(with_reducible repeat'(first|simp (disch:=omega) only[push_cast,↓zz,seval,ps,pr,pw,pl,ps',pr',pw',pl',he,hrm]|apply Aa|refine sp_ ?_ ?_<;>intro hc<;>push_cast at hc|refine ee hm ?_|(refine cc hm ?_;(simp(disch:=omega)only[push_cast,↓zz,seval,ps,pr,pw,pl,ps',pr',pw',pl',he,hrm]);(fail_if_success change False))|omega|intro _))
     all_goals
      refine⟨i+1,?_⟩;(with_reducible repeat'(first|simp (disch:=omega) only[push_cast,↓zz,seval,ps,pr,pw,pl]|apply Aa|refine sp_ ?_ ?_<;>intro hc<;>push_cast at hc|omega|intro _))
     all_goals first|exact hk1|trace_state
   ·obtain rfl:i=l.length:=by omega
    rw[List.drop_length,okL] at hk1;rw[hk1];by_cases h6:k=6
    ·have hNo:=hNo h6
     rw[Ck,show G1 (.mk 4 [] 0 [] [] l)=Ff l from rfl] at hNo;rw[Ac (by omega),Ae h6,AP];generalize Ff l=q at *;refine W_T ?_;(with_reducible repeat'(first|simp (disch:=omega) only[push_cast,↓zz,seval,ps,pr,pw,pl,h6]|apply Aa|refine sp_ ?_ ?_<;>intro hc<;>push_cast at hc|refine ee hNo ?_|(refine cc hNo ?_;(simp(disch:=omega)only[push_cast,↓zz,seval,ps,pr,pw,pl,h6]);(fail_if_success change False))|omega|intro _))
    ·rw[Ae (by omega)]
     clear hNo;refine W_T ?_;(with_reducible repeat'(first|simp (disch:=omega) only[push_cast,↓zz,seval,ps,pr,pw,pl,h6]|apply Aa|refine sp_ ?_ ?_<;>intro hc<;>push_cast at hc|omega|intro _))
 ·rw[Ac h1,Ac h2,Ac h3,Ac (by omega),Ac (by omega)]
  (with_reducible repeat'(first|simp (disch:=omega) only[push_cast,↓zz,seval,ps,pr,pw,pl,h1,h2,h3]|apply Aa|refine sp_ ?_ ?_<;>intro hc<;>push_cast at hc|omega|intro _))
  all_goals first|omega|trace_state
theorem zaa(n:Rec)(hf:Ea n):PC Tryz.prog 31 [recV n] (.bool (okR n 0&&G1 n)):=by
 have hR:=TG n hf 0 (by omega) (by omega);have hN:=Ox n hf;generalize G1 n=q2 at *;generalize okR n 0=q at *;obtain⟨k,s,b,r,w,l⟩:=n;have ps:=AX s;have pr:AD (r.map (AV.int .i32))=true:=AG .i32 _;have pw:AD (w.map (AV.int .i32))=true:=AG .i32 _;have pl:=BN l;rw[Ck] at *;refine Cg Sw ?_;unfold LH;cases q<;>(with_reducible repeat'(first|simp (disch:=omega) only[push_cast,↓zz,seval,ps,pr,pw,pl]|apply Aa|refine sp_ ?_ ?_<;>intro hc<;>push_cast at hc|refine ee hR ?_|refine ee hN ?_|((first|refine cc hR ?_|refine cc hN ?_);(simp(disch:=omega)only[push_cast,↓zz,seval,ps,pr,pw,pl]);(fail_if_success change False))|omega|intro _))
 all_goals trace_state
end Go.Proofs.YtflibbceibjddaaGreat
set_option maxRecDepth 100000
namespace Go.Proofs.YtflibbceibjddaaGreat
open Abs O1 O2 O3 Go.RowKit
theorem zab(n:Rec):Ea n->PC Tryz.prog 21 [recV n] (.int .i64 (If n:Nat)):=by
 refine Rec.ind (P:=λn=>Ea n->PC Tryz.prog 21 [recV n] (.int .i64 (If n:Nat))) ?_ n;intro k s b r w l ih hf;cases hf with
 |mk hs hr hw hl hch =>
 have ps:=AX s;have pr:AD (r.map (AV.int .i32))=true:=AG .i32 _;have pw:AD (w.map (AV.int .i32))=true:=AG .i32 _;have pl:=BN l;have hr1:=hr.1;have hw1:=hw.1;have e0:If (.mk k s b r w l)=Nat.min (1+r.length+w.length+JO l) 1048576:=by rw[If,JN]
 have m1:min (r.length:Int) 1048576=r.length:=by omega
 have m2:min (w.length:Int) 1048576=w.length:=by omega
 rw[Ck];generalize If (.mk k s b r w l)=z at *;refine Cg Ss ?_;unfold LD;(with_reducible repeat'(first|simp (disch:=omega) only[push_cast,↓zz,seval,ps,pr,pw,pl,m1,m2]|apply Aa|refine sp_ ?_ ?_<;>intro hc<;>push_cast at hc|omega|intro _))
 refine Bw (B5 (λ(q:Nat × Nat)=>q.1<=l.length/\q.2<=4000000/\z=Nat.min (q.2+JO (l.drop q.1)) 1048576) (λq=>l.length-q.1)
  (λq=>[(1,.ptr 0 1 0 0),(3,.int .i64 q.2),(4,.int .i64 q.1)]) (λ_=>[⟨6,1,true,[.agg [.int .i64 k,Bf s,.int .i64 b,AH r,AH w,.lst 6 (l.map recV)]]⟩]) (λenv _=>[Dg 6 (env 1)]) (0,1+r.length+w.length) ⟨by simp,by simp only;omega,by simpa using e0⟩ ?_ ?_)
 ·(with_reducible repeat'(first|simp (disch:=omega) only[push_cast,↓zz,seval,ps,pr,pw,pl,m1,m2]|apply Aa|refine sp_ ?_ ?_<;>intro hc<;>push_cast at hc|omega|intro _))
  all_goals first|omega|trace_state
 rintro⟨i,t⟩ ⟨hi,ht,hz⟩;simp only at hi ht hz;rcases Ak i l.length with hil|hil
 ·have hm:=ih _ (Bo hil) (hch _ (Bo hil))
  rw[PW hil] at hz;have hzn:1048576<=t->z=1048576:=λh=>by rw[hz];exact Nat.min_eq_right (by omega)
  have hz2:z=Nat.min (t+If (nth l i)+JO (l.drop (i+1))) 1048576:=by
   rw[hz,If];rcases Nat.le_total (JN (nth l i)) 1048576 with h|h
   ·rw[show Nat.min (JN (nth l i)) 1048576=JN (nth l i) from BI h,AY]
   ·rw[show Nat.min (JN (nth l i)) 1048576=1048576 from Nat.min_eq_right h,show Nat.min (t+(JN (nth l i)+JO (l.drop (i+1)))) 1048576=1048576 from Nat.min_eq_right (by omega)]
    exact (Nat.min_eq_right (by omega)).symm
  have hcl:If (nth l i)<=1048576:=Nat.min_le_right _ _;clear hz;obtain⟨k',s',b',r',w',l',he⟩:∃k' s' b' r' w' l',nth l i=.mk k' s' b' r' w' l':=by cases nth l i;exact⟨_,_,_,_,_,_,rfl⟩
  generalize If (nth l i)=c at *;have hrm:=Ck k' s' b' r' w' l';have ps':=AX s';have pr':AD (r'.map (AV.int .i32))=true:=AG .i32 _;have pw':AD (w'.map (AV.int .i32))=true:=AG .i32 _;have pl':=BN l';rw[he,hrm] at hm;refine W_T ?_;(with_reducible repeat'(first|simp (disch:=omega) only[push_cast,↓zz,seval,ps,pr,pw,pl,ps',pr',pw',pl',he,hrm]|apply Aa|refine sp_ ?_ ?_<;>intro hc<;>push_cast at hc|refine ee hm ?_|(refine cc hm ?_;(simp(disch:=omega)only[push_cast,↓zz,seval,ps,pr,pw,pl,ps',pr',pw',pl',he,hrm]);(fail_if_success change False))|omega|intro _))
  all_goals first
   |(refine⟨(i+1,t+c),?_⟩
     (with_reducible repeat'(first|simp (disch:=omega) only[push_cast,↓zz,seval,ps,pr,pw,pl]|apply Aa|refine sp_ ?_ ?_<;>intro hc<;>push_cast at hc|omega|intro _))
     all_goals first|exact hz2|omega
     done)
   |(have:=hzn (by omega);subst this;(repeat'(first|(simp(disch:=omega)only[push_cast,↓zz,seval,DC])|omega|(with_reducible refine Aa ?_ ?_)));done)
   |trace_state
 ·obtain rfl:i=l.length:=by omega
  rw[List.drop_length,JO,Nat.add_zero] at hz
  have h2:z<=t/\z<=1048576/\(z=t\/z=1048576):=by
   rw[hz];rcases Nat.le_total t 1048576 with h|h
   ·rw[show Nat.min t 1048576=t from BI h];omega
   ·rw[show Nat.min t 1048576=1048576 from Nat.min_eq_right h];omega
  clear hz e0;refine W_T ?_;(with_reducible repeat'(first|simp (disch:=omega) only[push_cast,↓zz,seval,ps,pr,pw,pl]|apply Aa|refine sp_ ?_ ?_<;>intro hc<;>push_cast at hc|omega|intro _))
  all_goals first|omega|trace_state
mutual
def cntR:Rec->Nat->Nat
 |.mk _ s _ r w l,m=>cntL l m (1+min r.length m+min w.length m+min s.length m)
def cntL:List Rec->Nat->Nat->Nat
 |[],_,t=>t
 |n::l,m,t=>if t<=m then cntL l m (t+cntR n (m-t)) else t
end
mutual
def cntN:Rec->Nat
 |.mk _ s _ r w l=>1+r.length+w.length+s.length+cntA l
def cntA:List Rec->Nat
 |[]=>0
 |n::l=>cntN n+cntA l
end
theorem Rl:∀(l:List Rec)(m t:Nat),t<=cntL l m t
 |[],m,t=>by rw[cntL];exact Ad _
 |n::l,m,t=>by
  rw[cntL];split
  ·exact AZ (CW _ _) (Rl l m _)
  ·exact Ad _
theorem z4g(n:Rec):∀m,cntR n m<=4 * m+1:=by
 refine Rec.ind (P:=λn=>∀m,cntR n m<=4 * m+1) ?_ n;intro k s b r w l ih m
 have key:∀(l:List Rec),(∀n∈l,∀m,cntR n m<=4 * m+1)->∀t,t<=4 * m+1->cntL l m t<=4 * m+1:=by
  intro l
  induction l with
  |nil=>intro _ t ht;rw[cntL];exact ht
  |cons n l ihl =>
   intro h t ht;rw[cntL];split
   ·have:=h n (by simp) (m-t)
    exact ihl (λn hn=>h n (by simp[hn])) _ (by omega)
   ·exact ht
 rw[cntR];exact key l ih _ (by omega)
theorem z4h{l:List Rec}{m t i:Nat}(hi:i<l.length):cntL (l.drop i) m t=if t<=m then cntL (l.drop (i+1)) m (t+cntR (nth l i) (m-t)) else t:=by rw[drop_at hi,cntL]
theorem z4i(n:Rec):Lm n->∀m:Nat,m<=1000->PC Tryz.prog 44 [recV n,.int .i64 m] (.int .i64 (cntR n m:Nat)):=by
 refine Rec.ind (P:=λn=>Lm n->∀m:Nat,m<=1000->PC Tryz.prog 44 [recV n,.int .i64 m] (.int .i64 (cntR n m:Nat))) ?_ n;intro k s b r w l ih hf m hmm;cases hf with
 |mk _ hs hr hw hl hch =>
 have ps:=AX s;have pr:AD (r.map (AV.int .i32))=true:=AG .i32 _;have pw:AD (w.map (AV.int .i32))=true:=AG .i32 _;have pl:=BN l;have e0:cntR (.mk k s b r w l) m=cntL l m (1+min r.length m+min w.length m+min s.length m):=by rw[cntR]
 obtain⟨a1,h1⟩:∃a,a=min r.length m:=⟨_,rfl⟩;obtain⟨a2,h2⟩:∃a,a=min w.length m:=⟨_,rfl⟩;obtain⟨a3,h3⟩:∃a,a=min s.length m:=⟨_,rfl⟩;have m1:min (r.length:Int) (m:Int)=(a1:Int):=by omega
 have m2:min (w.length:Int) (m:Int)=(a2:Int):=by omega
 have m3:min (s.length:Int) (m:Int)=(a3:Int):=by omega
 rw[<-h1,<-h2,<-h3] at e0;have hl2:l.length<=9223372036854775807:=AZ hl (by decide);rw[Ck];generalize cntR (.mk k s b r w l) m=z at *;refine Cg Q5 ?_;unfold Kk;(with_reducible repeat'(first|simp (disch:=omega) only[push_cast,↓zz,seval,ps,pr,pw,pl,m1,m2,m3]|apply Aa|refine sp_ ?_ ?_<;>intro hc<;>push_cast at hc|omega|intro _))
 refine Bw (B5 (λ(q:Nat × Nat)=>q.1<=l.length/\q.2<=4 * m+1/\z=cntL (l.drop q.1) m q.2) (λq=>l.length-q.1)
  (λq=>[(1,.int .i64 m),(2,.ptr 0 1 0 0),(5,.int .i64 q.2),(6,.int .i64 q.1)]) (λ_=>[⟨6,1,true,[.agg [.int .i64 k,Bf s,.int .i64 b,AH r,AH w,.lst 6 (l.map recV)]]⟩]) (λenv _=>[Dg 6 (env 2)]) (0,1+a1+a2+a3) ⟨by simp,by simp only;omega,by simpa using e0⟩ ?_ ?_)
 ·(with_reducible repeat'(first|simp (disch:=omega) only[push_cast,↓zz,seval,ps,pr,pw,pl,m1,m2,m3]|apply Aa|refine sp_ ?_ ?_<;>intro hc<;>push_cast at hc|omega|intro _))
  all_goals first|omega|trace_state
 rintro⟨i,t⟩ ⟨hi,ht,hz⟩;simp only at hi ht hz;rcases Ak i l.length with hil|hil
 ·rw[z4h hil] at hz
  by_cases htm:t<=m
  ·have hm:=ih _ (Bo hil) (hch _ (Bo hil)) (m-t) (by omega)
   rw[Ae htm] at hz;have hcl:=z4g (nth l i) (m-t);have hmt:(m:Int)-(t:Int)=((m-t:Nat):Int):=by omega
   obtain⟨k',s',b',r',w',l',he⟩:∃k' s' b' r' w' l',nth l i=.mk k' s' b' r' w' l':=by cases nth l i;exact⟨_,_,_,_,_,_,rfl⟩
   generalize cntR (nth l i) (m-t)=c at *;generalize hmte:m-t=mt at *;have hrm:=Ck k' s' b' r' w' l';have ps':=AX s';have pr':AD (r'.map (AV.int .i32))=true:=AG .i32 _;have pw':AD (w'.map (AV.int .i32))=true:=AG .i32 _;have pl':=BN l';rw[he,hrm] at hm;refine W_T ?_;(with_reducible repeat'(first|simp (disch:=omega) only[push_cast,↓zz,seval,ps,pr,pw,pl,ps',pr',pw',pl',he,hrm,hmt]|apply Aa|refine sp_ ?_ ?_<;>intro hc<;>push_cast at hc|refine ee hm ?_|(refine cc hm ?_;(simp(disch:=omega)only[push_cast,↓zz,seval,ps,pr,pw,pl,ps',pr',pw',pl',he,hrm,hmt]);(fail_if_success change False))|omega|intro _))
   all_goals
    refine⟨(i+1,t+c),?_⟩;(with_reducible repeat'(first|simp (disch:=omega) only[push_cast,↓zz,seval,ps,pr,pw,pl]|apply Aa|refine sp_ ?_ ?_<;>intro hc<;>push_cast at hc|omega|intro _))
   all_goals first|exact hz|omega|trace_state
  ·rw[Ac htm] at hz
   subst hz;refine W_T ?_;(with_reducible repeat'(first|simp (disch:=omega) only[push_cast,↓zz,seval,ps,pr,pw,pl]|apply Aa|refine sp_ ?_ ?_<;>intro hc<;>push_cast at hc|omega|intro _))
   all_goals first|(exfalso;omega)|trace_state
 ·obtain rfl:i=l.length:=by omega
  rw[List.drop_length,cntL] at hz;subst hz;refine W_T ?_;(with_reducible repeat'(first|simp (disch:=omega) only[push_cast,↓zz,seval,ps,pr,pw,pl]|apply Aa|refine sp_ ?_ ?_<;>intro hc<;>push_cast at hc|omega|intro _))
  all_goals first|(exfalso;omega)|trace_state
theorem zkm(n:Rec):∀m,cntR n m<=m->cntN n=cntR n m:=by
 refine Rec.ind (P:=λn=>∀m,cntR n m<=m->cntN n=cntR n m) ?_ n;intro k s b r w l ih m h
 have key:∀(l:List Rec),(∀n∈l,∀m,cntR n m<=m->cntN n=cntR n m)->∀t,cntL l m t<=m->cntL l m t=t+cntA l:=by
  intro l
  induction l with
  |nil=>intro _ t _;rw[cntL,cntA,Nat.add_zero]
  |cons n l ihl =>
   intro h t ht;have h0:t<=m:=AZ (Rl (n::l) m t) ht;rw[cntL,Ae h0] at ht ⊢;have h1:=Rl l m (t+cntR n (m-t));have h2:=h n (by simp) (m-t) (by omega);rw[ihl (λn hn=>h n (by simp[hn])) _ ht,cntA,h2,AY]
 rw[cntR] at h ⊢;have h0:=Rl l m (1+min r.length m+min w.length m+min s.length m);rw[key l ih _ h,cntN];omega
theorem Xq:∀{l:List Rec}{n:Rec},n∈l->cntN n<=cntA l
 |a::l,n,h=>by
  rw[cntA];rcases Af.1 h with rfl|h
  ·omega
  ·have:=Xq h;omega
theorem zac(n:Rec):1<=cntN n:=by
 obtain⟨k,s,b,r,w,l⟩:=n;rw[cntN];omega
theorem Xr:∀l:List Rec,l.length<=cntA l
 |[]=>Ad _
 |a::l=>by
  have:=zac a;have:=Xr l;rw[cntA,List.length_cons];omega
theorem TH(n:Rec):Lm n->cntN n<=1000000->Ea n:=by
 refine Rec.ind (P:=λn=>Lm n->cntN n<=1000000->Ea n) ?_ n;intro k s b r w l ih hok h;rw[cntN] at h;cases hok with
 |mk _ hs hr hw hl hch =>
 have:=Xr l;exact .mk (by omega) ⟨by omega,hr.2⟩ ⟨by omega,hw.2⟩ (by omega) λn hn=>ih n hn (hch n hn) (by have:=Xq hn;omega)
def PX(n:Rec):Bool:=decide (cntR n 300<=300)
theorem TJ{n:Rec}(h:PX n=true):cntN n<=300:=by
 have h1:cntR n 300<=300:=of_decide_eq_true h;rw[zkm n 300 h1];exact h1
theorem Mq{n:Rec}(hok:Lm n)(h:PX n=true):Ea n:=TH n hok (by have:=TJ h;omega)
theorem TK(n:Rec)(hok:Lm n):PC Tryz.prog 15 [recV n] (.bool (PX n)):=by
 have hC:=z4i n hok 300 (by omega);have e:PX n=decide ((cntR n 300:Int)<=300):=BE.2 (by omega);rw[e];have hc:=z4g n 300;generalize cntR n 300=c at *;obtain⟨k,s,b,r,w,l⟩:=n;have ps:=AX s;have pr:AD (r.map (AV.int .i32))=true:=AG .i32 _;have pw:AD (w.map (AV.int .i32))=true:=AG .i32 _;have pl:=BN l;rw[Ck] at *;refine Cg Q2 ?_;unfold Kh;(with_reducible repeat'(first|simp (disch:=omega) only[push_cast,↓zz,seval,ps,pr,pw,pl]|apply Aa|refine sp_ ?_ ?_<;>intro hc<;>push_cast at hc|refine ee hC ?_|(refine cc hC ?_;(simp(disch:=omega)only[push_cast,↓zz,seval,ps,pr,pw,pl]);(fail_if_success change False))|omega|intro _))
 all_goals trace_state
set_option maxRecDepth 100000
theorem TL{P:Program}{f:Nat}{xs:List AV}{l l':List Grp}{K:AV->Az->Prop}(i g w v n:Nat){ex:Bool}{X:List AV}(hw:0<w)(hlt:g<l.length)(hg:l.getD g default=⟨w,v,ex,X⟩)(pX:AD X=true)(hn:X.length=n)(hx:xs[i]? = some (.ref g v 0 n))(hl':Ez 0 [g] l=l')
 (h:@MO P f (xs.set i (.lst w X)) (Abs.hl l') ⟨K⟩):@MO P f xs (Abs.hl l) ⟨K⟩:=by
 subst hl' hn
 have hat:((Abs.hl l).only [g]).at_ g=⟨w,v,ex,X⟩:=by
  show (if g∈[g] then _ else _)=_;rw[Ae (by simp),De,hg]
 have hpz:=F9 ((Abs.hl l).only [g]) 0 pX
 have f1:CE 1 ((Abs.hl l).only [g]) (.ref g v 0 X.length):=by
  simp only[CE];rw[hat];simp only[Bz,AA];exact⟨trivial,hw,by omega,hpz.1⟩
 have f2:frzV 1 ((Abs.hl l).only [g]) (.ref g v 0 X.length)=.lst w X:=by
  simp only[frzV];rw[hat];simp[frzV]
 have h:B2 P f (xs.set i (.lst w X)) (Abs.hl (Ez 0 [g] l)) K:=h
 have hk:B2 P f (xs.set i (.lst w X)) ((Abs.hl l).kill [g]) K:=B2.congr (H':=Abs.hl (Ez 0 [g] l)) (by simp[Abs.hl,Az.kill,FW]) (λj hj=>by
  show (Ez 0 [g] l).getD j default=if j∈[g] then (l.getD j default).dead else l.getD j default
  rw[HL 0 [g] l j hj,AW]) h
 refine⟨hk.1,λS cargs hS hx'=>(hk.2 (S.kill (Abs.hl l) [g]) cargs (Kb [g] hS) ?_).mono λe w' hh=>?_⟩
 ·have h1:A9 (S.kill (Abs.hl l) [g]) xs cargs:=A9.mono (Gq [g] hS) _ hx'
  have hil:i<cargs.length:=by rw[hx'.length];exact (AJ.1 hx).1
  have h2:VRel (S.kill (Abs.hl l) [g]) (.lst w X) cargs[i]:=by
   obtain⟨u,hu,h3⟩:=hx'.get hx;have hu2:cargs[i]=u:=Cx ((Al hil).symm.trans hu);rw[hu2];have:=Kc [g] hS 1 f1 h3
   rwa [f2] at this
  have h3:=A9.set (i:=i) h1 h2
  rwa [List.set_getElem_self] at h3
 ·obtain⟨v,S',x,H',rfl,rfl,ev,hS',hv,hK⟩:=hh
  exact⟨v,S',x,H',rfl,rfl,(Gq [g] hS).trans ev,hS',hv,hK⟩
theorem zkn(st:MSt)(a c:Nat)(s:List Span)(out:List Term):(addR st a c s out).1=st.1/\(addR st a c s out).2.length=st.2.length+1:=by simp[addR]
theorem zko(st:MSt):(newS st).1=st.1+1/\(newS st).2=st.2:=⟨rfl,rfl⟩
theorem Rm:∀(n:Nat)(w:List Int)(f:Nat)(st:MSt),(wrR n w f st).1.1<=st.1+n/\(wrR n w f st).1.2.length<=st.2.length+n
 |0,w,f,st=>by simp[wrR]
 |n+1,w,f,st=>by
  rw[wrR];split
  ·simp only;omega
  ·have:=Rm n (w.drop 64) st.1 (addR (newS st) f st.1 [] ((w.take 64).map Fj))
   have h2:=zkn (newS st) f st.1 [] ((w.take 64).map Fj);have h3:=zko st;rw[h3.2] at h2;omega
theorem Xs:∀(r:List Int)(f:Nat)(st:MSt),(rdR r f st).1.1<=st.1+r.length/\(rdR r f st).1.2.length<=st.2.length+r.length
 |[],f,st=>by simp[rdR]
 |x::r,f,st=>by
  rw[rdR];split
  ·simp only[List.length_cons];omega
  ·have:=Xs r st.1 (addR (newS st) f st.1 [⟨x,x⟩] [])
   have h2:=zkn (newS st) f st.1 [⟨x,x⟩] [];have h3:=zko st;rw[h3.2] at h2;simp only[List.length_cons];omega
def zad(n:Rec):Prop:=∀f st,(mkM n f st).1.1+1<=st.1+4 * cntN n/\(mkM n f st).1.2.length+2<=st.2.length+6 * cntN n
theorem KJ:∀(l:List Rec),(∀n∈l,zad n)->∀f st,(catR l f st).1.1<=st.1+4 * cntA l/\(catR l f st).1.2.length<=st.2.length+6 * cntA l
 |[],_,f,st=>by simp[catR,cntA]
 |n::l,h,f,st=>by
  have h1:=h n (by simp) f st;have h2:=KJ l (λm hm=>h m (by simp[hm])) (mkM n f st).2 (mkM n f st).1;rw[catR,cntA];omega
theorem TM:∀(l:List Rec),(∀n∈l,zad n)->∀f t st,(altR l f t st).1<=st.1+4 * cntA l/\(altR l f t st).2.length<=st.2.length+6 * cntA l
 |[],_,f,t,st=>by simp[altR,cntA]
 |n::l,h,f,t,st=>by
  have h1:=h n (by simp) st.1 (addR (newS st) f st.1 [] []);have h2:=TM l (λm hm=>h m (by simp[hm])) f t (addR (mkM n st.1 (addR (newS st) f st.1 [] [])).1 (mkM n st.1 (addR (newS st) f st.1 [] [])).2 t [] []);rw[altR,cntA];simp only[addR,newS,Ah,List.length_singleton] at h1 h2 ⊢;omega
theorem MD(n:Rec):zad n:=by
 refine Rec.ind (P:=zad) ?_ n;intro k s b r w l ih f st;have hc:cntN (.mk k s b r w l)=1+r.length+w.length+s.length+cntA l:=by rw[cntN]
 rw[hc,mkM];split
 ·simp only;omega
 split
 ·simp only[addR,newS,Ah,List.length_singleton];omega
 split
 ·simp only[addR,newS,Ah,List.length_singleton];omega
 split
 ·have h1:=Rm w.length w f st
  have h2:=Xs r (wrR w.length w f st).2 (wrR w.length w f st).1;omega
 split
 ·have h1:=TM l ih f st.1 (newS st)
  simp only[newS] at h1 ⊢;omega
 split
 ·have h1:=KJ l ih (st.1+1) (addR (newS (addR (newS st) f st.1 [] [])) st.1 (st.1+1) [] [])
  simp only[addR,newS,Ah,List.length_singleton] at h1 ⊢;omega
 ·have h1:=KJ l ih f st
  omega
def wrS(w:List Int):Sem:=λa e u=>e=a/\u=w
def symS(x:List Int)(c:Int):Sem:=λa e u=>a<x.length/\nth x a=c/\e=a+1/\u=[]
def rdS(x:List Int):List Int->Sem
 |[]=>idS
 |c::r=>seqS (symS x c) (rdS x r)
mutual
def semR(x:List Int):Rec->Sem
 |.mk k s b r w l=>if k=1 then z3c x ⟨0,0,[s],1,[cpyT b]⟩ else if k=2 then z3c x ⟨0,0,[s],1,[]⟩ else if k=3 then seqS (wrS w) (rdS x r)
  else if k=5 then semA x l else if k=6 then Star (semC x l) else semC x l
def semC(x:List Int):List Rec->Sem
 |[]=>idS
 |n::l=>seqS (semR x n) (semC x l)
def semA(x:List Int):List Rec->Sem
 |[]=>noS
 |n::l=>orS (semR x n) (semA x l)
end
def wrP:Nat->List Int->Nat->Nat->Pie
 |0,_,f,S=>([],S,f)
 |n+1,w,f,S=>if w.length=0 then ([],S,f) else (CN f S [] ((w.take 64).map Fj)::(wrP n (w.drop 64) S (S+1)).1,(wrP n (w.drop 64) S (S+1)).2)
def rdP:List Int->Nat->Nat->Pie
 |[],f,S=>([],S,f)
 |c::r,f,S=>(CN f S [⟨c,c⟩] []::(rdP r S (S+1)).1,(rdP r S (S+1)).2)
def zgg(f S:Nat)(p:Pie):Pie:=([CN f S [] [],CN S (S+1:Nat) [] []]++p.1++[CN p.2.2 S [] [],CN S p.2.1 [] []],p.2.1+1,p.2.1)
def seqP(p q:Pie):Pie:=(p.1++q.1,q.2.1,q.2.2)
mutual
def mkP:Rec->Nat->Nat->Pie
 |.mk k s b r w l,f,S=>if k=1 then ([CN f S s [cpyT b]],S+1,S) else if k=2 then ([CN f S s []],S+1,S)
  else if k=3 then seqP (wrP w.length w f S) (rdP r (wrP w.length w f S).2.2 (wrP w.length w f S).2.1)
  else if k=5 then ((altP l f S (S+1)).1,(altP l f S (S+1)).2,S)
  else if k=6 then zgg f S (catP l (S+1) (S+2)) else catP l f S
def catP:List Rec->Nat->Nat->Pie
 |[],f,S=>([],S,f)
 |n::l,f,S=>seqP (mkP n f S) (catP l (mkP n f S).2.2 (mkP n f S).2.1)
def altP:List Rec->Nat->Nat->Nat->List Rule × Nat
 |[],_,_,S=>([],S)
 |n::l,f,t,S=>(CN f S [] []::(mkP n S (S+1)).1++CN (mkP n S (S+1)).2.2 t [] []::(altP l f t (mkP n S (S+1)).2.1).1,(altP l f t (mkP n S (S+1)).2.1).2)
end
section
variable {x:List Int}{f S:Nat}
theorem Je{s s':Sem}{nl:Bool}{p:Pie}(h:∀a e u,a<=x.length->(s a e u↔s' a e u))(hg:Good x s nl f S p):Good x s' nl f S p:=by
 refine⟨hg.mono,hg.to_,hg.same,hg.dom,λD hD a w ha=>?_,hg.cyc,λa e u hs ha=>hg.semd a e u ((h a e u ha).2 hs) ha⟩;rw[hg.rel D hD a w ha];constructor
 ·rintro⟨e,u,v,k1,k2⟩;exact⟨e,u,v,(h a e u ha).1 k1,k2⟩
 ·rintro⟨e,u,v,k1,k2⟩;exact⟨e,u,v,(h a e u ha).2 k1,k2⟩
theorem Rn{s:Sem}{n n':Bool}{p:Pie}(e:n=n')(h:Good x s n f S p):Good x s n' f S p:=e ▸ h
theorem PY(a c:Nat):EpsR (CN a c [] []) a c:=⟨rfl,rfl,rfl,rfl,rfl⟩
theorem zae(c:Int)(h:0<=c/\c<=1114111):valB ⟨0,0,21,0⟩ c=true/\valP ⟨0,0,21,0⟩ c=c:=by
 constructor
 ·show (FL ⟨0,0,21,0⟩&&decide (0<=c/\c<=2097151))=true
  rw[show FL ⟨0,0,21,0⟩=true from rfl,AO (by omega)];rfl
 ·show c / 1 % 2097152 * 1=c
  omega
theorem z4j{c:Int}(h:0<=c/\c<=1114111):IntKind.i32.wrap ((EL (Fj c) []).getD 0)=c:=by
 obtain⟨h1,h2⟩:=zae c h
 have:EL (Fj c) []=some c:=by
  have e:EL (Fj c) []=if valB ⟨0,0,21,0⟩ c&&decide (c<=1114111) then some (IntKind.i64.wrap (0+valP ⟨0,0,21,0⟩ c)) else none:=rfl
  rw[e,h1,h2,AO (by omega),Bool.and_self,Ae rfl,Int.zero_add,IntWalk.i64_in _ (by omega)]
 rw[this];exact IntWalk.i32_in c (by omega)
theorem YZ{w:List Int}(h:∀c∈w,0<=c/\c<=1114111)(a:Nat):FR x (w.map Fj) [] a=w:=by
 show List.map _ (w.map Fj)=w;rw[C8];refine (AS λc hc=>?_).trans (FT w);exact z4j (h c hc)
theorem z4k:∀(n:Nat)(w:List Int)(f S:Nat),w.length<=n->(∀c∈w,0<=c/\c<=1114111)->f<S->Good x (wrS w) true f S (wrP n w f S)
 |0,w,f,S,hn,hw,hf=>by
  obtain rfl:w=[]:=Av (by omega);exact M8 hf
 |n+1,w,f,S,hn,hw,hf=>by
  rw[wrP];split
  ·rename_i h0
   obtain rfl:w=[]:=Av h0;exact M8 hf
  ·have h1:=KD (x:=x) (f:=f) (S:=S) (CN f S [] ((w.take 64).map Fj)) hf rfl rfl (Ad _) (λh=>by cases h)
   have h2:=z4k n (w.drop 64) S (S+1) (by rw[List.length_drop];omega) (λc hc=>hw c (BB hc)) (Nat.lt_succ_self _);refine Je (λa e u ha=>?_) (M9 hf h1 h2);have hh:=YZ (x:=x) (w:=w.take 64) (λc hc=>hw c (B6 hc)) a;constructor
   ·rintro⟨e1,u1,u2,⟨_,k2,k3⟩,⟨k4,k5⟩,rfl⟩
    have k3:u1=FR x ((w.take 64).map Fj) [] a:=k3;have k2:e1=a:=k2;subst k2 k4;rw[k3,hh,k5];exact⟨rfl,Cf 64 w⟩
   ·rintro⟨rfl,rfl⟩
    refine⟨e,u.take 64,u.drop 64,⟨?_,rfl,hh.symm⟩,⟨rfl,rfl⟩,(Cf 64 u).symm⟩;show goB x [] e=true;simp[goB,ha]
theorem zgh{c:Int}(hc:-1073741824<=c/\c<=1073741824)(a e:Nat)(u:List Int):z3c x (CN f S [⟨c,c⟩] []) a e u↔symS x c a e u:=by
 have hr:CN (f:Nat) S [⟨c,c⟩] []=⟨f,S,[[⟨c,c⟩]],1,[]⟩:=rfl;rw[hr,z3c,symS];simp only[goB,List.length_singleton,Ab,Ai,List.range_one,List.all_cons,List.all_nil,DG,Nat.add_zero]
 have hh:hasI (nth [[(⟨c,c⟩:Span)]] 0) (nth x a)=true↔nth x a=c:=by
  show hasI [⟨c,c⟩] (nth x a)=true↔_;simp only[hasI,List.any_cons,List.any_nil,DI,Ab,Ai];omega
 rw[hh];constructor
 ·rintro⟨⟨h1,h2⟩,h3,h4⟩;exact⟨by omega,h2,h3,h4⟩
 ·rintro⟨h1,h2,h3,h4⟩;exact⟨⟨by omega,h2⟩,h3,h4⟩
theorem z4l:∀(r:List Int)(f S:Nat),(∀c∈r,0<=c/\c<=1114111)->f<S->Good x (rdS x r) (decide (r.length=0)) f S (rdP r f S)
 |[],f,S,hw,hf=>M8 hf
 |c::r,f,S,hw,hf=>by
  have h1:=KD (x:=x) (f:=f) (S:=S) (CN f S [⟨c,c⟩] []) hf rfl rfl (Ad _) (λh=>Ad _);have h1:=Je (s':=symS x c) (λa e u _=>zgh (by have:=hw c (by simp);omega) a e u) h1;have h2:=z4l r S (S+1) (λc hc=>hw c (by simp[hc])) (Nat.lt_succ_self _);exact Rn (by rw[show CZ (CN (f:Nat) S [⟨c,c⟩] [])=false from rfl,Bh,List.length_cons];simp) (M9 hf h1 h2)
end
theorem TN{c:Int}(h:E3 2 c=true):0<=c/\c<=1114111:=by
 simp only[E3,Ai] at h;omega
theorem KN{i:Int}{s:List Span}(h:EN i s=true):0<s.length:=by
 simp only[EN,Ab,AQ,Bc] at h;omega
section
variable {x:List Int}
theorem Good.lt{s:Sem}{nl:Bool}{f S:Nat}{p:Pie}(h:Good x s nl f S p)(hf:f<S):p.2.2<p.2.1:=by
 have h1:=h.mono;rcases h.to_ with h2|h2
 ·omega
 ·exact h2.2
def zaf(x:List Int)(n:Rec):Prop:=∀f S,f<S->Good x (semR x n) (G1 n) f S (mkP n f S)
theorem Ro:∀(l:List Rec),(∀n∈l,zaf x n)->∀f S,f<S->Good x (semC x l) (Ff l) f S (catP l f S)
 |[],_,f,S,hf=>M8 hf
 |n::l,h,f,S,hf=>by
  have h1:=h n (by simp) f S hf;rw[semC,Ff,catP];exact M9 hf h1 (Ro l (λm hm=>h m (by simp[hm])) _ _ (h1.lt hf))
theorem TO:∀(l:List Rec),(∀n∈l,zaf x n)->∀f t S,f<t->t<S->AltG x (semA x l) (Gl l) f t S (altP l f t S).1 (altP l f t S).2
 |[],_,f,t,S,_,_=>by rw[altP];exact zfy
 |n::l,h,f,t,S,hf,ht=>by
  have h1:=h n (by simp) S (S+1) (Nat.lt_succ_self _);have hm:=h1.mono;rw[semA,Gl,altP];exact z97 _ _ hf ht h1 (PY _ _) (PY _ _) (TO l (λm hm=>h m (by simp[hm])) f t _ hf (by omega))
theorem JP:∀{l:List Rec}{d:Int},okL l d=true->∀n∈l,okR n d=true
 |a::l,d,h,n,hn=>by
  rw[okL,Ab] at h;rcases Af.1 hn with rfl|hn
  ·exact h.1
  ·exact JP h.2 n hn
theorem KO(a c:Nat){s:List Span}(h:0<s.length)(out:List Term):CN a c s out=⟨a,c,[s],1,out⟩:=Ae h
theorem zgi(n:Rec):∀d,okR n d=true->zaf x n:=by
 refine Rec.ind (P:=λn=>∀d,okR n d=true->zaf x n) ?_ n;intro k s b r w l ih d h f S hf;rw[okR,Ab] at h;obtain⟨_,h⟩:=h;rw[mkP,semR,G1];by_cases h1:k=1
 ·subst h1
  simp only[Int.reduceEq,↓reduceIte,or_self,Ar,BV,BW,B7,Bp,BA,Ab,AQ] at h ⊢;have hs:=KN h.2.1;rw[KO _ _ hs];exact Je (λa e u _=>Iff.rfl) (Rn rfl (KD (x:=x) ⟨f,S,[s],1,[cpyT b]⟩ hf rfl rfl (Ad _) (λ_=>Ad _)))
 by_cases h2:k=2
 ·subst h2
  simp only[Int.reduceEq,↓reduceIte,or_self,Ar,BV,BW,B7,Bp,BA,Ab,AQ] at h ⊢;have hs:=KN h;rw[KO _ _ hs];exact Je (λa e u _=>Iff.rfl) (Rn rfl (KD (x:=x) ⟨f,S,[s],1,[]⟩ hf rfl rfl (Ad _) (λ_=>Ad _)))
 by_cases h3:k=3
 ·subst h3
  simp only[Int.reduceEq,↓reduceIte,or_self,Ar,BV,BW,B7,Bp,BA,Ab,AQ] at h ⊢;rw[AR,AR] at h;have g1:=z4k (x:=x) w.length w f S (Ad _) (λc hc=>TN (h.2 c hc)) hf;have g2:=z4l (x:=x) r _ _ (λc hc=>TN (h.1 c hc)) (g1.lt hf);exact Rn (by rw[AP]) (M9 hf g1 g2)
 by_cases h5:k=5
 ·subst h5
  simp only[Int.reduceEq,↓reduceIte,or_self,Ar,BV,BW,B7,Bp,BA,Ab,AQ] at h ⊢;exact z98 hf (TO l (λn hn=>ih n hn _ (JP h n hn)) f S (S+1) hf (Nat.lt_succ_self _))
 by_cases h6:k=6
 ·subst h6
  simp only[Int.reduceEq,↓reduceIte,or_self,Ar,BV,BW,B7,Bp,BA,Ab,AQ] at h ⊢;have hc:=Ro l (λn hn=>ih n hn _ (JP h.1 n hn)) (S+1) (S+2) (Nat.lt_succ_self _);rw[h.2] at hc;exact z3d _ _ _ _ hf hc (PY _ _) (PY _ _) (PY _ _) (PY _ _)
 by_cases h4:k=4
 ·subst h4
  simp only[Int.reduceEq,↓reduceIte,or_self,Ar,BV,BW,B7,Bp,BA,Ab,AQ] at h ⊢;exact Ro l (λn hn=>ih n hn _ (JP h n hn)) f S hf
 ·rw[Ac h1,Ac h2,Ac h3,Ac (by omega),Ac h6] at h
  cases h
end
def ExtS(st st':MSt):Prop:=st.1<=st'.1/\st.2.length<=st'.2.length
theorem ExtS.trans{a b c:MSt}(h:ExtS a b)(k:ExtS b c):ExtS a c:=⟨AZ h.1 k.1,AZ h.2 k.2⟩
theorem ExtS.refl(a:MSt):ExtS a a:=⟨Ad _,Ad _⟩
theorem Ig(st:MSt)(a c:Nat)(s:List Span)(out:List Term):ExtS st (addR (newS st) a c s out):=by simp[ExtS,addR,newS]
theorem ME(st:MSt)(a c:Nat)(s:List Span)(out:List Term):ExtS st (addR st a c s out):=by simp[ExtS,addR]
theorem ExtS.full{a b:MSt}(h:ExtS a b)(hb:Gm b=false):Gm a=false:=by
 simp only[Gm,Gx,Bool.or_eq_false_iff,Bc] at hb ⊢;obtain⟨h1,h2⟩:=h;omega
theorem z4m:∀(n:Nat)(w:List Int)(f:Nat)(st:MSt),ExtS st (wrR n w f st).1
 |0,w,f,st=>.refl _
 |n+1,w,f,st=>by
  rw[wrR];split
  ·exact .refl _
  ·exact (Ig st f st.1 [] _).trans (z4m n _ _ _)
theorem Xt:∀(r:List Int)(f:Nat)(st:MSt),ExtS st (rdR r f st).1
 |[],f,st=>.refl _
 |x::r,f,st=>by
  rw[rdR];split
  ·exact .refl _
  ·exact (Ig st f st.1 [⟨x,x⟩] []).trans (Xt r _ _)
theorem Rp:∀(l:List Rec),(∀n∈l,∀f st,ExtS st (mkM n f st).1)->∀f st,ExtS st (catR l f st).1
 |[],_,f,st=>by rw[catR];exact .refl _
 |n::l,h,f,st=>by
  rw[catR];exact (h n (by simp) f st).trans (Rp l (λm hm=>h m (by simp[hm])) _ _)
theorem Vq:∀(l:List Rec),(∀n∈l,∀f st,ExtS st (mkM n f st).1)->∀f t st,ExtS st (altR l f t st)
 |[],_,f,t,st=>by rw[altR];exact .refl _
 |n::l,h,f,t,st=>by
  rw[altR];exact (((Ig st f st.1 [] []).trans (h n (by simp) _ _)).trans (ME _ _ _ _ _)).trans (Vq l (λm hm=>h m (by simp[hm])) _ _ _)
theorem z4n(n:Rec):∀f st,ExtS st (mkM n f st).1:=by
 refine Rec.ind (P:=λn=>∀f st,ExtS st (mkM n f st).1) ?_ n;intro k s b r w l ih f st;rw[mkM];split
 ·exact .refl _
 split
 ·exact Ig _ _ _ _ _
 split
 ·exact Ig _ _ _ _ _
 split
 ·exact (z4m _ _ _ _).trans (Xt _ _ _)
 split
 ·exact ExtS.trans (show ExtS st (newS st) from ⟨Dq _,Ad _⟩) (Vq l ih _ _ _)
 split
 ·exact ((((Ig st _ _ _ _).trans (Ig _ _ _ _ _)).trans (Rp l ih _ _)).trans (ME _ _ _ _ _)).trans (Ig _ _ _ _ _)
 ·exact Rp l ih _ _
def isP(st:MSt)(p:Pie)(q:MSt × Nat):Prop:=q=((p.2.1,st.2++p.1),p.2.2)
theorem z4o:∀(n:Nat)(w:List Int)(f:Nat)(st:MSt),Gm (wrR n w f st).1=false->isP st (wrP n w f st.1) (wrR n w f st)
 |0,w,f,st,_=>by simp[isP,wrR,wrP]
 |n+1,w,f,st,h=>by
  have hs:=(z4m (n+1) w f st).full h;rw[wrR] at h ⊢;rw[wrP];by_cases h0:w.length=0
  ·rw[Ae h0,Ae (Or.inl h0)];simp[isP]
  ·have hn:¬(w.length=0\/Gm st=true):=by
    rintro (h1|h1)
    ·exact h0 h1
    ·rw[hs] at h1;cases h1
   rw[Ac hn] at h;rw[Ac h0,Ac hn];have:=z4o n _ _ _ h;rw[isP] at this ⊢;rw[this];simp[addR,newS]
theorem z4p:∀(r:List Int)(f:Nat)(st:MSt),Gm (rdR r f st).1=false->isP st (rdP r f st.1) (rdR r f st)
 |[],f,st,_=>by simp[isP,rdR,rdP]
 |x::r,f,st,h=>by
  have hs:=(Xt (x::r) f st).full h;rw[rdR,Ac (by rw[hs];simp)] at h ⊢;rw[rdP];have:=z4p r _ _ h;rw[isP] at this ⊢;rw[this];simp[addR,newS]
def zag(n:Rec):Prop:=∀f st,Gm (mkM n f st).1=false->isP st (mkP n f st.1) (mkM n f st)
theorem Rq:∀(l:List Rec),(∀n∈l,zag n)->∀f st,Gm (catR l f st).1=false->isP st (catP l f st.1) (catR l f st)
 |[],_,f,st,_=>by simp[isP,catR,catP]
 |n::l,h,f,st,hf=>by
  rw[catR] at hf ⊢;have h1:=h n (by simp) f st ((Rp l (λm _=>z4n m) _ _).full hf);have h2:=Rq l (λm hm=>h m (by simp[hm])) _ _ hf;rw[isP] at h1 h2 ⊢;rw[catP,h2,h1];simp[seqP]
theorem Xu:∀(l:List Rec),(∀n∈l,zag n)->∀f t st,Gm (altR l f t st)=false->altR l f t st=((altP l f t st.1).2,st.2++(altP l f t st.1).1)
 |[],_,f,t,st,_=>by simp[altR,altP]
 |n::l,h,f,t,st,hf=>by
  rw[altR] at hf ⊢;have h1:=h n (by simp) st.1 (addR (newS st) f st.1 [] []) (((ME _ _ _ _ _).trans (Vq l (λm _=>z4n m) _ _ _)).full hf);have h2:=Xu l (λm hm=>h m (by simp[hm])) _ _ _ hf;rw[isP] at h1;rw[altP,h2,h1];simp[addR,newS]
theorem zgj(n:Rec):zag n:=by
 refine Rec.ind (P:=zag) ?_ n;intro k s b r w l ih f st h;have hs:=(z4n (.mk k s b r w l) f st).full h;rw[mkM,Ac (by rw[hs];simp)] at h ⊢;rw[mkP];by_cases h1:k=1
 ·rw[Ae h1,Ae h1];simp[isP,addR,newS]
 by_cases h2:k=2
 ·rw[Ac h1,Ae h2,Ac h1,Ae h2];simp[isP,addR,newS]
 rw[Ac h1,Ac h2] at h ⊢;rw[Ac h1,Ac h2];by_cases h3:k=3
 ·rw[Ae h3] at h ⊢
  rw[Ae h3];have k1:=z4o w.length w f st ((Xt _ _ _).full h);have k2:=z4p r _ _ h;rw[isP] at k1 k2 ⊢;rw[k2,k1];simp[seqP]
 rw[Ac h3] at h ⊢;rw[Ac h3];by_cases h5:k=5
 ·rw[Ae h5] at h ⊢
  rw[Ae h5];have k1:=Xu l ih f st.1 (newS st) h;rw[isP];simp only;rw[k1];rfl
 rw[Ac h5] at h ⊢;rw[Ac h5];by_cases h6:k=6
 ·rw[Ae h6] at h ⊢
  rw[Ae h6];have k1:=Rq l ih (st.1+1) (addR (newS (addR (newS st) f st.1 [] [])) st.1 (st.1+1) [] []) (((ME _ _ _ _ _).trans (Ig _ _ _ _ _)).full h);rw[isP] at k1 ⊢;simp only;rw[k1];simp[addR,newS,zgg]
 ·rw[Ac h6] at h ⊢
  rw[Ac h6];exact Rq l ih f st h
set_option maxRecDepth 100000
structure CSt where
 i:Nat
 f:Nat
 S:Nat
 R:List Rule
 v:Nat
def PZ(n:Rec):Prop:=∀(f S:Nat)(R:List Rule)(v:Nat),S+8 * cntN n<=300000->R.length+8 * cntN n<=300000 ->
 B2 Tryz.prog 47 [.ptr 0 1 0 0,recV n,.int .i64 f] (Abs.hl (mkH S R v)) λy H'=>y=.int .i64 ((mkM n f (S,R)).2:Nat)/\∃v',H'=Abs.hl (mkH (mkM n f (S,R)).1.1 (mkM n f (S,R)).1.2 v')
theorem z4q(r:List Int)(s:List Span)(b:Int)(w:List Int)(l:List Rec)(f S:Nat)(R:List Rule)(v:Nat)(hf:Ea (.mk 3 s b r w l))(hS:S+8 * cntN (.mk 3 s b r w l)<=300000)(hR:R.length+8 * cntN (.mk 3 s b r w l)<=300000):
 B2 Tryz.prog 47 [.ptr 0 1 0 0,recV (.mk 3 s b r w l),.int .i64 f] (Abs.hl (mkH S R v)) λy H'=>y=.int .i64 ((mkM (.mk 3 s b r w l) f (S,R)).2:Nat)/\∃v',H'=Abs.hl (mkH (mkM (.mk 3 s b r w l) f (S,R)).1.1 (mkM (.mk 3 s b r w l) f (S,R)).1.2 v'):=by
 cases hf with
 |mk hs hr hw hl hch =>
 rw[cntN] at hS hR;have ps:=AX s;have pr:AD (r.map (AV.int .i32))=true:=AG .i32 _;have pw:AD (w.map (AV.int .i32))=true:=AG .i32 _;have pl:=BN l;have hFu:=Fc S R v
 have e0:mkM (.mk 3 s b r w l) f (S,R)=if Gx S R=true then ((S,R),f) else rdR r (wrR w.length w f (S,R)).2 (wrR w.length w f (S,R)).1:=by
  rw[mkM,Ac (show ¬(3:Int)=1 by decide),Ac (show ¬(3:Int)=2 by decide),Ae rfl];rfl
 rw[Ck,e0];clear e0;refine DJ (G3 Dh (W_T ?_));unfold CJ;cases hfu:Gx S R with
 |true =>
  rw[hfu] at hFu;rw[Ae rfl];unfold mkH at hFu ⊢;(with_reducible repeat'(first|simp (disch:=omega) only[push_cast,↓zz,seval,ps,pr,pw,pl]|apply Aa|refine sp_ ?_ ?_<;>intro hc<;>push_cast at hc|omega|intro _))
  (refine Ch [0,1] (hFu) (by decide) (by simp) (by (simp(disch:=omega)only[push_cast,↓zz,seval,ps,pr,pw,pl])) (by (simp(disch:=omega)only[push_cast,↓zz,seval,ps,pr,pw,pl])) (by (simp(disch:=omega)only[push_cast,↓zz,seval,ps,pr,pw,pl])) (by (simp(disch:=omega)only[push_cast,↓zz,seval,Af,Aj,Ar,Aw,AL,As,ps,pr,pw,pl])) ?_)
  rintro y H' ⟨rfl,rfl⟩;refine⟨_,rfl,by simp,?_⟩;(with_reducible repeat'(first|simp (disch:=omega) only[push_cast,↓zz,seval,ps,pr,pw,pl]|apply Aa|refine sp_ ?_ ?_<;>intro hc<;>push_cast at hc|omega|intro _));exact⟨_,_,Hc (l0:=mkH S R v) (gar:=[_]) rfl (Ad _) H9 trivial,rfl,v,rfl⟩
 |false =>
  rw[hfu] at hFu;rw[Ac (by simp)];have hWr:=Tz w f S R v (by omega) hw.2 (by omega) (by omega);have hgr:=Rm w.length w f (S,R);simp only at hgr;generalize hT:wrR w.length w f (S,R)=T at *;obtain⟨⟨S1,R1⟩,f1⟩:=T;generalize hT2:rdR r f1 (S1,R1)=T2 at *;simp only at hWr hgr hT2 ⊢;obtain⟨⟨S2,R2⟩,f2⟩:=T2;unfold mkH at hFu hWr ⊢;(with_reducible repeat'(first|simp (disch:=omega) only[push_cast,↓zz,seval,ps,pr,pw,pl]|apply Aa|refine sp_ ?_ ?_<;>intro hc<;>push_cast at hc|omega|intro _))
  (refine Ch [0,1] (hFu) (by decide) (by simp) (by (simp(disch:=omega)only[push_cast,↓zz,seval,ps,pr,pw,pl])) (by (simp(disch:=omega)only[push_cast,↓zz,seval,ps,pr,pw,pl])) (by (simp(disch:=omega)only[push_cast,↓zz,seval,ps,pr,pw,pl])) (by (simp(disch:=omega)only[push_cast,↓zz,seval,Af,Aj,Ar,Aw,AL,As,ps,pr,pw,pl])) ?_)
  rintro y H' ⟨rfl,rfl⟩;refine⟨_,rfl,by simp,?_⟩;(with_reducible repeat'(first|simp (disch:=omega) only[push_cast,↓zz,seval,ps,pr,pw,pl]|apply Aa|refine sp_ ?_ ?_<;>intro hc<;>push_cast at hc|omega|intro _))
  (refine Ch [0,1] (hWr) (by decide) (by simp) (by (simp(disch:=omega)only[push_cast,↓zz,seval,ps,pr,pw,pl])) (by (simp(disch:=omega)only[push_cast,↓zz,seval,ps,pr,pw,pl])) (by (simp(disch:=omega)only[push_cast,↓zz,seval,ps,pr,pw,pl])) (by (simp(disch:=omega)only[push_cast,↓zz,seval,Af,Aj,Ar,Aw,AL,As,ps,pr,pw,pl])) ?_)
  rintro y H' ⟨rfl,v1,rfl⟩;refine⟨_,rfl,by simp,?_⟩;(with_reducible repeat'(first|simp (disch:=omega) only[push_cast,↓zz,seval,ps,pr,pw,pl]|apply Aa|refine sp_ ?_ ?_<;>intro hc<;>push_cast at hc|omega|intro _))
  refine Bw (B5 (λ(q:CSt)=>q.i<=r.length/\rdR (r.drop q.i) q.f (q.S,q.R)=((S2,R2),f2)/\q.S+(r.length-q.i)<=300000/\q.R.length+(r.length-q.i)<=300000) (λq=>r.length-q.i)
   (λq=>[(0,.ptr 0 1 0 0),(2,.int .i64 q.f),(57,AH r),(58,.int .i64 r.length),(59,.int .i64 q.i)]) (λq=>mkH q.S q.R q.v) (λ_ _=>[]) ⟨0,f1,S1,R1,v1⟩ ⟨A6 _,hT2,by simp only;omega,by simp only;omega⟩ ?_ ?_)
  ·unfold mkH
   (with_reducible repeat'(first|simp (disch:=omega) only[push_cast,↓zz,seval,ps,pr,pw,pl]|apply Aa|refine sp_ ?_ ?_<;>intro hc<;>push_cast at hc|omega|intro _))
  rintro⟨i,f',S',R',v'⟩ ⟨hi,hk,hb1,hb2⟩;simp only at hi hk hb1 hb2 ⊢;rcases Ak i r.length with hir|hir
  ·rw[drop_at hir,rdR] at hk
   have hFu2:=Fc S' R' v';have hx:=hr.2 _ (Bo hir);cases hfu2:Gx S' R' with
   |true =>
    rw[Ae (show Gm (S',R')=true from hfu2)] at hk;obtain⟨⟨rfl,rfl⟩,rfl⟩:(S'=S2/\R'=R2)/\f'=f2:=by simpa using hk
    rw[hfu2] at hFu2;generalize nth r i=x at *;unfold mkH at hFu2 ⊢;refine W_T ?_;(with_reducible repeat'(first|simp (disch:=omega) only[push_cast,↓zz,seval,ps,pr,pw,pl]|apply Aa|refine sp_ ?_ ?_<;>intro hc<;>push_cast at hc|omega|intro _))
    (refine Ch [0,1] (hFu2) (by decide) (by simp) (by (simp(disch:=omega)only[push_cast,↓zz,seval,ps,pr,pw,pl])) (by (simp(disch:=omega)only[push_cast,↓zz,seval,ps,pr,pw,pl])) (by (simp(disch:=omega)only[push_cast,↓zz,seval,ps,pr,pw,pl])) (by (simp(disch:=omega)only[push_cast,↓zz,seval,Af,Aj,Ar,Aw,AL,As,ps,pr,pw,pl])) ?_)
    rintro y H' ⟨rfl,rfl⟩;refine⟨_,rfl,by simp,?_⟩;(with_reducible repeat'(first|simp (disch:=omega) only[push_cast,↓zz,seval,ps,pr,pw,pl]|apply Aa|refine sp_ ?_ ?_<;>intro hc<;>push_cast at hc|omega|intro _));exact⟨_,_,Ent.refl,rfl,v',rfl⟩
   |false =>
    rw[Ac (by rw[show Gm (S',R')=Gx S' R' from rfl,hfu2];simp)] at hk;rw[hfu2] at hFu2;have hSt:=E4 S' R' v' (by omega);have hRu:=Ol (S'+1) R' v' f' S' [⟨nth r i,nth r i⟩] (by simp) (by omega);have w64:IntKind.i64.wrap (nth r i)=nth r i:=IntWalk.i64_in _ (by omega);generalize hxe:nth r i=x at *;unfold mkH at hFu2 hSt hRu ⊢;refine W_T ?_;(with_reducible repeat'(first|simp (disch:=omega) only[push_cast,↓zz,seval,ps,pr,pw,pl,hxe]|apply Aa|refine sp_ ?_ ?_<;>intro hc<;>push_cast at hc|omega|intro _))
    (refine Ch [0,1] (hFu2) (by decide) (by simp) (by (simp(disch:=omega)only[push_cast,↓zz,seval,ps,pr,pw,pl])) (by (simp(disch:=omega)only[push_cast,↓zz,seval,ps,pr,pw,pl])) (by (simp(disch:=omega)only[push_cast,↓zz,seval,ps,pr,pw,pl])) (by (simp(disch:=omega)only[push_cast,↓zz,seval,Af,Aj,Ar,Aw,AL,As,ps,pr,pw,pl])) ?_)
    rintro y H' ⟨rfl,rfl⟩;refine⟨_,rfl,by simp,?_⟩;(with_reducible repeat'(first|simp (disch:=omega) only[push_cast,↓zz,seval,ps,pr,pw,pl]|apply Aa|refine sp_ ?_ ?_<;>intro hc<;>push_cast at hc|omega|intro _))
    (refine Ch [0,1] (hSt) (by decide) (by simp) (by (simp(disch:=omega)only[push_cast,↓zz,seval,ps,pr,pw,pl])) (by (simp(disch:=omega)only[push_cast,↓zz,seval,ps,pr,pw,pl])) (by (simp(disch:=omega)only[push_cast,↓zz,seval,ps,pr,pw,pl])) (by (simp(disch:=omega)only[push_cast,↓zz,seval,Af,Aj,Ar,Aw,AL,As,ps,pr,pw,pl])) ?_)
    rintro y H' ⟨rfl,rfl⟩;refine⟨_,rfl,by simp,?_⟩;(with_reducible repeat'(first|simp (disch:=omega) only[push_cast,↓zz,seval,ps,pr,pw,pl,w64,hxe]|apply Aa|refine sp_ ?_ ?_<;>intro hc<;>push_cast at hc|omega|intro _));refine TL (l':=[⟨6,1,true,[.agg [.int .i64 2,.int .i64 2,.int .i64 ((S':Int)+1),.int .i64 0,.ref 1 v' 0 R'.length,.nilS]]⟩,⟨5,v',false,R'.map Hs⟩,⟨0,2,false,[]⟩]) 3 2 2 1 1 (by decide) (by simp) rfl (by simp[AD,AV.pure]) rfl rfl rfl ?_
    (refine Ch [0,1] (hRu) (by decide) (by simp) (by (simp(disch:=omega)only[push_cast,↓zz,seval,ps,pr,pw,pl,FA,IT,List.set_cons_succ,List.set_cons_zero])) (by (simp(disch:=omega)only[push_cast,↓zz,seval,ps,pr,pw,pl,FA,IT,List.set_cons_succ,List.set_cons_zero])) (by (simp(disch:=omega)only[push_cast,↓zz,seval,ps,pr,pw,pl,FA,IT,List.set_cons_succ,List.set_cons_zero])) (by (simp(disch:=omega)only[push_cast,↓zz,seval,Af,Aj,Ar,Aw,AL,As,ps,pr,pw,pl,FA,IT,List.set_cons_succ,List.set_cons_zero])) ?_)
    rintro y H' ⟨rfl,v2,rfl⟩;refine⟨_,rfl,by simp,?_⟩;(with_reducible repeat'(first|simp (disch:=omega) only[push_cast,↓zz,seval,ps,pr,pw,pl]|apply Aa|refine sp_ ?_ ?_<;>intro hc<;>push_cast at hc|omega|intro _))
    all_goals
     refine⟨⟨i+1,S',S'+1,R'++[CN f' S' [⟨x,x⟩] []],v2⟩,?_⟩;(with_reducible repeat'(first|simp (disch:=omega) only[push_cast,↓zz,seval,ps,pr,pw,pl]|apply Aa|refine sp_ ?_ ?_<;>intro hc<;>push_cast at hc|omega|intro _))
    all_goals first|exact hk|(simp;omega)|trace_state
  ·obtain rfl:i=r.length:=by omega
   rw[List.drop_length,rdR] at hk;obtain⟨⟨rfl,rfl⟩,rfl⟩:(S'=S2/\R'=R2)/\f'=f2:=by simpa using hk
   unfold mkH;refine W_T ?_;(with_reducible repeat'(first|simp (disch:=omega) only[push_cast,↓zz,seval,ps,pr,pw,pl]|apply Aa|refine sp_ ?_ ?_<;>intro hc<;>push_cast at hc|omega|intro _));exact⟨_,_,Ent.refl,rfl,v',rfl⟩
end Go.Proofs.YtflibbceibjddaaGreat
