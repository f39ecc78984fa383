/-
  Parts of the proof that the law holds whatever the input; without conditions.
-/
import Derived.Shelf.SlSortCmp.Whole1
import Derived.Shelf.Small.Bits
import Derived.Ground.SlsfProg
import Derived.Ground.NamesProg
import Derived.Test.YtflibbceibjddaaGreatProg
import Derived.Test.YtflibbceibjddaaGreatNF7
import Derived.Test.YtflibbceibjddaaGreatNF6
import Derived.Test.YtflibbceibjddaaGreatNF4
import Derived.Test.YtflibbceibjddaaGreatNF5
set_option linter.unusedSimpArgs false
set_option linter.unusedVariables false
set_option linter.unusedSectionVars false
set_option maxRecDepth 100000
namespace Go.Proofs.YtflibbceibjddaaGreat
open Abs O1 O2 O3
def I7{β:Type}[Inhabited β](fr:β->Int)(l:List β)(k:Nat)(s:Nat):List Nat:=(List.range k).filter λi=>decide (fr (nth l i)=(s:Int))
section
variable {β:Type}[Inhabited β]{fr:β->Int}{l:List β}
theorem Pu(k s:Nat):(I7 fr l k s).length<=k:=by
 have:=BI (λi=>decide (fr (nth l i)=(s:Int))) (List.range k);simpa [I7] using this
theorem QX{k i:Nat}(hi:fr (nth l k)=i):I7 fr l (k+1)=setD (I7 fr l k) i (I7 fr l k i++[k]):=by
 funext s;simp only[I7,FY,CF,Cg,List.filter_nil,hi,Ah,setD];by_cases e:s=i
 ·subst e;simp
 ·rw[Ab (by omega),Ab e];simp
end
def fiI(l:List H8)(s:Nat):List Nat:=I7 (·.from_) l l.length s
theorem zd9(l:List Rule):I7 (·.from_) l l.length=ruI l:=rfl
def bgL(d:Desc)(x:List Int)(R F:AV)(n:Nat)(T1 T2:Grp):List Grp:=[⟨1,1,true,[.ptr 1 1 0 0]⟩,⟨11,1,true,[rnB d x R F .nilS .nilS]⟩,T1,T2,⟨6,1,true,[DV d]⟩]
def bgR(d:Desc)(x:List Int)(n k:Nat)(V:Nat->Nat):List Grp:=bgL d x (.ref 2 1 0 n) (.ref 3 1 0 n) n ⟨1,1,true,fT 5 n V (I7 (·.from_) d.rules k)⟩ ⟨1,1,true,List.replicate n .nilS⟩++fF 1 e1 n V (I7 (·.from_) d.rules k)
def bgF(d:Desc)(x:List Int)(n k:Nat)(V:Nat->Nat):List Grp:=bgL d x (ruV d.rules n) (.ref 3 1 0 n) n ⟨0,2,false,[]⟩ ⟨1,1,true,fT 5 n V (I7 (·.from_) d.finals k)⟩++fF 1 e1 n V (I7 (·.from_) d.finals k)
theorem WC(d:Desc)(x:List Int)(n k:Nat)(V:Nat->Nat):(bgR d x n k V).length=n+5:=by simp[bgR,bgL,QR]
theorem WE(d:Desc)(x:List Int)(n k:Nat)(V:Nat->Nat):(bgF d x n k V).length=n+5:=by simp[bgF,bgL,QR]
theorem Ig{d:Desc}{x:List Int}{R F:AV}{n m:Nat}{T1 T2:Grp}(hm:5<=m)(hR:ltV m R)(hF:ltV m F)(h1:ltL m T1.xs)(h2:ltL m T2.xs):∀G∈bgL d x R F n T1 T2,ltL m G.xs:=λG hG=>by
 have q1:ltV m (FH d.rules):=Cy _ _ (BO _);have q2:ltV m (G1 d.finals):=Cy _ _ (Ch _);have q3:ltV m (A6 x):=Cy _ _ (D9 .i32 _);simp only[bgL,Af,Ai,Ap] at hG;rcases hG with rfl|rfl|rfl|rfl|rfl
 ·exact⟨(show 1<m by omega),trivial⟩
 ·exact⟨⟨trivial,trivial,trivial,trivial,q1,q2,q3,hR,hF,trivial,trivial,trivial⟩,trivial⟩
 ·exact h1
 ·exact h2
 ·exact CK _ _ (by simp[Bh,Ic])
theorem z0s(d:Desc)(x:List Int)(n k:Nat)(V:Nat->Nat):∀G∈bgR d x n k V,ltL (bgR d x n k V).length G.xs:=λG hG=>by
 rw[WC];rcases Ao.1 hG with hG|hG
 ·have a1:ltV (n+5) (.ref 2 1 0 n):=show 2<n+5 by omega
  have a2:ltV (n+5) (.ref 3 1 0 n):=show 3<n+5 by omega
  exact Ig (by omega) a1 a2 (zfb (by omega)) (CK _ _ (Jl n)) G hG
 ·exact zfc (λ_=>rfl) G hG
theorem z0t(d:Desc)(x:List Int)(n k:Nat)(V:Nat->Nat):∀G∈bgF d x n k V,ltL (bgF d x n k V).length G.xs:=λG hG=>by
 rw[WE];rcases Ao.1 hG with hG|hG
 ·have a1:ltV (n+5) (ruV d.rules n):=Cy _ _ (show Bh _=true from Gf λ_=>rfl)
  have a2:ltV (n+5) (.ref 3 1 0 n):=show 3<n+5 by omega
  exact Ig (T1:=⟨0,2,false,[]⟩) (by omega) a1 a2 trivial (zfb (by omega)) G hG
 ·exact zfc (λ_=>rfl) G hG
theorem YH{d:Desc}{x:List Int}{R F:AV}{n:Nat}{T1 T2:Grp}{Fm:List Grp}(hF:Fm.length=n)(t:Nat)(ht:t=2\/t=3):Ee 0 (fKs t 5 n) (bgL d x R F n T1 T2++Fm)=bgL d x R F n (if t=2 then T1.dead else T1) (if t=3 then T2.dead else T2)++Fm.map Grp.dead:=by
 have m0:(0:Nat)∉fKs t 5 n:=Ky (by omega) (by omega);have m1:(1:Nat)∉fKs t 5 n:=Ky (by omega) (by omega);have m4:(4:Nat)∉fKs t 5 n:=Ky (by omega) (by omega)
 have hK:Ee 5 (fKs t 5 n) Fm=Fm.map Grp.dead:=z6j λj hj=>by
  rw[Ci];exact z6h (by omega)
 rw[US];have e5:0+(bgL d x R F n T1 T2).length=5:=rfl;rw[e5,hK,bgL,Hg,Hg,Hg,Hg,Hg,RF,Ab m0,Ab m1,Ab m4];rcases ht with rfl|rfl
 ·rw[Ae (show (0+1+1:Nat)∈fKs 2 5 n by simp[fKs]),Ab (show (0+1+1+1:Nat)∉fKs 2 5 n from Ky (by omega) (by omega))]
  rfl
 ·rw[Ab (show (0+1+1:Nat)∉fKs 3 5 n from Ky (by omega) (by omega)),Ae (show (0+1+1+1:Nat)∈fKs 3 5 n by simp[fKs])]
  rfl
theorem z0u{m b:Nat}{env:Env}(d:Desc)(x:List Int)(n:Nat)(V:Nat->Nat):Ent m b env (Abs.hl (bgR d x n d.rules.length V)) env (Abs.hl (bgL d x (ruV d.rules n) (.ref 3 1 0 n) n ⟨0,2,false,[]⟩ ⟨1,1,true,List.replicate n .nilS⟩++(fF 1 e1 n V (ruI d.rules)).map Grp.dead)):=by
 have h1:(Abs.hl (bgR d x n d.rules.length V)).at_ 2=⟨1,1,true,fT 5 n V (ruI d.rules)⟩:=rfl
 have h2:∀i,i<n->(Abs.hl (bgR d x n d.rules.length V)).at_ (i+5)=gG 1 e1 (V i) (ruI d.rules i):=λi hi=>by
  rw[bgR,Dr,bgL];simp only[List.cons_append,List.nil_append,DU];exact zcs hi
 obtain⟨f1,f2⟩:=z6i (w:=1) (e:=e1) (by decide) (λ_=>rfl) h1 h2;refine Ls (g:=1) (w:=11) (v:=1) (d:=2) (ex:=true) (xs:=[rnB d x (.ref 2 1 0 n) (.ref 3 1 0 n) .nilS .nilS]) (ys:=[rnB d x (ruV d.rules n) (.ref 3 1 0 n) .nilS .nilS]) (fKs 2 5 n) (by decide) (by rw[WC];omega) rfl (Ky (by decide) (by omega)) ?_ ?_
 ·refine⟨_,[],rfl,.inr ⟨_,_,rfl,rfl,?_⟩,rfl⟩
  refine⟨_,_,rfl,.inl rfl,_,_,rfl,.inl rfl,_,_,rfl,.inl rfl,_,_,rfl,.inl rfl,_,_,rfl,.inl rfl,_,_,rfl,.inl rfl,_,_,rfl,.inl rfl,_,_,rfl,.inr ⟨f1,f2.symm⟩,_,_,rfl,.inl rfl,_,_,rfl,.inl rfl,_,_,rfl,.inl rfl,rfl⟩
 ·rw[bgR,YH QR 2 (.inl rfl),zd9]
  rfl
theorem z0v{m b:Nat}{env:Env}(d:Desc)(x:List Int)(n:Nat)(V:Nat->Nat):Ent m b env (Abs.hl (bgF d x n d.finals.length V)) env (Abs.hl (bgL d x (ruV d.rules n) (.lst 1 (fD 1 e1 n (fiI d.finals))) n ⟨0,2,false,[]⟩ ⟨0,2,false,[]⟩++(fF 1 e1 n V (fiI d.finals)).map Grp.dead)):=by
 have h1:(Abs.hl (bgF d x n d.finals.length V)).at_ 3=⟨1,1,true,fT 5 n V (fiI d.finals)⟩:=rfl
 have h2:∀i,i<n->(Abs.hl (bgF d x n d.finals.length V)).at_ (i+5)=gG 1 e1 (V i) (fiI d.finals i):=λi hi=>by
  rw[bgF,Dr,bgL];simp only[List.cons_append,List.nil_append,DU];exact zcs hi
 obtain⟨f1,f2⟩:=z6i (w:=1) (e:=e1) (by decide) (λ_=>rfl) h1 h2;refine Ls (g:=1) (w:=11) (v:=1) (d:=2) (ex:=true) (xs:=[rnB d x (ruV d.rules n) (.ref 3 1 0 n) .nilS .nilS]) (ys:=[rnB d x (ruV d.rules n) (.lst 1 (fD 1 e1 n (fiI d.finals))) .nilS .nilS]) (fKs 3 5 n) (by decide) (by rw[WE];omega) rfl (Ky (by decide) (by omega)) ?_ ?_
 ·refine⟨_,[],rfl,.inr ⟨_,_,rfl,rfl,?_⟩,rfl⟩
  refine⟨_,_,rfl,.inl rfl,_,_,rfl,.inl rfl,_,_,rfl,.inl rfl,_,_,rfl,.inl rfl,_,_,rfl,.inl rfl,_,_,rfl,.inl rfl,_,_,rfl,.inl rfl,_,_,rfl,.inl rfl,_,_,rfl,.inr ⟨f1,f2.symm⟩,_,_,rfl,.inl rfl,_,_,rfl,.inl rfl,rfl⟩
 ·rw[bgF,YH QR 3 (.inr rfl)]
  rfl
theorem zff(d:Desc)(x:List Int)(n k:Nat)(V:Nat->Nat):bgR d x n k V=⟨1,1,true,[.ptr 1 1 0 0]⟩::⟨11,1,true,[rnB d x (.ref 2 1 0 n) (.ref 3 1 0 n) .nilS .nilS]⟩::⟨1,1,true,fT 5 n V (I7 (·.from_) d.rules k)⟩::⟨1,1,true,List.replicate n .nilS⟩::⟨6,1,true,[DV d]⟩::fF 1 e1 n V (I7 (·.from_) d.rules k):=rfl
theorem zfg(d:Desc)(x:List Int)(n k:Nat)(V:Nat->Nat):bgF d x n k V=⟨1,1,true,[.ptr 1 1 0 0]⟩::⟨11,1,true,[rnB d x (ruV d.rules n) (.ref 3 1 0 n) .nilS .nilS]⟩::⟨0,2,false,[]⟩::⟨1,1,true,fT 5 n V (I7 (·.from_) d.finals k)⟩::⟨6,1,true,[DV d]⟩::fF 1 e1 n V (I7 (·.from_) d.finals k):=rfl
def fiV(l:List H8)(n:Nat):AV:=.lst 1 (fD 1 e1 n (fiI l))
theorem zo8(n:Nat):List.replicate n (AV.bool false)=spB n λ_=>false:=by
 refine Cm (by simp[spB]) λi h1 h2=>?_;simp[spB]
theorem zda{H:A5}{g v:Nat}{l:List Nat}(h:H.at_ g=gG 1 e1 v l):CJ 2 (H.only [g]) (.ref g v 0 l.length)/\frzV 2 (H.only [g]) (.ref g v 0 l.length)=.lst 1 (l.map e1):=by
 have hat:(H.only [g]).at_ g=gG 1 e1 v l:=by
  show (if g∈[g] then H.at_ g else (H.at_ g).dead)=_;rw[Ae (by simp),h]
 have htl:(((gG 1 e1 v l).xs.drop 0).take l.length)=l.map e1:=by
  rw[B6];exact Az (by simp[gG])
 have hp:Bh (l.map e1)=true:=E6 (λ_=>rfl) _;constructor
 ·refine⟨by rw[hat];rfl,by rw[hat];exact Nat.one_pos,by rw[hat];simp[gG],?_⟩
  rw[hat,htl];exact (FN _ 1 hp).1
 ·show AV.lst _ _=_
  rw[hat,htl];congr 1;exact (FN _ 1 hp).2
def bgS(d:Desc)(x:List Int)(n v:Nat)(dn:Nat->Bool)(ord:List Nat):List Grp:=srtL d x n (fiV d.finals n) v dn ord++[⟨1,1,true,[.ptr 0 1 0 0]⟩,⟨6,1,true,[DV d]⟩]
theorem z0w(d:Desc)(x:List Int)(n v:Nat)(dn:Nat->Bool)(ord:List Nat):∀G∈bgS d x n v dn ord,ltL 5 G.xs:=λG hG=>by
 rcases Ao.1 hG with hG|hG
 ·have h1:ltV 5 (FH d.rules):=Cy _ _ (BO _)
  have h2:ltV 5 (G1 d.finals):=Cy _ _ (Ch _);have h3:ltV 5 (A6 x):=Cy _ _ (D9 .i32 _);have h4:ltV 5 (ruV d.rules n):=Cy _ _ (Gf λ_=>rfl);have h5:ltV 5 (fiV d.finals n):=Cy _ _ (Gf λ_=>rfl);simp only[srtL,Af,Ai,Ap] at hG;rcases hG with rfl|rfl|rfl
  ·exact⟨⟨trivial,trivial,trivial,trivial,h1,h2,h3,h4,h5,(show 2<5 by omega),trivial,trivial⟩,trivial⟩
  ·exact CK _ _ (BZ.2 λy hy=>by obtain⟨i,_,rfl⟩:=Ax.1 hy;rfl)
  ·exact CK _ _ (E6 (λ_=>rfl) _)
 ·simp only[Af,Ai,Ap] at hG
  rcases hG with rfl|rfl
  ·exact⟨(show 0<5 by omega),trivial⟩
  ·exact CK _ _ (by simp[Bh,Ic])
theorem z0x{m b:Nat}{env:Env}(d:Desc)(x:List Int)(n v:Nat)(dn:Nat->Bool)(ord:List Nat):Ent m b env (Abs.hl (bgS d x n v dn ord)) env (Abs.hl [⟨11,1,true,[rnB d x (ruV d.rules n) (fiV d.finals n) (.lst 1 (ord.map e1)) .nilS]⟩,⟨1,1,true,spB n dn⟩,(gG 1 e1 v ord).dead,⟨1,1,true,[.ptr 0 1 0 0]⟩,⟨6,1,true,[DV d]⟩]):=by
 have h1:(Abs.hl (bgS d x n v dn ord)).at_ 2=gG 1 e1 v ord:=rfl;obtain⟨f1,f2⟩:=zda h1;refine Ls (g:=0) (w:=11) (v:=1) (d:=2) (ex:=true) (xs:=[rnB d x (ruV d.rules n) (fiV d.finals n) (.ref 2 v 0 ord.length) .nilS]) (ys:=[rnB d x (ruV d.rules n) (fiV d.finals n) (.lst 1 (ord.map e1)) .nilS]) [2] (by decide) (by simp[bgS,srtL]) rfl (by decide) ?_ rfl;refine⟨_,[],rfl,.inr ⟨_,_,rfl,rfl,?_⟩,rfl⟩;exact⟨_,_,rfl,.inl rfl,_,_,rfl,.inl rfl,_,_,rfl,.inl rfl,_,_,rfl,.inl rfl,_,_,rfl,.inl rfl,_,_,rfl,.inl rfl,_,_,rfl,.inl rfl,_,_,rfl,.inl rfl,_,_,rfl,.inl rfl,_,_,rfl,.inr ⟨f1,f2.symm⟩,_,_,rfl,.inl rfl,rfl⟩
theorem zdb{y:AV}{l:List Grp}(d:Nat)(ks:List Nat)(hok:CJ d ((Abs.hl l).only ks) y){z:AV}(hz:frzV d ((Abs.hl l).only ks) y=z)(hp:z.pure=true):Ent 1 0 (λ_=>y) (Abs.hl l) (λ_=>z) (Abs.hl []):=by
 refine (VF 0 d ks hok).trans ((Pb (H':=Abs.hl ([]++Ee 0 ks l)) ?_ ?_).trans ((Og (Au _) (λG hG=>by cases hG) λi hi=>?_).trans (TZ trivial λi hi=>?_)))
 ·simp[Abs.hl,A5.kill,FO]
 ·intro g hg
  show (Ee 0 ks l).getD g default=if g∈ks then (l.getD g default).dead else l.getD g default
  rw[Hs 0 ks l g hg,Bb]
 ·obtain rfl:i=0:=by omega
  show ltV 0 (if (0:Nat)=0 then frzV d ((Abs.hl l).only ks) y else y);rw[Ae rfl,hz];exact Cy _ _ hp
 ·obtain rfl:i=0:=by omega
  show leS [] (if (0:Nat)=0 then frzV d ((Abs.hl l).only ks) y else y) z;rw[Ae rfl,hz];exact EL _ _
def bgV(d:Desc)(x:List Int)(n m:Nat)(ord:List Nat)(at_:Nat)(L:Nat->Nat->Bool):List Grp:=[⟨11,1,true,[rnB d x (ruV d.rules n) (fiV d.finals n) (.lst 1 (ord.map e1)) (.ref 3 1 0 m)]⟩,⟨1,1,true,[.ptr 0 1 0 0]⟩,⟨6,1,true,[DV d]⟩,⟨1,1,true,lvB n m L⟩,⟨1,1,true,[.int .i64 at_]⟩]
theorem z6v(d:Desc)(x:List Int){n:Nat}(hdn:d.states=n)(hn:n<=1024)(hrl:d.rules.length<=4096)(hfl:d.finals.length<=4096)(hs:0<=d.start/\d.start<n)(hgo:Goes d n)(hcy:¬cycP d.rules n)(hlf:∀r∈d.finals,0<=r.from_/\r.from_<n)(hxl:x.length<=1024)(h32:∀v∈x,-2147483648<=v/\v<=2147483647)
 (hgb:∀r∈d.rules,(r.guards.length<=1000000/\∀g∈r.guards,g.length<=1000000)/\0<=r.eat/\r.eat<=1000000) :
 B3 Tryz.prog 60 [DV d,A6 x] (Abs.hl []) λy H'=>H'=Abs.hl []/\∃ord L,y=Eh d x (ruV d.rules n) (fiV d.finals n) (.lst 1 (ord.map e1)) (.lst 1 (lvB n ((x.length+1) * n) L))/\Topo d.rules n ord/\LivE d x n L:=by
 have pR:=BO d.rules;have pFi:=Ch d.finals;have pX:=Bf x;have pN:=Jl n;have hl:∀r∈d.rules,0<=r.from_/\r.from_<n:=λr hr=>(hgo.r r hr).1;have hl2:∀r∈d.rules,(0<=r.from_/\r.from_<n)/\0<=r.to_/\r.to_<n:=λr hr=>⟨(hgo.r r hr).1,(hgo.r r hr).2.1⟩;refine DG (GD VJ (W_T ?_));unfold Oo;(with_reducible repeat'(first|simp(disch:=omega)only[push_cast,↓zz,seval,pR,pFi,hdn]|refine sp_ ?_ ?_<;>try(intro hc;push_cast at hc)|omega|intro _));refine z4e [1,2,3,4] [1,1,11,1] [none,none,none,none,some 1,none,none,some 2,none,some 3,some 4] (by simp) (by decide) ?_;(with_reducible repeat'(first|simp(disch:=omega)only[push_cast,↓zz,seval,yy,Af,Ai,Ap,Bm,CR,B2,BD,BC,pR,pFi,pX,hdn]|refine sp_ ?_ ?_<;>try(intro hc;push_cast at hc)|omega|intro _))
 refine Br (Qk (srcs:=[.grp 4,.grp 3,.grp 1,.grp 2,.grp 0]) (live:=[(1,A6 x),(2,.ptr 4 1 0 0),(5,.ptr 0 1 0 0),(29,FH d.rules),(30,.int .i64 d.rules.length),(31,.int .i64 0)])
  (heap:=bgL d x (.ref 2 1 0 n) (.ref 3 1 0 n) n ⟨1,1,true,List.replicate n .nilS⟩ ⟨1,1,true,List.replicate n .nilS⟩) ?_ (IT (z6g (α:=Nat) (w:=1) (e:=e1) (n:=n) (t:=2) (by decide) (by simp[bgL]) rfl) ?_))
 ·unfold bgL rnB
  (with_reducible repeat'(first|simp(disch:=omega)only[push_cast,↓zz,seval,pR,pFi,pX,hdn,pN]|refine sp_ ?_ ?_<;>try(intro hc;push_cast at hc)|omega|intro _))
 refine Kl (λ(q:Nat × (Nat->Nat))=>q.1<=d.rules.length) (λq=>d.rules.length-q.1)
  (λq=>EB [(1,A6 x),(2,.ptr 4 1 0 0),(5,.ptr 0 1 0 0),(29,FH d.rules),(30,.int .i64 d.rules.length),(31,.int .i64 q.1)]) (λq=>Abs.hl (bgR d x n q.1 q.2)) (0,λ_=>1) (by simp) Ent.refl ?_
 rintro⟨k,V⟩ hk;simp only at hk ⊢;rcases Ak k d.rules.length with hkl|hkl
 ·have hr:=hl _ (AS hkl)
  have hsu:=λi=>QX (fr:=λ(r:Rule)=>r.from_) (l:=d.rules) (k:=k) (i:=i);generalize hre:nth d.rules k=r at *;have hgr:=BQ r.guards;have hot:=Ct r.out;obtain⟨i,hi⟩:∃i:Nat,r.from_=i:=⟨r.from_.toNat,by omega⟩;have hin:i<n:=by omega
  obtain⟨D,hD⟩:∃D,D=I7 (λ(r:Rule)=>r.from_) d.rules k:=⟨_,rfl⟩;have hFl:(fF 1 e1 n V D).length=n:=QR;have hTl:(fT 5 n V D).length=n:=zf7;have gI:∀G,(fF 1 e1 n V D++[G]).getD i default=gG 1 e1 (V i) (D i):=λG=>by rw[zfa hFl hin];exact zcs hin
  have gR:∀G,(fF 1 e1 n V D++[G]).getD n default=G:=λG=>by rw[N4 hFl];rfl
  have sR:∀G G',setQ (fF 1 e1 n V D++[G]) n G'=some (fF 1 e1 n V D++[G']):=λG G'=>by rw[UR _ _ hFl];rfl
  have tI:(fT 5 n V D).getD i .any=.ref (i+5) (V i) 0 (D i).length:=zo6 hin;have sI:∀G G',setQ (fF 1 e1 n V D++[G]) i G'=some ((fF 1 e1 n V D).set i G'++[G]):=λG G'=>W2 (by omega);have gR2:∀G G',((fF 1 e1 n V D).set i G'++[G]).getD n default=G:=λG G'=>by rw[N4 (by rw[Ea];exact hFl)];rfl
  have hSB:∀R G,Df 5 [i+5] (fF 1 e1 n V D++[R]) ((fF 1 e1 n V D).set i G++[R]):=λR G=>YC (by omega) (by simp;omega);have hEx:=zjm (e:=e1) (D i);have hel:(D i).length<=k:=by rw[hD];exact Pu k i
  have eT:(fT 5 n V D).set i (.ref (i+5) (V i+1) 0 ((D i).length+1))=fT 5 n (setV V i (V i+1)) (setD D i (D i++[k])):=by
   have:=zf8 (o:=5) (V:=V) (D:=D) (l:=D i++[k]) hin
   rwa [Aj] at this
  have eF:(fF 1 e1 n V D).set i ⟨1,V i+1,false,(D i).map e1++[.int .i64 k]⟩=fF 1 e1 n (setV V i (V i+1)) (setD D i (D i++[k])):=by
   have:=zf9 (V:=V) (D:=D) (w:=1) (e:=e1) (l:=D i++[k]) (by simp) hin;rw[Aw] at this;exact this
  have hsu:=hsu i hi;rw[<-hD] at hsu;rw[zff,<-hD];unfold rnB;have hni:¬n=i:=by omega
  simp only[gG] at gI;refine W_T ?_;(with_reducible repeat'(first|simp(disch:=omega)only[push_cast,↓zz,seval,xx,Af,Ai,Ap,Bm,CR,B2,BD,BC,pR,pFi,pX,hdn,hre,hi,hgr,hot,hFl,hTl,gI,gR,sR,tI,sI,gR2,hEx,hni]|refine sp_ ?_ ?_<;>try(intro hc;push_cast at hc)|refine H7 [i+5] ?_|omega|intro _))
  ·exact hSB _ _
  refine⟨(k+1,setV V i (V i+1)),Gs (gar:=[⟨5,1,true,[.agg [.int .i64 i,.int .i64 r.to_,Du r.guards,.int .i64 r.eat,GG r.out]]⟩]) _ ?_ (Au _) (z0s _ _ _ _ _) ?_,by simp only;omega,by simp only;omega⟩
  ·rw[zff,hsu,<-eT,<-eF]
   unfold rnB;rw[hdn];rfl
  ·have hRv:ltV (n+5) (FH d.rules):=Cy _ _ pR
   have hXv:ltV (n+5) (A6 x):=Cy _ _ pX;rw[WC];exact⟨rfl,hXv,rfl,(show 4<n+5 by omega),rfl,(show 0<n+5 by omega),rfl,hRv,rfl,trivial,rfl,trivial,trivial⟩
 obtain rfl:k=d.rules.length:=by omega
 have cl1:∀G∈bgL d x (ruV d.rules n) (.ref 3 1 0 n) n ⟨0,2,false,[]⟩ ⟨1,1,true,List.replicate n .nilS⟩,ltL 5 G.xs:=Ig (by omega) (Cy _ _ (show Bh _=true from Gf λ_=>rfl)) (show 3<5 by omega) trivial (CK _ _ pN);refine IT ((z0u d x n V).trans (Gs (l0:=bgL d x (ruV d.rules n) (.ref 3 1 0 n) n ⟨0,2,false,[]⟩ ⟨1,1,true,List.replicate n .nilS⟩) [(1,A6 x),(2,.ptr 4 1 0 0),(5,.ptr 0 1 0 0),(29,FH d.rules),(30,.int .i64 d.rules.length),(31,.int .i64 d.rules.length)] rfl (Au _) cl1 ?_)) ?_
 ·have hRv:ltV 5 (FH d.rules):=Cy _ _ pR
  have hXv:ltV 5 (A6 x):=Cy _ _ pX;exact⟨rfl,hXv,rfl,(show 4<5 by omega),rfl,(show 0<5 by omega),rfl,hRv,rfl,trivial,rfl,trivial,trivial⟩
 clear cl1 V;unfold bgL rnB;refine W_T ?_;(with_reducible repeat'(first|simp(disch:=omega)only[push_cast,↓zz,seval,pR,pFi,pX,hdn]|refine sp_ ?_ ?_<;>try(intro hc;push_cast at hc)|omega|intro _));have cl2:∀G∈bgL d x (ruV d.rules n) (.ref 3 1 0 n) n ⟨0,2,false,[]⟩ ⟨1,1,true,List.replicate n .nilS⟩,ltL 5 G.xs:=Ig (by omega) (Cy _ _ (show Bh _=true from Gf λ_=>rfl)) (show 3<5 by omega) trivial (CK _ _ pN);refine Br (IT ((Gs (l0:=bgL d x (ruV d.rules n) (.ref 3 1 0 n) n ⟨0,2,false,[]⟩ ⟨1,1,true,List.replicate n .nilS⟩) (gar:=[]) [(1,A6 x),(2,.ptr 4 1 0 0),(5,.ptr 0 1 0 0),(56,G1 d.finals),(57,.int .i64 d.finals.length),(58,.int .i64 0)] ?_ (Au _) cl2 ?_).trans (z6g (α:=Nat) (w:=1) (e:=e1) (n:=n) (t:=3) (by decide) (by simp[bgL]) rfl)) ?_)
 ·unfold bgL rnB
  rw[hdn];rfl
 ·have hFv:ltV 5 (G1 d.finals):=Cy _ _ pFi
  have hXv:ltV 5 (A6 x):=Cy _ _ pX;exact⟨rfl,hXv,rfl,(show 4<5 by omega),rfl,(show 0<5 by omega),rfl,hFv,rfl,trivial,rfl,trivial,trivial⟩
 clear cl2
 refine Kl (λ(q:Nat × (Nat->Nat))=>q.1<=d.finals.length) (λq=>d.finals.length-q.1)
  (λq=>EB [(1,A6 x),(2,.ptr 4 1 0 0),(5,.ptr 0 1 0 0),(56,G1 d.finals),(57,.int .i64 d.finals.length),(58,.int .i64 q.1)]) (λq=>Abs.hl (bgF d x n q.1 q.2)) (0,λ_=>1) (by simp) Ent.refl ?_
 rintro⟨k,V⟩ hk;simp only at hk ⊢;rcases Ak k d.finals.length with hkl|hkl
 ·have hr:=hlf _ (AS hkl)
  have hsu:=λi=>QX (fr:=λ(r:H8)=>r.from_) (l:=d.finals) (k:=k) (i:=i);generalize hre:nth d.finals k=r at *;have hgr:=BQ r.guards;have hot:=Ct r.out;obtain⟨i,hi⟩:∃i:Nat,r.from_=i:=⟨r.from_.toNat,by omega⟩;have hin:i<n:=by omega
  obtain⟨D,hD⟩:∃D,D=I7 (λ(r:H8)=>r.from_) d.finals k:=⟨_,rfl⟩;have hFl:(fF 1 e1 n V D).length=n:=QR;have hTl:(fT 5 n V D).length=n:=zf7;have gI:∀G,(fF 1 e1 n V D++[G]).getD i default=gG 1 e1 (V i) (D i):=λG=>by rw[zfa hFl hin];exact zcs hin
  have gR:∀G,(fF 1 e1 n V D++[G]).getD n default=G:=λG=>by rw[N4 hFl];rfl
  have sR:∀G G',setQ (fF 1 e1 n V D++[G]) n G'=some (fF 1 e1 n V D++[G']):=λG G'=>by rw[UR _ _ hFl];rfl
  have tI:(fT 5 n V D).getD i .any=.ref (i+5) (V i) 0 (D i).length:=zo6 hin;have sI:∀G G',setQ (fF 1 e1 n V D++[G]) i G'=some ((fF 1 e1 n V D).set i G'++[G]):=λG G'=>W2 (by omega);have gR2:∀G G',((fF 1 e1 n V D).set i G'++[G]).getD n default=G:=λG G'=>by rw[N4 (by rw[Ea];exact hFl)];rfl
  have hSB:∀R G,Df 5 [i+5] (fF 1 e1 n V D++[R]) ((fF 1 e1 n V D).set i G++[R]):=λR G=>YC (by omega) (by simp;omega);have hEx:=zjm (e:=e1) (D i);have hel:(D i).length<=k:=by rw[hD];exact Pu k i
  have eT:(fT 5 n V D).set i (.ref (i+5) (V i+1) 0 ((D i).length+1))=fT 5 n (setV V i (V i+1)) (setD D i (D i++[k])):=by
   have:=zf8 (o:=5) (V:=V) (D:=D) (l:=D i++[k]) hin
   rwa [Aj] at this
  have eF:(fF 1 e1 n V D).set i ⟨1,V i+1,false,(D i).map e1++[.int .i64 k]⟩=fF 1 e1 n (setV V i (V i+1)) (setD D i (D i++[k])):=by
   have:=zf9 (V:=V) (D:=D) (w:=1) (e:=e1) (l:=D i++[k]) (by simp) hin;rw[Aw] at this;exact this
  have hsu:=hsu i hi;rw[<-hD] at hsu;rw[zfg,<-hD];unfold rnB;have hni:¬n=i:=by omega
  simp only[gG] at gI;refine W_T ?_;(with_reducible repeat'(first|simp(disch:=omega)only[push_cast,↓zz,seval,xx,Af,Ai,Ap,Bm,CR,B2,BD,BC,pR,pFi,pX,hdn,hre,hi,hgr,hot,hFl,hTl,gI,gR,sR,tI,sI,gR2,hEx,hni]|refine sp_ ?_ ?_<;>try(intro hc;push_cast at hc)|refine H7 [i+5] ?_|omega|intro _))
  ·exact hSB _ _
  refine⟨(k+1,setV V i (V i+1)),Gs (gar:=[⟨3,1,true,[.agg [.int .i64 i,Du r.guards,GG r.out]]⟩]) _ ?_ (Au _) (z0t _ _ _ _ _) ?_,by simp only;omega,by simp only;omega⟩
  ·rw[zfg,hsu,<-eT,<-eF]
   unfold rnB;rw[hdn];rfl
  ·have hFv:ltV (n+5) (G1 d.finals):=Cy _ _ pFi
   have hXv:ltV (n+5) (A6 x):=Cy _ _ pX;rw[WE];exact⟨rfl,hXv,rfl,(show 4<n+5 by omega),rfl,(show 0<n+5 by omega),rfl,hFv,rfl,trivial,rfl,trivial,trivial⟩
 obtain rfl:k=d.finals.length:=by omega
 have cl1:∀G∈bgL d x (ruV d.rules n) (fiV d.finals n) n ⟨0,2,false,[]⟩ ⟨0,2,false,[]⟩,ltL 5 G.xs:=Ig (by omega) (Cy _ _ (show Bh _=true from Gf λ_=>rfl)) (Cy _ _ (show Bh _=true from Gf λ_=>rfl)) trivial trivial;refine IT ((z0v d x n V).trans (Gs (l0:=bgL d x (ruV d.rules n) (fiV d.finals n) n ⟨0,2,false,[]⟩ ⟨0,2,false,[]⟩) [(1,A6 x),(2,.ptr 4 1 0 0),(5,.ptr 0 1 0 0),(56,G1 d.finals),(57,.int .i64 d.finals.length),(58,.int .i64 d.finals.length)] rfl (Au _) cl1 ?_)) ?_
 ·have hFv:ltV 5 (G1 d.finals):=Cy _ _ pFi
  have hXv:ltV 5 (A6 x):=Cy _ _ pX;exact⟨rfl,hXv,rfl,(show 4<5 by omega),rfl,(show 0<5 by omega),rfl,hFv,rfl,trivial,rfl,trivial,trivial⟩
 clear cl1 V;unfold bgL rnB;have pB:∀on,Bh (spB n on)=true:=λon=>BZ.2 λy hy=>by obtain⟨i,_,rfl⟩:=Ax.1 hy;rfl
 have pRU:Bh (fD 1 e1 n (ruI d.rules))=true:=Gf λ_=>rfl;have pFI:Bh (fD 1 e1 n (fiI d.finals))=true:=Gf λ_=>rfl;have pFIv:(fiV d.finals n).pure=true:=pFI;refine W_T ?_;(with_reducible repeat'(first|simp(disch:=omega)only[push_cast,↓zz,seval,pR,pFi,pX,hdn]|refine sp_ ?_ ?_<;>try(intro hc;push_cast at hc)|omega|intro _))
 refine Br (Qk (srcs:=[.grp 1,.grp 5,.virt 1,.grp 0,.grp 4]) (live:=[(1,A6 x),(2,.ptr 4 1 0 0),(5,.ptr 3 1 0 0),(10,.ref 1 1 0 n),(86,.int .i64 n),(87,.int .i64 0)])
  (heap:=bgS d x n 1 (λ_=>false) []) ?_ ?_)
 ·unfold bgS srtL rnB ruV fiV gG
  (with_reducible repeat'(first|simp(disch:=omega)only[push_cast,↓zz,seval,pR,pFi,pX,hdn,pB,zo8,pRU,pFI,List.length_nil,AZ]|refine sp_ ?_ ?_<;>try(intro hc;push_cast at hc)|omega|intro _))
 refine Kl (λ(q:Nat × Nat × (Nat->Bool) × List Nat)=>q.1<=n/\Hold (QW d.rules n q.1 q.2.2.1 q.2.2.2)) (λq=>n-q.1)
  (λq=>EB [(1,A6 x),(2,.ptr 4 1 0 0),(5,.ptr 3 1 0 0),(10,.ref 1 1 0 n),(86,.int .i64 n),(87,.int .i64 q.1)]) (λq=>Abs.hl (bgS d x n q.2.1 q.2.2.1 q.2.2.2)) (0,1,(λ_=>false),[]) ⟨Au _,⟨W8 _ _⟩⟩ Ent.refl ?_
 rintro⟨k,v,dn,ord⟩ ⟨hk,⟨hA⟩⟩;simp only at hk hA ⊢;have hXv:ltV 5 (A6 x):=Cy _ _ pX;rcases Ak k n with hkn|hkn
 ·have hS:=zcz d x hn hrl hl2 hcy (fiV d.finals n) pFIv (Jk dn n) k v dn ord (Ad _) hkn (z0q hA)
  rw[bgS,srtL];refine W_T ?_;(with_reducible repeat'(first|simp(disch:=omega)only[push_cast,↓zz,seval]|refine sp_ ?_ ?_<;>try(intro hc;push_cast at hc)|omega|intro _));refine z6k (l0:=srtL d x n (fiV d.finals n) v dn ord) (extra:=[⟨1,1,true,[.ptr 0 1 0 0]⟩,⟨6,1,true,[DV d]⟩]) rfl hS ?_ (F7 d x n _ pFIv _ _ _) ?_
  ·exact⟨(show 0<3 by omega),trivial,(show 1<3 by omega),trivial⟩
  rintro y H' ⟨v2,dn2,new,rfl,rfl,hpost⟩;refine⟨_,rfl,rfl,trivial,F7 d x n _ pFIv _ _ _,?_⟩;have hA2:=W9 hA hpost;(with_reducible repeat'(first|simp(disch:=omega)only[push_cast,↓zz,seval]|refine sp_ ?_ ?_<;>try(intro hc;push_cast at hc)|omega|intro _));refine⟨(k+1,v2,dn2,ord++new),Gs (gar:=[]) _ (A4 _).symm (Au _) (z0w d x n _ _ _) ?_,⟨by omega,⟨hA2⟩⟩,by simp only;omega⟩;exact⟨rfl,hXv,rfl,(show 4<5 by omega),rfl,(show 3<5 by omega),rfl,(show 1<5 by omega),rfl,trivial,rfl,trivial,trivial⟩
 obtain rfl:k=n:=by omega
 have hT:=WA hA
 refine IT (z0x d x k v dn ord) (Qk (srcs:=[.grp 0,.grp 3,.grp 4]) (live:=[(1,A6 x),(2,.ptr 2 1 0 0),(5,.ptr 1 1 0 0),(86,.int .i64 k),(87,.int .i64 k)])
  (heap:=[⟨11,1,true,[rnB d x (ruV d.rules k) (fiV d.finals k) (.lst 1 (ord.map e1)) .nilS]⟩,⟨1,1,true,[.ptr 0 1 0 0]⟩,⟨6,1,true,[DV d]⟩]) ?_ ?_)
 ·have pO:Bh (ord.map e1)=true:=E6 (λ_=>rfl) _
  unfold rnB ruV fiV;(with_reducible repeat'(first|simp(disch:=omega)only[push_cast,↓zz,seval,pR,pFi,pX,hdn,pRU,pFI,pO]|refine sp_ ?_ ?_<;>try(intro hc;push_cast at hc)|omega|intro _))
 have pO:Bh (ord.map e1)=true:=E6 (λ_=>rfl) _;have hmx:(x.length+1) * k<=1025 * 1024:=Ca (by omega) hn;obtain⟨m,hm⟩:∃m,m=(x.length+1) * k:=⟨_,rfl⟩;have hmi:((x.length:Int)+1) * (k:Int)=(m:Int):=by rw[hm];norm_cast
 rw[<-hm] at hmx;obtain⟨s0,hs0⟩:∃s0:Nat,d.start=s0:=⟨d.start.toNat,by omega⟩
 have hsm:s0<m:=by
  have:=GW (a:=0) (k:=x.length) (t:=s0) (n:=k) (by omega) (Au _);rw[hm];omega
 have hst:(List.replicate m (AV.bool false)).set s0 (.bool true)=lvB k m (setP (λ_ _=>false) 0 s0 true):=by
  have:=z6m (n:=k) (m:=m) (a:=0) (t:=s0) (L:=λ_ _=>false) (v:=true) (by omega) (by omega);rw[Fi,Bb,<-zd0] at this;exact this
 have pLv:∀L,Bh (lvB k m L)=true:=λL=>N5;unfold rnB;refine W_T ?_;(with_reducible repeat'(first|simp(disch:=omega)only[push_cast,↓zz,seval,pR,pFi,pX,hdn,hmi,hs0,hst,pLv,List.length_replicate]|refine sp_ ?_ ?_<;>try(intro hc;push_cast at hc)|omega|intro _));have hstn:d.start.toNat=s0:=by omega
 refine Br (Bs (λ(q:Nat × (Nat->Nat->Bool))=>q.1<=x.length+1/\Hold (Liv d x k ord q.1 0 q.2)) (λq=>x.length+1-q.1)
  (λq=>[(1,A6 x),(2,.ptr 2 1 0 0),(5,.ptr 1 1 0 0),(12,.ptr 4 1 0 0)]) (λq=>bgV d x k m ord q.1 q.2) (λenv _=>[.grp 0,.grp 1,.grp 2,.grp 3,C7 1 (env 12)]) (0,setP (λ_ _=>false) 0 d.start.toNat true) ⟨Au _,⟨zd1 hs (EM hT)⟩⟩ ?_ ?_)
 ·unfold bgV rnB ruV fiV
  (with_reducible repeat'(first|simp(disch:=omega)only[push_cast,↓zz,seval,pR,pFi,pX,hdn,hs0,hstn,pLv,pRU,pFI,pO,Int.toNat_natCast]|refine sp_ ?_ ?_<;>try(intro hc;push_cast at hc)|omega|intro _))
 rintro⟨at_,L⟩ ⟨ha,⟨hI⟩⟩;simp only at ha hI ⊢;have hol:=EM hT;rcases Ak at_ (x.length+1) with hal|hal
 ·have hB:=Pt ord (by omega)
  have hit:=z6u ord (by omega);unfold bgV rnB ruV fiV;refine W_T ?_;(with_reducible repeat'(first|simp(disch:=omega)only[push_cast,↓zz,seval,pR,pFi,pX,hdn,pLv,pRU,pFI,pO]|refine sp_ ?_ ?_<;>try(intro hc;push_cast at hc)|refine ee hB ?_|(refine cc hB ?_;simp(disch:=omega)only[push_cast,↓zz,seval,pR,pFi,pX,hdn,pLv,pRU,pFI,pO];fail_if_success change False)|omega|intro _))
  refine RI (XB (σ:=Nat->Nat->Bool) (λj L=>Hold (Liv d x k ord at_ j L)) [(1,A6 x),(2,.ptr 2 1 0 0),(5,.ptr 1 1 0 0),(12,.ptr 4 1 0 0),(122,.fn 134 [.cptr (.lst 1 (ord.map e1))])] (λL=>bgV d x k m ord at_ L)
   [.grp 0,.grp 1,.grp 2,.grp 3,.grp 4] 5 L hit ?_ (λ_=>rfl) rfl ?_ rfl rfl (z0r _) (z6t _) (by simp) ⟨hI⟩ ?_ ?_)
  ·unfold bgV rnB ruV fiV
   (with_reducible repeat'(first|simp(disch:=omega)only[push_cast,↓zz,seval,pR,pFi,pX,hdn,pLv,pRU,pFI,pO]|refine sp_ ?_ ?_<;>try(intro hc;push_cast at hc)|omega|intro _))
  ·(with_reducible repeat'(first|simp(disch:=omega)only[push_cast,↓zz,seval,pO]|refine sp_ ?_ ?_<;>try(intro hc;push_cast at hc)|omega|intro _))
  ·rintro j row L hrow ⟨hI⟩
   obtain⟨hj,rfl⟩:=z6s hrow;clear hrow hit;have hjk:j<k:=by omega
   obtain⟨s,hse⟩:∃s,s=nth ord (k-1-j):=⟨_,rfl⟩;have hsn:s<k:=(hT.all _).1 (by rw[hse];exact AS (by omega));rw[hol,<-hse,show e1 s=AV.int .i64 ((s:Nat):Int) from rfl];have hat:at_<=x.length:=by omega
   have hpm:=GW hsn hat;rw[<-hm] at hpm;have aL:∀L,(lvB k m L).getD (at_ * k+s) .any=.bool (L at_ s):=λL=>zfe hsn hpm;have lL:∀L,(lvB k m L).length=m:=λL=>Kz;have hmul:(at_:Int) * (k:Int)=((at_ * k:Nat):Int):=by norm_cast
   have hmulb:at_ * k<=1024 * 1024:=Ca (by omega) hn
   have hset:∀L e t,at_+e<=x.length->t<k->(lvB k m L).set ((at_+e) * k+t) (.bool true)=lvB k m (setP L (at_+e) t true)/\(at_+e) * k+t<m:=λL e t he htk=>by
    have:=GW htk he;rw[<-hm] at this;exact⟨z6m htk this,this⟩
   generalize hpe:at_ * k+s=p at *;generalize at_ * k=an at *;have hpi:(an:Int)+(s:Int)=(p:Int):=by omega
   have aLv:=aL L;have aR:(fD 1 e1 k (ruI d.rules)).getD s .any=.lst 1 ((ruI d.rules s).map e1):=zct hsn;have aR2:(fD 1 e1 k (ruI d.rules))[s]? = some (.lst 1 ((ruI d.rules s).map e1)):=YA hsn;have lRU:(fD 1 e1 k (ruI d.rules)).length=k:=Y9;have pRI:Bh ((ruI d.rules s).map e1)=true:=E6 (λ_=>rfl) _;refine W_T ?_;(with_reducible repeat'(first|simp(disch:=omega)only[push_cast,↓zz,seval]|refine sp_ ?_ ?_<;>try(intro hc;push_cast at hc)|omega|intro _));unfold bgV rnB ruV fiV;refine W_T ?_;cases hLs:L at_ s with
   |false =>
    rw[hLs] at aLv;(with_reducible repeat'(first|simp(disch:=omega)only[push_cast,↓zz,seval,pR,pFi,pX,hdn,pLv,lL,pRU,pFI,pO,hmul,hpi,aLv,aR,aR2,lRU,pRI]|refine sp_ ?_ ?_<;>try(intro hc;push_cast at hc)|omega|intro _));exact⟨L,By _ _,⟨zd4 hI hT hjk hse hLs⟩⟩
   |true =>
    rw[hLs] at aLv;(with_reducible repeat'(first|simp(disch:=omega)only[push_cast,↓zz,seval,pR,pFi,pX,hdn,pLv,lL,pRU,pFI,pO,hmul,hpi,aLv,aR,aR2,lRU,pRI]|refine sp_ ?_ ?_<;>try(intro hc;push_cast at hc)|omega|intro _))
    refine Br (Bs (λ(q:Nat × (Nat->Nat->Bool))=>q.1<=(ruI d.rules s).length/\Hold (LivS d x k ord at_ j s q.1 q.2)) (λq=>(ruI d.rules s).length-q.1)
     (λq=>[(1,A6 x),(2,.ptr 2 1 0 0),(5,.ptr 1 1 0 0),(12,.ptr 4 1 0 0),(144,.lst 1 ((ruI d.rules s).map e1)),(145,.int .i64 (ruI d.rules s).length),(146,.int .i64 q.1)]) (λq=>bgV d x k m ord at_ q.2) (λ_ _=>[]) (0,L) ⟨Au _,⟨z6n hI hLs⟩⟩ ?_ ?_)
    ·unfold bgV rnB ruV fiV
     (with_reducible repeat'(first|simp(disch:=omega)only[push_cast,↓zz,seval,pR,pFi,pX,hdn,pLv,pRU,pFI,pO,pRI]|refine sp_ ?_ ?_<;>try(intro hc;push_cast at hc)|omega|intro _))
    rintro⟨i0,L2⟩ ⟨hi0,⟨hI2⟩⟩;simp only at hi0 hI2 ⊢;unfold bgV rnB ruV fiV;have hIl:=W5 d.rules s;rcases Ak i0 (ruI d.rules s).length with hil|hil
    ·obtain⟨i,hi⟩:∃i,i=nth (ruI d.rules s) i0:=⟨_,rfl⟩
     have him:i∈ruI d.rules s:=by rw[hi];exact AS hil
     obtain⟨i1,i2⟩:=HE.1 him;have aI:((ruI d.rules s).map e1).getD i0 .any=.int .i64 i:=by rw[hi];simp[nth,List.getD,hil]
     have hr:=AS i1;obtain⟨hg1,hg2⟩:=hgb _ hr;obtain⟨_,htt,_,_⟩:=hgo.r _ hr;have hF:=SA d x (.lst 1 (fD 1 e1 k (ruI d.rules))) (.lst 1 (fD 1 e1 k (fiI d.finals))) (.lst 1 (ord.map e1)) (.lst 1 (lvB k m L2)) (nth d.rules i).guards at_ pRU pFI pO (pLv L2) (by omega) h32 hg1.2 hg1.1 (by omega);simp only[Eh,hdn] at hF;have hyes:=λhg=>zd2 hI2 hgo hT hjk hse hil hg;have hno:=λhg=>zjr hI2 (k:=i0) hg;rw[<-hi] at hyes hno;have tL:List.take m (lvB k m L2)=lvB k m L2:=Az (by rw[Kz];exact Ad _);generalize hre:nth d.rules i=r at *;have hgr:=BQ r.guards;have hot:=Ct r.out;obtain⟨e,he⟩:∃e:Nat,r.eat=e:=⟨r.eat.toNat,by omega⟩;obtain⟨t,htq⟩:∃t:Nat,r.to_=t:=⟨r.to_.toNat,by omega⟩;have het:r.eat.toNat=e:=by omega
     have htt2:r.to_.toNat=t:=by omega
     rw[het,htt2] at hyes;cases hb:goB x r.guards at_ with
     |false =>
      rw[hb] at hF;have hno:=hno hb;refine W_T ?_;(with_reducible repeat'(first|simp(disch:=omega)only[push_cast,↓zz,seval,pR,pFi,pX,hdn,pLv,lL,pRU,pFI,pO,pRI,aI,hre,hgr,hot,tL]|refine sp_ ?_ ?_<;>try(intro hc;push_cast at hc)|refine ee hF ?_|(refine cc hF ?_;simp(disch:=omega)only[push_cast,↓zz,seval,pR,pFi,pX,hdn,pLv,lL,pRU,pFI,pO,pRI,aI,hre,hgr,hot,tL];fail_if_success change False)|omega|intro _));exact⟨(i0+1,L2),⟨by simp,By _ _⟩,⟨by omega,⟨hno⟩⟩,by simp only;omega⟩
     |true =>
      rw[hb] at hF;have hyes:=hyes hb;have hle:=JR hb;have hge:=(hgo.r _ hr).2.2.1;rw[het] at hge;obtain⟨hs1,hs2⟩:=hset L2 e t (by omega) (by omega);have hae:(at_:Int)+(e:Int)=((at_+e:Nat):Int):=by norm_cast
      have hmul2:((at_+e:Nat):Int) * (k:Int)=(((at_+e) * k:Nat):Int):=by norm_cast
      have hmulb2:(at_+e) * k<=1024 * 1024:=Ca (by omega) hn;generalize hpe2:(at_+e) * k+t=p2 at *;generalize (at_+e) * k=an2 at *;have hpi2:(an2:Int)+(t:Int)=(p2:Int):=by omega
      generalize hbe:at_+e=b2 at *;refine W_T ?_;(with_reducible repeat'(first|simp(disch:=omega)only[push_cast,↓zz,seval,pR,pFi,pX,hdn,pLv,lL,pRU,pFI,pO,pRI,aI,hre,hgr,hot,tL,he,htq,hae,hmul2,hpi2,hs1]|refine sp_ ?_ ?_<;>try(intro hc;push_cast at hc)|refine ee hF ?_|(refine cc hF ?_;simp(disch:=omega)only[push_cast,↓zz,seval,pR,pFi,pX,hdn,pLv,lL,pRU,pFI,pO,pRI,aI,hre,hgr,hot,tL,he,htq,hae,hmul2,hpi2,hs1];fail_if_success change False)|omega|intro _));exact⟨(i0+1,setP L2 b2 t true),⟨by simp,By _ _⟩,⟨by omega,⟨hyes⟩⟩,by simp only;omega⟩
    ·obtain rfl:i0=(ruI d.rules s).length:=by omega
     have hend:=zd3 hI2 hT hjk hse;refine W_T ?_;(with_reducible repeat'(first|simp(disch:=omega)only[push_cast,↓zz,seval,pR,pFi,pX,hdn,pLv,lL,pRU,pFI,pO,pRI]|refine sp_ ?_ ?_<;>try(intro hc;push_cast at hc)|omega|intro _));exact⟨L2,By _ _,⟨hend⟩⟩
  ·rintro L ⟨hI⟩
   rw[Ps,hol] at hI;have hI2:=zjs hI hT;unfold bgV rnB ruV fiV;(with_reducible repeat'(first|simp(disch:=omega)only[push_cast,↓zz,seval,pR,pFi,pX,hdn,pLv,pRU,pFI,pO]|refine sp_ ?_ ?_<;>try(intro hc;push_cast at hc)|omega|intro _));refine⟨(at_+1,L),⟨By _ _,by simp⟩,⟨by omega,⟨hI2⟩⟩,by simp only;omega⟩
 ·obtain rfl:at_=x.length+1:=by omega
  have hE:=zjt hI;have tL:∀L,List.take m (lvB k m L)=lvB k m L:=λL=>Az (by rw[Kz];exact Ad _);unfold bgV rnB ruV fiV;refine W_T ?_;(with_reducible repeat'(first|simp(disch:=omega)only[push_cast,↓zz,seval,pR,pFi,pX,hdn,pLv,pRU,pFI,pO]|refine sp_ ?_ ?_<;>try(intro hc;push_cast at hc)|omega|intro _));refine⟨_,_,zdb 4 [0,3] (z:=Eh d x (ruV d.rules k) (fiV d.finals k) (.lst 1 (ord.map e1)) (.lst 1 (lvB k m L))) ?_ ?_ ?_,rfl,ord,L,?_,hT,hE⟩
  ·(simp(disch:=omega)only[push_cast,↓zz,seval,pR,pFi,pX,pLv,pRU,pFI,pO,Kz,tL])
  ·(simp(disch:=omega)only[push_cast,↓zz,seval,pR,pFi,pX,pLv,pRU,pFI,pO,Kz,tL])
   have e:(k:Int)=d.states:=hdn.symm;rw[e];rfl
  ·simp[AV.pure,Bh,pR,pFi,pX,pLv,pRU,pFI,pO,ruV,fiV]
  ·rw[hm];rfl
def C8:List Int->List Int->Nat
 |[],_=>0
 |_,[]=>0
 |a::l,b::m=>if a=b then C8 l m+1 else 0
def cmpL:List Int->List Int->Int
 |[],[]=>0
 |[],_::_=>-1
 |_::_,[]=>1
 |a::l,b::m=>if a<b then -1 else if b<a then 1 else cmpL l m
theorem SH:∀a b:List Int,C8 a b<=a.length/\C8 a b<=b.length
 |[],_=>by simp[C8]
 |_::_,[]=>by simp[C8]
 |a::l,b::m=>by
  have:=SH l m;simp only[C8];split<;>simp<;>omega
theorem QZ{a b:List Int}{k:Nat}(h1:k<a.length)(h2:k<b.length)(he:nth a k=nth b k):C8 (a.drop k) (b.drop k)=C8 (a.drop (k+1)) (b.drop (k+1))+1:=by
 rw[drop_at h1,drop_at h2,C8,Ae he]
theorem Ra{a b:List Int}{k:Nat}(h:¬(k<a.length/\k<b.length/\nth a k=nth b k)):C8 (a.drop k) (b.drop k)=0:=by
 by_cases h1:k<a.length
 ·by_cases h2:k<b.length
  ·rw[drop_at h1,drop_at h2,C8,Ab λe=>h ⟨h1,h2,e⟩]
  ·rw[An (l:=b) (by omega)]
   cases a.drop k<;>rfl
 ·rw[An (l:=a) (by omega)];rfl
theorem Pv:∀a b:List Int,cmpL a b=if C8 a b=a.length/\C8 a b=b.length then 0 else if C8 a b=a.length then -1 else if C8 a b=b.length then 1 else if nth a (C8 a b)<nth b (C8 a b) then -1 else if nth b (C8 a b)<nth a (C8 a b) then 1 else 0
 |[],[]=>rfl
 |[],_::_=>by simp[cmpL,C8]
 |_::_,[]=>by simp[cmpL,C8]
 |a::l,b::m=>by
  by_cases e:a=b
  ·subst e
   have h1:C8 (a::l) (a::m)=C8 l m+1:=by rw[C8,Ae rfl]
   have h2:cmpL (a::l) (a::m)=cmpL l m:=by rw[cmpL,Ab (Int.lt_irrefl _),Ab (Int.lt_irrefl _)]
   rw[h1,h2,Pv l m];simp only[List.length_cons,Nat.add_right_cancel_iff,KF];rfl
  ·have h1:C8 (a::l) (b::m)=0:=by rw[C8,Ab e]
   have n1:¬(0=l.length+1):=by omega
   have n2:¬(0=m.length+1):=by omega
   rw[h1,cmpL];rw[List.length_cons,List.length_cons,Ab (show ¬(0=l.length+1/\0=m.length+1) from λh=>n1 h.1),Ab n1,Ab n2];by_cases h2:a<b
   ·rw[Ae h2,Ae (show nth (a::l) 0<nth (b::m) 0 from h2)]
   ·have h3:b<a:=by omega
    rw[Ab h2,Ab (show ¬nth (a::l) 0<nth (b::m) 0 from h2),Ae h3,Ae (show nth (b::m) 0<nth (a::l) 0 from h3)]
theorem z0y(a b:List Int)(hl:a.length<=1000000000):PC Tryz.prog 140 [A6 a,A6 b] (.int .i64 (C8 a b)):=by
 have pa:=Bf a;have pb:=Bf b;refine Cf Uw ?_;unfold MI;(with_reducible repeat'(first|simp(disch:=omega)only[push_cast,↓zz,seval]|refine sp_ ?_ ?_<;>try(intro hc;push_cast at hc)|omega|intro _))
 refine Br (Bs (λ(k:Nat)=>k<=a.length/\C8 a b=k+C8 (a.drop k) (b.drop k)) (λk=>a.length-k)
  (λk=>[(0,A6 a),(1,A6 b),(5,.int .i64 k)]) (λs=>[]) (λenv _=>[]) 0 (by simp) ?_ ?_)
 ·(with_reducible repeat'(first|simp(disch:=omega)only[push_cast,↓zz,seval,pa,pb]|refine sp_ ?_ ?_<;>try(intro hc;push_cast at hc)|omega|intro _))
 rintro k ⟨hk,hr⟩;refine W_T ?_;by_cases h:k<a.length/\k<b.length/\nth a k=nth b k
 ·obtain⟨h1,h2,h3⟩:=h
  have hs:=QZ h1 h2 h3;(with_reducible repeat'(first|simp(disch:=omega)only[push_cast,↓zz,seval,pa,pb,h3]|refine sp_ ?_ ?_<;>try(intro hc;push_cast at hc)|omega|intro _))
  all_goals
   refine⟨k+1,?_⟩;(with_reducible repeat'(first|simp(disch:=omega)only[push_cast,↓zz,seval,pa,pb]|refine sp_ ?_ ?_<;>try(intro hc;push_cast at hc)|omega|intro _))
 ·have hs:=Ra h
  rw[hs] at hr;by_cases h1:k<a.length
  ·by_cases h2:k<b.length
   ·have h3:¬nth a k=nth b k:=λe=>h ⟨h1,h2,e⟩
    (with_reducible repeat'(first|simp(disch:=omega)only[push_cast,↓zz,seval,pa,pb,h3]|refine sp_ ?_ ?_<;>try(intro hc;push_cast at hc)|omega|intro _))
    all_goals first|omega
   ·(with_reducible repeat'(first|simp(disch:=omega)only[push_cast,↓zz,seval,pa,pb]|refine sp_ ?_ ?_<;>try(intro hc;push_cast at hc)|omega|intro _))
    all_goals first|omega
  ·(with_reducible repeat'(first|simp(disch:=omega)only[push_cast,↓zz,seval,pa,pb]|refine sp_ ?_ ?_<;>try(intro hc;push_cast at hc)|omega|intro _))
   all_goals first|omega
theorem Vb(x:Int):PC Tryz.prog 166 [.int .i32 x] (.bool false):=by
 refine Cf Nk ?_;unfold IC;(with_reducible repeat'(first|simp(disch:=omega)only[push_cast,↓zz,seval]|refine sp_ ?_ ?_<;>try(intro hc;push_cast at hc)|omega|intro _))
theorem zdc(x y:Int):PC Tryz.prog 141 [.int .i32 x,.int .i32 y] (.int .i64 (if x<y then -1 else if y<x then 1 else 0)):=by
 have hx:=Vb x;have hy:=Vb y;refine Cf KV ?_;unfold Hv;by_cases h1:x<y
 ·rw[Ae h1]
  (with_reducible repeat'(first|simp(disch:=omega)only[push_cast,↓zz,seval,h1]|refine sp_ ?_ ?_<;>try(intro hc;push_cast at hc)|refine ee hx ?_|refine ee hy ?_|((first|refine cc hx ?_|refine cc hy ?_);simp(disch:=omega)only[push_cast,↓zz,seval,h1];fail_if_success change False)|omega|intro _))
 ·rw[Ab h1]
  by_cases h2:y<x
  ·rw[Ae h2]
   (with_reducible repeat'(first|simp(disch:=omega)only[push_cast,↓zz,seval,h1,h2]|refine sp_ ?_ ?_<;>try(intro hc;push_cast at hc)|refine ee hx ?_|refine ee hy ?_|((first|refine cc hx ?_|refine cc hy ?_);simp(disch:=omega)only[push_cast,↓zz,seval,h1,h2];fail_if_success change False)|omega|intro _))
  ·rw[Ab h2]
   (with_reducible repeat'(first|simp(disch:=omega)only[push_cast,↓zz,seval,h1,h2]|refine sp_ ?_ ?_<;>try(intro hc;push_cast at hc)|refine ee hx ?_|refine ee hy ?_|((first|refine cc hx ?_|refine cc hy ?_);simp(disch:=omega)only[push_cast,↓zz,seval,h1,h2];fail_if_success change False)|omega|intro _))
theorem Nb(a b:List Int)(ha:a.length<=1000000000)(hb:b.length<=1000000000):PC Tryz.prog 105 [A6 a,A6 b] (.int .i64 (cmpL a b)):=by
 have pa:=Bf a;have pb:=Bf b;have hF:=z0y a b ha;have hfl:=SH a b;have hC:=zdc (nth a (C8 a b)) (nth b (C8 a b));rw[Pv];generalize hf:C8 a b=f at *;refine Cf PL ?_;unfold JL;by_cases h1:f=a.length
 ·by_cases h2:f=b.length
  ·rw[Ae ⟨h1,h2⟩]
   (with_reducible repeat'(first|simp(disch:=omega)only[push_cast,↓zz,seval,pa,pb]|refine sp_ ?_ ?_<;>try(intro hc;push_cast at hc)|refine ee hF ?_|(refine cc hF ?_;simp(disch:=omega)only[push_cast,↓zz,seval,pa,pb];fail_if_success change False)|omega|intro _))
   all_goals first|omega
  ·rw[Ab (λh=>h2 h.2),Ae h1]
   (with_reducible repeat'(first|simp(disch:=omega)only[push_cast,↓zz,seval,pa,pb]|refine sp_ ?_ ?_<;>try(intro hc;push_cast at hc)|refine ee hF ?_|(refine cc hF ?_;simp(disch:=omega)only[push_cast,↓zz,seval,pa,pb];fail_if_success change False)|omega|intro _))
   all_goals first|omega
 ·rw[Ab (λh=>h1 h.1),Ab h1]
  by_cases h2:f=b.length
  ·rw[Ae h2]
   (with_reducible repeat'(first|simp(disch:=omega)only[push_cast,↓zz,seval,pa,pb]|refine sp_ ?_ ?_<;>try(intro hc;push_cast at hc)|refine ee hF ?_|(refine cc hF ?_;simp(disch:=omega)only[push_cast,↓zz,seval,pa,pb];fail_if_success change False)|omega|intro _))
   all_goals first|omega
  ·rw[Ab h2]
   (with_reducible repeat'(first|simp(disch:=omega)only[push_cast,↓zz,seval,pa,pb]|refine sp_ ?_ ?_<;>try(intro hc;push_cast at hc)|refine ee hF ?_|refine ee hC ?_|((first|refine cc hF ?_|refine cc hC ?_);simp(disch:=omega)only[push_cast,↓zz,seval,pa,pb];fail_if_success change False)|omega|intro _))
   all_goals first|omega
theorem SI:∀a b:List Int,cmpL a b=0↔a=b
 |[],[]=>by simp[cmpL]
 |[],_::_=>by simp[cmpL]
 |_::_,[]=>by simp[cmpL]
 |a::l,b::m=>by
  simp only[cmpL,DZ];by_cases h1:a<b
  ·rw[Ae h1];constructor
   ·intro h;cases h
   ·intro h;omega
  ·rw[Ab h1]
   by_cases h2:b<a
   ·rw[Ae h2];constructor
    ·intro h;cases h
    ·intro h;omega
   ·rw[Ab h2,SI l m]
    have:a=b:=by omega
    simp[this]
theorem Vd:∀a b:List Int,cmpL a b<0↔ltW a b=true
 |[],[]=>by simp[cmpL,ltW]
 |[],_::_=>by simp[cmpL,ltW]
 |_::_,[]=>by simp[cmpL,ltW]
 |a::l,b::m=>by
  simp only[cmpL,ltW];by_cases h1:a<b
  ·rw[Ae h1,Ae h1];simp
  ·rw[Ab h1,Ab h1]
   by_cases h2:b<a
   ·rw[Ae h2,Ae h2];simp
   ·rw[Ab h2,Ab h2];exact Vd l m
theorem z6w(a b:List Int)(ha:a.length<=1000000000)(hb:b.length<=1000000000):PC Tryz.prog 107 [A6 a,A6 b] (.bool (decide (a=b))):=by
 have hC:=Nb a b ha hb;have hz:decide (cmpL a b=0)=decide (a=b):=B1.2 (SI a b);refine Cf RX ?_;unfold KQ;rw[<-hz];generalize cmpL a b=c at *;(with_reducible repeat'(first|simp(disch:=omega)only[push_cast,↓zz,seval]|refine sp_ ?_ ?_<;>try(intro hc;push_cast at hc)|refine ee hC ?_|(refine cc hC ?_;simp(disch:=omega)only[push_cast,↓zz,seval];fail_if_success change False)|omega|intro _))
def Cu(l:List (List Int)):Nat->List (List Int)
 |0=>[]
 |k+1=>if 0<k/\nth l k=nth l (k-1) then Cu l k else Cu l k++[nth l k]
theorem Pw{l:List (List Int)}:∀(k:Nat),k<=l.length->∀w,w∈Cu l k↔w∈l.take k
 |0,_,w=>by simp[Cu]
 |k+1,hk,w=>by
  have ih:=Pw (l:=l) k (by omega) w;rw[take_at (by omega),Cu];split
  ·rename_i h
   rw[ih,Ao,Am];constructor
   ·exact .inl
   ·rintro (h1|rfl)
    ·exact h1
    ·rw[h.2]
     have e:l.take k=l.take (k-1)++[nth l (k-1)]:=by
      have:=take_at (l:=l) (i:=k-1) (by omega)
      rwa [show k-1+1=k by omega] at this
     rw[e];simp
  ·rw[Ao,ih,Ao]
theorem Ve{l:List (List Int)}{k:Nat}(hk:k<=l.length){w:List Int}(h:w∈l.take k):∃i,i<k/\w=nth l i:=by
 obtain⟨i,hi,rfl⟩:=Bv h;rw[BA] at hi;refine⟨i,by omega,?_⟩;rw[Gp (by omega),List.getElem_take]
theorem Rb{l:List (List Int)}(hs:l.Pairwise λa b=>ltW b a=false):∀(k:Nat),k<=l.length->I3 (Cu l k)
 |0,_=>List.Pairwise.nil
 |k+1,hk=>by
  have ih:=Rb hs k (by omega)
  have hle:∀i j,i<j->j<l.length->ltW (nth l j) (nth l i)=false:=λi j hij hj=>by
   rw[Gp hj,Gp (by omega)];exact Cq.1 hs i j (by omega) hj hij
  rw[Cu];split
  ·exact ih
  ·rename_i hne
   refine D8.2 ⟨ih,Eb _ _,λa ha b hb=>?_⟩;rw[Am.1 hb];obtain⟨i,hi,rfl⟩:=Ve (by omega) ((Pw k (by omega) a).1 ha);cases hlt:ltW (nth l i) (nth l k) with
   |true=>rfl
   |false =>
    exfalso;have e:=Ie _ _ hlt (hle i k hi (by omega));refine hne ⟨by omega,?_⟩;by_cases h1:i=k-1
    ·rw[<-e,h1]
    ·have h2:=hle i (k-1) (by omega) (by omega)
     have h3:=hle (k-1) k (by omega) (by omega);rw[<-e] at h3 ⊢;exact Ie _ _ h3 h2
theorem Vf(l:List (List Int)):∀k,(Cu l k).length<=k
 |0=>by simp[Cu]
 |k+1=>by
  have:=Vf l k;rw[Cu];split
  ·omega
  ·simp;omega
theorem z0z{l m:List (List Int)}(h:m.Pairwise λa b=>ltW b a=false)(hp:m.Perm l):I4 l=Cu m m.length:=Y6 (Rb h _ (Ad _)) λw=>by
 rw[Pw _ (Ad _),A7];exact hp.mem_iff
theorem z6x{α:Type}[Inhabited α](a b:List α)(k:Nat):nth (a++b) (a.length+k)=nth b k:=by
 simp[nth,List.getD,AD]
theorem YI{α:Type}[Inhabited α](l:List α)(i k:Nat):nth (l.drop i) k=nth l (i+k):=by
 simp[nth,List.getD]
theorem set_mid{α:Type}(C J D:List α)(h v:α):(C++(h::J)++D).set C.length v=(C++[v])++J++D:=by simp
theorem Lv(ex:Bool)(l:List (List Int))(hl:l.length<=1000000000)(hw:∀w∈l,w.length<=1000000000):B3 Tryz.prog 106 [.ref 0 1 0 l.length,.fn 107 []] (Abs.hl [⟨1,1,ex,l.map A6⟩]) λy H' =>
 y=.ref 0 1 0 (Cu l l.length).length/\∃z,Bh z=true/\H'=Abs.hl [⟨1,1,ex,(Cu l l.length).map A6++z⟩]:=by
 have pL:=Ce l;have hc1:=Vf l l.length;refine XD (b:=1) Gu rfl ?_;unfold EF;by_cases h2:l.length<2
 ·have hce:Cu l l.length=l:=by
   match l,h2 with
   |[],_=>rfl
   |[a],_=>rfl
  (with_reducible repeat'(first|simp(disch:=omega)only[push_cast,↓zz,seval,pL]|refine sp_ ?_ ?_<;>try(intro hc;push_cast at hc)|omega|intro _))
  all_goals
   refine TJ [] (.ref 0 1 0 (Cu l l.length).length) [⟨1,1,ex,(Cu l l.length).map A6++[]⟩] ?_ ⟨rfl,[],rfl,rfl⟩;rw[hce,A4];(with_reducible repeat'(first|simp(disch:=omega)only[push_cast,↓zz,seval,pL]|refine sp_ ?_ ?_<;>try(intro hc;push_cast at hc)|omega|intro _))
 ·have hcl:∀i,(∀j,1<=j->j<i->nth l j≠nth l (j-1))->i<=l.length->Cu l i=l.take i:=λi=>by
   induction i with
   |zero=>intro _ _;simp[Cu]
   |succ i ih =>
    intro hj hi;rw[Cu,ih (λj h1 h2=>hj j h1 (by omega)) (by omega),take_at (by omega)];by_cases h0:0<i
    ·rw[Ab λh=>hj i (by omega) (by omega) h.2]
    ·rw[Ab λh=>h0 h.1]
  have hfn:∀a∈l,∀b∈l,PC Tryz.prog 107 [A6 a,A6 b] (.bool (decide (a=b))):=λa ha b hb=>z6w a b (hw a ha) (hw b hb);(with_reducible repeat'(first|simp(disch:=omega)only[push_cast,↓zz,seval,pL]|refine sp_ ?_ ?_<;>try(intro hc;push_cast at hc)|omega|intro _))
  refine Br (Bs (λ(i:Nat)=>(1<=i/\i<=l.length)/\Hold (∀j,1<=j->j<i->nth l j≠nth l (j-1))) (λi=>l.length-i)
   (λi=>[(0,.ref 0 1 0 l.length),(1,.fn 107 []),(5,.int .i64 i)]) (λ_=>[⟨1,1,ex,l.map A6⟩]) (λ_ _=>[]) 1 ⟨by omega,⟨λj h1 h2=>by omega⟩⟩ ?_ ?_)
  ·(with_reducible repeat'(first|simp(disch:=omega)only[push_cast,↓zz,seval,pL]|refine sp_ ?_ ?_<;>try(intro hc;push_cast at hc)|omega|intro _))
  rintro i ⟨⟨hi1,hi⟩,⟨hno⟩⟩;rcases Ak i l.length with hil|hil
  ·have m1:nth l i∈l:=AS hil
   have m2:nth l (i-1)∈l:=AS (by omega);have hF:=hfn _ m1 _ m2;have a1:((l.map A6).getD i .any)=A6 (nth l i):=by simp[nth,List.getD,hil]
   have a2:((l.map A6).getD (i-1) .any)=A6 (nth l (i-1)):=by
    have:i-1<l.length:=by omega
    simp[nth,List.getD,this]
   have hci:=hcl i hno (by omega);have hi0:((i:Int)-1).toNat=i-1:=by omega
   generalize hu:nth l i=u at *;generalize hv:nth l (i-1)=v at *;have pu:=Bf u;have pv:=Bf v;refine W_T ?_;by_cases he:u=v
   ·rw[AE he] at hF
    (with_reducible repeat'(first|simp(disch:=omega)only[push_cast,↓zz,seval,pL,hu,hv,pu,pv,hi0,a1,a2]|refine sp_ ?_ ?_<;>try(intro hc;push_cast at hc)|refine ee hF ?_|(refine cc hF ?_;simp(disch:=omega)only[push_cast,↓zz,seval,pL,hu,hv,pu,pv,hi0,a1,a2];fail_if_success change False)|omega|intro _));have hst:Cu l (i+1)=l.take i:=by rw[Cu,Ae ⟨by omega,by rw[hu,hv];exact he⟩,hci]
    have hstep:∀k,Cu l (i+k+1)=if nth l (i+k)=nth l (i+k-1) then Cu l (i+k) else Cu l (i+k)++[nth l (i+k)]:=λk=>by
     rw[Cu];by_cases h:nth l (i+k)=nth l (i+k-1)
     ·rw[Ae ⟨by omega,h⟩,Ae h]
     ·rw[Ab λhh=>h hh.2,Ab h]
    clear hno hcl hF a1 a2 pu pv
    refine Br (Bs (λ(q:Nat × List (List Int))=>(1<=q.1/\i+q.1<=l.length)/\(Cu l (i+q.1)).length+q.2.length=i+q.1-1) (λq=>l.length-q.1)
     (λq=>[(0,.ref 0 1 0 l.length),(1,.fn 107 []),(5,.int .i64 (Cu l (i+q.1)).length),(6,.ref 0 1 i (l.length-i)),(7,.int .i64 q.1)])
     (λq=>[⟨1,1,ex,(Cu l (i+q.1)++q.2++l.drop (i+q.1-1)).map A6⟩]) (λ_ _=>[]) (1,[]) ⟨by omega,by simp only[hst];simp;omega⟩ ?_ ?_)
    ·have hX:Cu l (i+1)++[]++l.drop (i+1-1)=l:=by rw[hst,A4,Nat.add_sub_cancel,Ck]
     have hCl:(Cu l (i+1)).length=i:=by rw[hst,BA];omega
     simp only[hX,hCl];(with_reducible repeat'(first|simp(disch:=omega)only[push_cast,↓zz,seval,pL]|refine sp_ ?_ ?_<;>try(intro hc;push_cast at hc)|omega|intro _))
    rintro⟨k,J⟩ ⟨⟨hk1,hk⟩,hJ⟩;simp only at hk1 hk hJ ⊢;have hXl:(Cu l (i+k)++J++l.drop (i+k-1)).length=l.length:=by simp only[Aj,List.length_drop];omega
    have hCJ:(Cu l (i+k)++J).length=i+k-1:=by rw[Aj];exact hJ
    rcases Ak (i+k) l.length with hkl|hkl
    ·have n1:nth (Cu l (i+k)++J++l.drop (i+k-1)) (i+k)=nth l (i+k):=by
      have:=z6x (Cu l (i+k)++J) (l.drop (i+k-1)) 1;rw[hCJ,YI] at this
      rwa [show i+k-1+1=i+k by omega] at this
     have n2:nth (Cu l (i+k)++J++l.drop (i+k-1)) (i+k-1)=nth l (i+k-1):=by
      have:=z6x (Cu l (i+k)++J) (l.drop (i+k-1)) 0;rw[hCJ,YI,Nat.add_zero] at this;exact this
     have m1:nth l (i+k)∈l:=AS hkl;have m2:nth l (i+k-1)∈l:=AS (by omega);have hF:=hfn _ m1 _ m2;have hs:=hstep k
     have hdr:l.drop (i+k-1)=nth l (i+k-1)::l.drop (i+k):=by
      have:=drop_at (l:=l) (i:=i+k-1) (by omega)
      rwa [show i+k-1+1=i+k by omega] at this
     obtain⟨h,J',hJ'⟩:∃h J',J++[nth l (i+k-1)]=h::J':=by
      cases J with
      |nil=>exact⟨_,[],rfl⟩
      |cons a J=>exact⟨a,J++[_],rfl⟩
     have hJl:J'.length=J.length:=by have:=Dl List.length hJ';simp at this;omega
     have hXe:Cu l (i+k)++J++l.drop (i+k-1)=Cu l (i+k)++(h::J')++l.drop (i+k):=by
      rw[hdr,<-hJ'];simp
     have hset:(Cu l (i+k)++J++l.drop (i+k-1)).set (Cu l (i+k)).length (nth l (i+k))=Cu l (i+k)++[nth l (i+k)]++J'++l.drop (i+k):=by rw[hXe,set_mid]
     have hsame:Cu l (i+k)++J++l.drop (i+k-1)=Cu l (i+k)++(J++[nth l (i+k-1)])++l.drop (i+k):=by rw[hdr];simp
     have pX:=Ce (Cu l (i+k)++J++l.drop (i+k-1));have hmset:((Cu l (i+k)++J++l.drop (i+k-1)).map A6).set (Cu l (i+k)).length (A6 (nth l (i+k)))=(Cu l (i+k)++[nth l (i+k)]++J'++l.drop (i+k)).map A6:=by rw[<-List.map_set,hset]
     have hidx:(i:Int)+k=((i+k:Nat):Int):=by omega
     have e1':i+(k-1)=i+k-1:=by omega
     have hk0:((k:Int)-1).toNat=k-1:=by omega
     have hcl2:(Cu l (i+k)).length<l.length:=by omega
     generalize hX:Cu l (i+k)++J++l.drop (i+k-1)=X at *;generalize hu2:nth l (i+k)=u2 at *;generalize hv2:nth l (i+k-1)=v2 at *;have pu:=Bf u2;have pv:=Bf v2;refine W_T ?_;by_cases he2:u2=v2
     ·rw[AE he2] at hF
      rw[Ae he2] at hs;(with_reducible repeat'(first|simp(disch:=omega)only[push_cast,↓zz,seval,pX,hXl,n1,n2,pu,pv,hk0,e1']|refine sp_ ?_ ?_<;>try(intro hc;push_cast at hc)|refine ee hF ?_|(refine cc hF ?_;simp(disch:=omega)only[push_cast,↓zz,seval,pX,hXl,n1,n2,pu,pv,hk0,e1'];fail_if_success change False)|omega|intro _))
      all_goals
       refine⟨(k+1,J++[v2]),?_⟩;have e2:i+(k+1)-1=i+k:=by omega
       have hsm:(Cu l (i+k)).map A6++(J.map A6++A6 v2::(l.drop (i+k)).map A6)=X.map A6:=by rw[hsame];simp
       simp only[<-Bo,hs,e2];(with_reducible repeat'(first|simp(disch:=omega)only[push_cast,↓zz,seval,pX,hsm]|refine sp_ ?_ ?_<;>try(intro hc;push_cast at hc)|omega|intro _))
     ·rw[Bc he2] at hF
      rw[Ab he2] at hs;have pX1:=Ce (Cu l (i+k)++[u2]++J'++l.drop (i+k));(with_reducible repeat'(first|simp(disch:=omega)only[push_cast,↓zz,seval,pX,hXl,n1,n2,pu,pv,hk0,e1',hmset]|refine sp_ ?_ ?_<;>try(intro hc;push_cast at hc)|refine ee hF ?_|(refine cc hF ?_;simp(disch:=omega)only[push_cast,↓zz,seval,pX,hXl,n1,n2,pu,pv,hk0,e1',hmset];fail_if_success change False)|omega|intro _))
      all_goals
       refine⟨(k+1,J'),?_⟩;have e2:i+(k+1)-1=i+k:=by omega
       simp only[<-Bo,hs,e2];(with_reducible repeat'(first|simp(disch:=omega)only[push_cast,↓zz,seval,pX1,Aj,List.length_cons,List.length_nil]|refine sp_ ?_ ?_<;>try(intro hc;push_cast at hc)|omega|intro _))
    ·have hkn:i+k=l.length:=by omega
     rw[hkn] at hXl hCJ hJ ⊢;have hm:(Cu l l.length++J++l.drop (l.length-1)).map A6=(Cu l l.length).map A6++(J++l.drop (l.length-1)).map A6:=by rw[A3,Aw]
     have hmt:((Cu l l.length++J++l.drop (l.length-1)).map A6).take (Cu l l.length).length=(Cu l l.length).map A6:=by rw[hm];exact Ec (by simp)
     have hmd:((Cu l l.length++J++l.drop (l.length-1)).map A6).drop l.length=[]:=An (by rw[AY,hXl];exact Ad _);have pX:=Ce (Cu l l.length++J++l.drop (l.length-1));have pC:=Ce (Cu l l.length);have pN:=Jl (l.length-(Cu l l.length).length);generalize Cu l l.length++J++l.drop (l.length-1)=X at *;generalize Cu l l.length=C at *;have hcn:C.length+(l.length-C.length)=l.length:=by omega
     refine W_T ?_;(with_reducible repeat'(first|simp(disch:=omega)only[push_cast,↓zz,seval,pX,hXl,hmt,hmd,hcn,A4]|refine sp_ ?_ ?_<;>try(intro hc;push_cast at hc)|omega|intro _))
     all_goals
      refine TJ [] (.ref 0 1 0 C.length) [⟨1,1,ex,C.map A6++List.replicate (l.length-C.length) .nilS⟩] ?_ ⟨rfl,_,pN,rfl⟩;(with_reducible repeat'(first|simp(disch:=omega)only[push_cast,↓zz,seval,pX,pC,pN]|refine sp_ ?_ ?_<;>try(intro hc;push_cast at hc)|omega|intro _))
   ·rw[Bc he] at hF
    have hnx:Hold (∀j,1<=j->j<i+1->nth l j≠nth l (j-1)):=⟨λj h1 h2=>by
     by_cases e:j=i
     ·subst e;rw[hu,hv];exact he
     ·exact hno j h1 (by omega)⟩
    clear hno hcl;(with_reducible repeat'(first|simp(disch:=omega)only[push_cast,↓zz,seval,pL,hu,hv,pu,pv,hi0,a1,a2]|refine sp_ ?_ ?_<;>try(intro hc;push_cast at hc)|refine ee hF ?_|(refine cc hF ?_;simp(disch:=omega)only[push_cast,↓zz,seval,pL,hu,hv,pu,pv,hi0,a1,a2];fail_if_success change False)|omega|intro _))
    all_goals
     refine⟨i+1,?_⟩;(with_reducible repeat'(first|simp(disch:=omega)only[push_cast,↓zz,seval,pL]|refine sp_ ?_ ?_<;>try(intro hc;push_cast at hc)|omega|intro _))
     all_goals first|exact⟨by omega,hnx⟩|exact hnx
  ·obtain rfl:i=l.length:=by omega
   have hce:=hcl l.length hno (Ad _);rw[A7] at hce;clear hno hcl;refine W_T ?_;(with_reducible repeat'(first|simp(disch:=omega)only[push_cast,↓zz,seval,pL]|refine sp_ ?_ ?_<;>try(intro hc;push_cast at hc)|omega|intro _))
   all_goals
    refine TJ [] (.ref 0 1 0 (Cu l l.length).length) [⟨1,1,ex,(Cu l l.length).map A6++[]⟩] ?_ ⟨rfl,[],rfl,rfl⟩;rw[hce,A4];(with_reducible repeat'(first|simp(disch:=omega)only[push_cast,↓zz,seval,pL]|refine sp_ ?_ ?_<;>try(intro hc;push_cast at hc)|omega|intro _))
theorem WG{l:List H8}{s i:Nat}:i∈fiI l s↔i<l.length/\(nth l i).from_=s:=by simp[fiI,I7]
theorem zjw(l:List H8)(s:Nat):(fiI l s).length<=l.length:=Pu _ _
section
variable (d:Desc)(x:List Int)(S:Nat->Nat->List (List Int))(at_ s:Nat)
def finW(k:Nat):List (List Int):=((fiI d.finals s).take k).flatMap λi=>if (nth d.finals i).guards.length+at_=x.length/\goB x (nth d.finals i).guards at_=true then [FM x (nth d.finals i).out (nth d.finals i).guards at_] else []
def toW(i:Nat):List (List Int):=S (at_+(nth d.rules i).eat.toNat) (nth d.rules i).to_.toNat
def rulW(k:Nat):List (List Int):=((ruI d.rules s).take k).flatMap λi=>if goB x (nth d.rules i).guards at_=true then (toW d S at_ i).map (FM x (nth d.rules i).out (nth d.rules i).guards at_++·) else []
def allW:List (List Int):=finW d x at_ s (fiI d.finals s).length++rulW d x S at_ s (ruI d.rules s).length
variable {d x S at_ s}{k:Nat}
theorem z6y:finW d x at_ s 0=[]:=rfl
theorem z6z:rulW d x S at_ s 0=[]:=rfl
theorem zdd(hk:k<(fiI d.finals s).length){f:H8}(hf:nth d.finals (nth (fiI d.finals s) k)=f)(h:(decide (f.guards.length+at_=x.length)&&goB x f.guards at_)=true):finW d x at_ s (k+1)=finW d x at_ s k++[FM x f.out f.guards at_]:=by
 simp only[Ac,Ah] at h;rw[finW,take_at hk,Da,C6,hf,Ae h];rfl
theorem zjx(hk:k<(fiI d.finals s).length){f:H8}(hf:nth d.finals (nth (fiI d.finals s) k)=f)(h:(decide (f.guards.length+at_=x.length)&&goB x f.guards at_)=false):finW d x at_ s (k+1)=finW d x at_ s k:=by
 rw[finW,take_at hk,Da,C6,hf,Ab,A4]
 ·rfl
 rintro⟨h1,h2⟩;rw[h2,AE h1] at h;cases h
theorem YJ(hk:k<(ruI d.rules s).length){r:Rule}(hf:nth d.rules (nth (ruI d.rules s) k)=r)(h:goB x r.guards at_=true):rulW d x S at_ s (k+1)=rulW d x S at_ s k++(S (at_+r.eat.toNat) r.to_.toNat).map (FM x r.out r.guards at_++·):=by
 rw[rulW,take_at hk,Da,C6,hf,Ae h,toW,hf];rfl
theorem z71(hk:k<(ruI d.rules s).length){r:Rule}(hf:nth d.rules (nth (ruI d.rules s) k)=r)(h:goB x r.guards at_=false):rulW d x S at_ s (k+1)=rulW d x S at_ s k:=by
 rw[rulW,take_at hk,Da,C6,hf,Ab (by rw[h];simp),A4];rfl
theorem YK:(finW d x at_ s k).length<=k:=by
 induction k with
 |zero=>simp[finW]
 |succ k ih =>
  rcases Ak k (fiI d.finals s).length with h|h
  ·rw[finW,take_at h,Da,Aj,C6]
   rw[finW] at ih;split
   ·rw[List.length_singleton];omega
   ·rw[List.length_nil];omega
  ·rw[finW,Az (by omega)]
   rw[finW,Az h] at ih;omega
theorem zde{w:List Int}:w∈finW d x at_ s (fiI d.finals s).length↔∃f∈d.finals,f.from_=(s:Nat)/\(f.guards.length+at_=x.length/\goB x f.guards at_=true)/\w=FM x f.out f.guards at_:=by
 rw[finW,A7,DR];constructor
 ·rintro⟨i,hi,hw⟩
  obtain⟨i1,i2⟩:=WG.1 hi;split at hw
  ·rename_i h
   exact⟨_,AS i1,i2,h,by simpa using hw⟩
  ·cases hw
 ·rintro⟨f,hf,h1,h2,rfl⟩
  obtain⟨i,hi,rfl⟩:=Bv hf;have e:nth d.finals i=d.finals[i]:=Gp hi;exact⟨i,WG.2 ⟨hi,by rw[e];exact h1⟩,by rw[e,Ae h2];simp⟩
theorem zdf{w:List Int}:w∈rulW d x S at_ s (ruI d.rules s).length↔∃r∈d.rules,r.from_=(s:Nat)/\goB x r.guards at_=true/\∃v∈S (at_+r.eat.toNat) r.to_.toNat,w=FM x r.out r.guards at_++v:=by
 rw[rulW,A7,DR];constructor
 ·rintro⟨i,hi,hw⟩
  obtain⟨i1,i2⟩:=HE.1 hi;split at hw
  ·rename_i h
   obtain⟨v,hv,rfl⟩:=Ax.1 hw;exact⟨_,AS i1,i2,h,v,hv,rfl⟩
  ·cases hw
 ·rintro⟨r,hr,h1,h2,v,hv,rfl⟩
  obtain⟨i,hi,rfl⟩:=Bv hr;have e:nth d.rules i=d.rules[i]:=Gp hi;refine⟨i,HE.2 ⟨hi,by rw[e];exact h1⟩,?_⟩;rw[e,Ae h2,toW,e];exact Ax.2 ⟨v,hv,rfl⟩
theorem z72:I4 (allW d x S at_ s)=I4 (outL d x (λa t=>S a t.toNat) at_ (s:Nat)):=by
 refine (Y6 (Ha _) λw=>?_);rw[Hn,allW,Ao,zde,zdf,outL,Ao,Ax,DR];constructor
 ·rintro (⟨f,hf,rfl⟩|⟨r,hr,hw⟩)
  ·obtain⟨h1,h2⟩:=Bn.1 hf
   simp only[Ac,Ah] at h2;exact .inl ⟨f,h1,h2.1,h2.2,rfl⟩
  ·obtain⟨h1,h2⟩:=Bn.1 hr
   simp only[Ac,Ah] at h2;obtain⟨v,hv,rfl⟩:=Ax.1 hw;exact .inr ⟨r,h1,h2.1,h2.2,v,hv,rfl⟩
 ·rintro (⟨f,h1,h2,h3,rfl⟩|⟨r,h1,h2,h3,v,hv,rfl⟩)
  ·exact .inl ⟨f,Bn.2 ⟨h1,by simp[h2,h3.1,h3.2]⟩,rfl⟩
  ·exact .inr ⟨r,Bn.2 ⟨h1,by simp[h2,h3]⟩,Ax.2 ⟨v,hv,rfl⟩⟩
end
def IQ(o:Option (List Int))(w:List Int):Option (List Int):=match o with
 |none=>some w
 |some m=>if cmpL w m<0 then some w else some m
structure LeastI(C:List (List Int))(o:Option (List Int)):Prop where
 no:o=none->C=[]
 yes:∀m,o=some m->m∈C/\∀c∈C,ltW c m=false
section
variable {d:Desc}{x:List Int}{n:Nat}{ord:List Nat}{L:Nat->Nat->Bool}{at_ j:Nat}
structure LeaI(d:Desc)(x:List Int)(L:Nat->Nat->Bool)(ord:List Nat)(at_ j:Nat)(B:Nat->Nat->Option (List Int)):Prop where
 past:∀a t,a<=x.length->L a t=true->Past ord at_ j a t->B a t=(outW d x a t).head?
 rest:∀a t,¬Past ord at_ j a t->B a t=none
variable {B:Nat->Nat->Option (List Int)}
variable {y:List Int}{M:Nat->Nat->Nat->Bool}
end
theorem zdg{σ:Type}(d:Desc)(x:List Int){n:Nat}{ord:List Nat}{L:Nat->Nat->Bool}(RU FI:AV)(hRU:RU.pure=true)(hFI:FI.pure=true)(hdn:d.states=n)(hn:n<=1024)(hx:x.length<=1024)(ht:Topo d.rules n ord)
 (f:Nat) (caps:List AV) (N:Nat) (heap:σ->List Grp) (hN:∀s,(heap s).length=N) (hcl:∀s,∀G∈heap s,ltL N G.xs) (hcaps:ltL N caps)
 (Inv:Nat->Nat->σ->Prop) (s0:σ) (h0:Inv x.length 0 s0)
 (call:∀a j s,a<=x.length->j<n->Inv a j s->L a (nth ord j)=true->B3 Tryz.prog f (.int .i64 a::.int .i64 (nth ord j:Nat)::caps) (Abs.hl (heap s)) λy H'=>y=.tup []/\∃s',H'=Abs.hl (heap s')/\Inv a (j+1) s')
 (skip:∀a j s,a<=x.length->j<n->Inv a j s->L a (nth ord j)=false->Inv a (j+1) s)
 (row:∀a s,a+1<=x.length->Inv (a+1) n s->Inv a 0 s) :
 B3 Tryz.prog 61 [Eh d x RU FI (.lst 1 (ord.map e1)) (.lst 1 (lvB n ((x.length+1) * n) L)),.fn f caps] (Abs.hl (heap s0)) λy H'=>y=.tup []/\∃s,H'=Abs.hl (heap s)/\Inv 0 n s:=by
 have pR:=BO d.rules;have pFi:=Ch d.finals;have pX:=Bf x;have pO:Bh (ord.map e1)=true:=E6 (λ_=>rfl) _;have hol:=EM ht;have lL:(lvB n ((x.length+1) * n) L).length=(x.length+1) * n:=Kz;have pL:Bh (lvB n ((x.length+1) * n) L)=true:=N5;have hmx:(x.length+1) * n<=1025 * 1024:=Ca (by omega) hn;have pN:(Eh d x RU FI (.lst 1 (ord.map e1)) (.lst 1 (lvB n ((x.length+1) * n) L))).pure=true:=by simp[AV.pure,Bh,pR,pFi,pX,pO,pL,hRU,hFI]
 have aL:∀a t,a<=x.length->t<n->(lvB n ((x.length+1) * n) L).getD (a * n+t) .any=.bool (L a t):=λa t ha htn=>zfe htn (GW htn ha);have pl:∀a t,a<=x.length->t<n->a * n+t<(x.length+1) * n:=λa t ha htn=>GW htn ha;generalize hm:(x.length+1) * n=m at *;generalize hLV:lvB n m L=LV at *;refine DG (GD LN (W_T ?_));unfold HR;(with_reducible repeat'(first|simp(disch:=omega)only[push_cast,↓zz,seval,pR,pFi,pX,pO,pL,hRU,hFI]|refine sp_ ?_ ?_<;>try(intro hc;push_cast at hc)|omega|intro _))
 refine Br (Kl (λ(q:Nat × σ)=>q.1<=x.length+1/\Hold ((q.1=0->Inv 0 n q.2)/\∀a,q.1=a+1->Inv a 0 q.2)) (λq=>q.1)
  (λq=>EB [(0,Eh d x RU FI (.lst 1 (ord.map e1)) (.lst 1 LV)),(1,.fn f caps),(4,.int .i64 ((q.1:Int)-1))]) (λq=>Abs.hl (heap q.2)) (x.length+1,s0) ⟨Ad _,⟨⟨λh=>(by cases h),λa h=>?_⟩⟩⟩ ?_ ?_)
 ·obtain rfl:x.length=a:=by simpa using h
  exact h0
 ·refine Gs (gar:=[]) _ (A4 _).symm (DL ((hN _).trans (hN _).symm)) (by rw[hN];exact hcl _) ?_
  rw[hN];refine⟨rfl,trivial,rfl,hcaps,?_,trivial,trivial⟩;show AV.int _ _=_;congr 1;simp only;omega
 rintro⟨k,s⟩ ⟨hk,⟨⟨hI0,hI⟩⟩⟩;simp only at hk hI0 hI ⊢;rcases Nat.eq_zero_or_pos k with rfl|hk0
 ·have hI0:=hI0 rfl
  refine W_T ?_;(with_reducible repeat'(first|simp(disch:=omega)only[push_cast,↓zz,seval,pR,pFi,pX,pO,pL,hRU,hFI]|refine sp_ ?_ ?_<;>try(intro hc;push_cast at hc)|omega|intro _))
  all_goals exact⟨_,_,Ent.refl,rfl,s,rfl,hI0⟩
 ·obtain⟨a,rfl⟩:∃a,k=a+1:=⟨k-1,by omega⟩
  have hIa:=hI a rfl;clear hI0 hI;have ha:a<=x.length:=by omega
  refine W_T ?_;(with_reducible repeat'(first|simp(disch:=omega)only[push_cast,↓zz,seval,pR,pFi,pX,pO,pL,hRU,hFI]|refine sp_ ?_ ?_<;>try(intro hc;push_cast at hc)|omega|intro _))
  refine Br (Kl (λ(q:Nat × σ)=>q.1<=n/\Hold (Inv a q.1 q.2)) (λq=>n-q.1)
   (λq=>EB [(0,Eh d x RU FI (.lst 1 (ord.map e1)) (.lst 1 LV)),(1,.fn f caps),(4,.int .i64 a),(19,.lst 1 (ord.map e1)),(20,.int .i64 n),(21,.int .i64 q.1)]) (λq=>Abs.hl (heap q.2)) (0,s) ⟨Au _,⟨hIa⟩⟩ ?_ ?_)
  ·refine Gs (gar:=[]) _ (A4 _).symm (DL ((hN _).trans (hN _).symm)) (by rw[hN];exact hcl _) ?_
   rw[hN];have hO:ltV N (.lst 1 (ord.map e1)):=Cy _ _ pO;refine⟨rfl,trivial,rfl,hcaps,?_,trivial,rfl,hO,?_,trivial,rfl,trivial,trivial⟩
   ·show AV.int _ _=_
    congr 1;omega
   ·show AV.int _ _=_
    congr 1;omega
  rintro⟨j,s1⟩ ⟨hj,⟨hI⟩⟩;simp only at hj hI ⊢;have hO:ltV N (.lst 1 (ord.map e1)):=Cy _ _ pO;rcases Ak j n with hjn|hjn
  ·have aO:(ord.map e1).getD j .any=.int .i64 (nth ord j:Nat):=by simp[nth,List.getD,hol,hjn]
   have htn:nth ord j<n:=(ht.all _).1 (AS (by omega));have hcall:=call a j s1 ha hjn hI;have hskip:=skip a j s1 ha hjn hI;have aK:=aL a _ ha htn;have hpm:=pl a _ ha htn;generalize nth ord j=t at *;have hmul:((a:Int) * (n:Int))=((a * n:Nat):Int):=by norm_cast
   generalize hpe:a * n+t=p at *;generalize a * n=an at *;have hpi:(an:Int)+(t:Int)=(p:Int):=by omega
   cases hL:L a t with
   |true =>
    rw[hL] at aK;refine W_T ?_;(with_reducible repeat'(first|simp(disch:=omega)only[push_cast,↓zz,seval,pR,pFi,pX,pO,pL,hRU,hFI,aO,hdn,hmul,hpi,aK]|refine sp_ ?_ ?_<;>try(intro hc;push_cast at hc)|omega|intro _));refine z6k (extra:=[]) (A4 _).symm (hcall hL) ?_ (by rw[hN];exact hcl _) ?_
    ·rw[hN];exact⟨trivial,trivial,hcaps⟩
    rintro y H' ⟨rfl,s2,rfl,hI2⟩;refine⟨_,rfl,by rw[hN,hN],trivial,by rw[hN];exact hcl _,?_⟩;rw[A4];(with_reducible repeat'(first|simp(disch:=omega)only[push_cast,↓zz,seval]|refine sp_ ?_ ?_<;>try(intro hc;push_cast at hc)|omega|intro _));refine⟨(j+1,s2),Gs (gar:=[]) _ (A4 _).symm (DL ((hN _).trans (hN _).symm)) (by rw[hN];exact hcl _) ?_,⟨by omega,⟨hI2⟩⟩,by simp only;omega⟩;rw[hN];exact⟨rfl,trivial,rfl,hcaps,rfl,trivial,rfl,hO,rfl,trivial,rfl,trivial,trivial⟩
   |false =>
    rw[hL] at aK;refine W_T ?_;(with_reducible repeat'(first|simp(disch:=omega)only[push_cast,↓zz,seval,pR,pFi,pX,pO,pL,hRU,hFI,aO,hdn,hmul,hpi,aK]|refine sp_ ?_ ?_<;>try(intro hc;push_cast at hc)|omega|intro _));refine⟨(j+1,s1),Gs (gar:=[]) _ (A4 _).symm (DL ((hN _).trans (hN _).symm)) (by rw[hN];exact hcl _) ?_,⟨by omega,⟨hskip hL⟩⟩,by simp only;omega⟩;rw[hN];exact⟨rfl,trivial,rfl,hcaps,rfl,trivial,rfl,hO,rfl,trivial,rfl,trivial,trivial⟩
  ·obtain rfl:j=n:=by omega
   refine W_T ?_;(with_reducible repeat'(first|simp(disch:=omega)only[push_cast,↓zz,seval,pR,pFi,pX,pO,pL,hRU,hFI]|refine sp_ ?_ ?_<;>try(intro hc;push_cast at hc)|omega|intro _));refine⟨(a,s1),Gs (gar:=[]) _ (A4 _).symm (DL ((hN _).trans (hN _).symm)) (by rw[hN];exact hcl _) ?_,⟨by omega,⟨⟨λh=>?_,λa' h=>?_⟩⟩⟩,by simp only;omega⟩
   ·rw[hN]
    exact⟨rfl,trivial,rfl,hcaps,rfl,trivial,trivial⟩
   ·have h:a=0:=h
    subst h;exact hI
   ·have h:a=a'+1:=h
    subst h;exact row a' s1 (by omega) hI
end Go.Proofs.YtflibbceibjddaaGreat
namespace Go.Proofs
open Go.Shelf
def Tryz.sortWd_ren:Go.Shelf.Ren:=⟨fun|6=>104|15=>139|14=>138|28=>164|29=>165|20=>156|21=>157|22=>158|23=>159|24=>160|25=>161|26=>162|27=>163|46=>181|47=>182|48=>183|49=>184|50=>185|57=>205|n=>n,fun|22=>41|24=>23|25=>136|3=>3|39=>179|0=>0|53=>196|55=>198|4=>4|46=>190|45=>189|50=>141|5=>5|9=>9|66=>212|70=>216|76=>237|77=>103|n=>n,fun|n=>n⟩
theorem Tryz.sortWd:Go.Proofs.SlLaysF.n6 Tryz.prog Tryz.sortWd_ren:={
 mixed:=by kernel_rfl
 f6:=⟨Tryz.f104.name,by decide,Tryz.func104.trans (congrArg some (by kernel_rfl))⟩
 f14:=⟨Tryz.f138.name,by decide,Tryz.func138.trans (congrArg some (by kernel_rfl))⟩
 f15:=Tryz.func139.trans (congrArg some (by kernel_rfl))
 f20:=⟨Tryz.f156.name,by decide,Tryz.func156.trans (congrArg some (by kernel_rfl))⟩
 f21:=⟨Tryz.f157.name,by decide,Tryz.func157.trans (congrArg some (by kernel_rfl))⟩
 f22:=⟨Tryz.f158.name,by decide,Tryz.func158.trans (congrArg some (by kernel_rfl))⟩
 f23:=⟨Tryz.f159.name,by decide,Tryz.func159.trans (congrArg some (by kernel_rfl))⟩
 f24:=⟨Tryz.f160.name,by decide,Tryz.func160.trans (congrArg some (by kernel_rfl))⟩
 f25:=⟨Tryz.f161.name,by decide,Tryz.func161.trans (congrArg some (by kernel_rfl))⟩
 f26:=⟨Tryz.f162.name,by decide,Tryz.func162.trans (congrArg some (by kernel_rfl))⟩
 f27:=⟨Tryz.f163.name,by decide,Tryz.func163.trans (congrArg some (by kernel_rfl))⟩
 f28:=Tryz.func164.trans (congrArg some (by kernel_rfl))
 f29:=Tryz.func165.trans (congrArg some (by kernel_rfl))
 f46:=⟨Tryz.f181.name,by decide,Tryz.func181.trans (congrArg some (by kernel_rfl))⟩
 f47:=Tryz.func182.trans (congrArg some (by kernel_rfl))
 f48:=Tryz.func183.trans (congrArg some (by kernel_rfl))
 f49:=⟨Tryz.f184.name,by decide,Tryz.func184.trans (congrArg some (by kernel_rfl))⟩
 f50:=⟨Tryz.f185.name,by decide,Tryz.func185.trans (congrArg some (by kernel_rfl))⟩
 f57:=⟨Tryz.f205.name,by decide,Tryz.func205.trans (congrArg some (by kernel_rfl))⟩
 t0:=Tryz.underlying0
 a0:=Tryz.isAgg0
 z0:=Tryz.sizeOf0
 v0:=Tryz.zeroValue0
 t3:=Tryz.underlying3
 a3:=Tryz.isAgg3
 z3:=Tryz.sizeOf3
 v3:=Tryz.zeroValue3
 t4:=Tryz.underlying4
 a4:=Tryz.isAgg4
 z4:=Tryz.sizeOf4
 v4:=Tryz.zeroValue4
 t5:=Tryz.underlying5
 a5:=Tryz.isAgg5
 z5:=Tryz.sizeOf5
 v5:=Tryz.zeroValue5
 t9:=Tryz.underlying9
 a9:=Tryz.isAgg9
 z9:=Tryz.sizeOf9
 v9:=Tryz.zeroValue9
 t22:=Tryz.underlying41
 a22:=Tryz.isAgg41
 z22:=Tryz.sizeOf41
 v22:=Tryz.zeroValue41
 a24:=Tryz.isAgg23
 z24:=Tryz.sizeOf23
 t25:=Tryz.underlying136
 a25:=Tryz.isAgg136
 z25:=Tryz.sizeOf136
 v25:=Tryz.zeroValue136
 t39:=Tryz.underlying179
 a39:=Tryz.isAgg179
 z39:=Tryz.sizeOf179
 v39:=Tryz.zeroValue179
 t45:=Tryz.underlying189
 a45:=Tryz.isAgg189
 z45:=Tryz.sizeOf189
 v45:=Tryz.zeroValue189
 t46:=Tryz.underlying190
 a46:=Tryz.isAgg190
 z46:=Tryz.sizeOf190
 v46:=Tryz.zeroValue190
 t50:=Tryz.underlying141
 a50:=Tryz.isAgg141
 z50:=Tryz.sizeOf141
 v50:=Tryz.zeroValue141
 t53:=Tryz.underlying196
 a53:=Tryz.isAgg196
 z53:=Tryz.sizeOf196
 v53:=Tryz.zeroValue196
 t55:=Tryz.underlying198
 a55:=Tryz.isAgg198
 z55:=Tryz.sizeOf198
 v55:=Tryz.zeroValue198
 t66:=Tryz.underlying212
 a66:=Tryz.isAgg212
 z66:=Tryz.sizeOf212
 v66:=Tryz.zeroValue212
 t70:=Tryz.underlying216
 a70:=Tryz.isAgg216
 z70:=Tryz.sizeOf216
 v70:=Tryz.zeroValue216
 t76:=Tryz.underlying237
 a76:=Tryz.isAgg237
 z76:=Tryz.sizeOf237
 v76:=Tryz.zeroValue237
 t77:=Tryz.underlying103
 a77:=Tryz.isAgg103
 z77:=Tryz.sizeOf103
 v77:=Tryz.zeroValue103 }
end Go.Proofs
namespace Go.Proofs.YtflibbceibjddaaGreat
open Abs O1 O2 O3 Go.Shelf Go.RowKit Go.Lib Go.Sort
def WV(S:MS):Type:={ p:List Int × Value // VRel S (A6 p.1) p.2/\p.1.length<=1000000000 }
instance (S:MS):Inhabited (WV S):=⟨⟨([],.slice none 0 0),⟨rfl,Nat.one_pos,none,0,[],rfl,⟨Ad _,λ_=>rfl⟩,rfl,λh=>absurd rfl h⟩,Au _⟩⟩
def encW(S:MS)(p:WV S):Value:=p.val.2
def cfW(S:MS)(p q:WV S):Int:=cmpL p.val.1 q.val.1
theorem ltCW(S:MS)(p q:WV S):ltOf (cfW S) p q=ltW p.val.1 q.val.1:=by
 unfold ltOf cfW;cases h:ltW p.val.1 q.val.1 with
 |true=>exact AE ((Vd _ _).2 h)
 |false=>exact Bc λhh=>by rw[(Vd _ _).1 hh] at h;cases h
theorem z1a(a b c:List Int)(h1:ltW a b=false)(h2:ltW b c=false):ltW a c=false:=by
 cases h:ltW a c with
 |false=>rfl
 |true =>
  exfalso;cases hba:ltW b a with
  |true=>have:=GJ b a c hba h;rw[h2] at this;cases this
  |false =>
   have e:=Ie a b h1 hba;subst e;rw[h2] at h;cases h
theorem swoW(S:MS):SWO (ltOf (cfW S)) where
 irrefl x:=by rw[ltCW];exact FF _
 trans x y z h1 h2:=by rw[ltCW] at *;exact GJ _ _ _ h1 h2
 ntrans x y z h1 h2:=by rw[ltCW] at *;exact z1a _ _ _ h1 h2
theorem z73:∀{a b:World},a.heap=b.heap->a.tape=b.tape->a.drawn=b.drawn->a.os=b.os->a.output=b.output->a=b
 |⟨_,_,_,_,_⟩,⟨_,_,_,_,_⟩,rfl,rfl,rfl,rfl,rfl=>rfl
theorem JS{α:Type}[Inhabited α](enc:α->Value)(w:World)(b m:Nat)(d:Array α)(os:Array Obj):w.heap.size<=(sortWorld enc w b 0 m d os).heap.size:=by
 show _<=((w.heap.modify _ _)++os).size;rw[Fx,CM];omega
theorem Jm{α:Type}[Inhabited α](enc:α->Value)(w:World)(b m:Nat)(d:Array α)(os:Array Obj){k:Nat}(hk:k<w.heap.size)(hb:b≠k):(sortWorld enc w b 0 m d os).heap[k]? = w.heap[k]? := by
 show ((w.heap.modify _ _)++os)[k]? = _;rw[BH (by rw[CM];exact hk),Dw,Ab hb]
theorem z1b(S:MS){H:A5}(hS:SRel S H){blk:Nat}(hni:¬(S.im blk\/S.keep blk))(size:Nat):CmpLays1 Tryz.prog 105 #[] (encW S) (cfW S) blk 0 size S.w:=by
 intro m os dk _ x y;obtain⟨W,hW⟩:∃W,W=sortWorld (encW S) S.w blk 0 m dk os:=⟨_,rfl⟩;rw[<-hW];have hsz:S.w.heap.size<=W.heap.size:=by rw[hW];exact JS ..
 have hkept:∀b,S.im b->W.heap[b]? = S.w.heap[b]? := λb hb=>by rw[hW];exact Jm _ _ _ _ _ _ (hS.im b (.inl hb)) λe=>hni (e ▸ .inl hb)
 have ev1:Evi S { S with w:=W }:=⟨hkept,λ_ h=>h,Ad _,λ_ _=>Ad _,λ_ _ _=>⟨rfl,rfl,rfl⟩⟩
 let S2:MS:=⟨W,S.im,λb=>b<W.heap.size,0,λ_=>0,λ_=>0,λ_=>0,λ_=>0,0⟩
 have down:∀p:WV S,VRel S2 (A6 p.val.1) p.val.2:=λp=>by
  have h:=VRel.moni ev1 _ p.property.1;rw[<-RN (A6 p.val.1)] at h;exact RJ (A:=S2) (B:={ S with w:=W }) (σ:=λg=>g) (m:=0) rfl (λb hb=>hb) (λg hg=>absurd hg (Ba _)) (A6 p.val.1) trivial h
 have hS2:SRel S2 A5.nil:=⟨rfl,λg hg=>absurd hg (Ba _),λg _ hg=>absurd hg (Ba _),λb hb=>hb.elim (λh=>AX (hS.im b (.inl h)) hsz) id⟩;refine ((Nb x.val.1 y.val.1 x.property.2 y.property.2).2 S2 [encW S x,encW S y] hS2 ⟨_,_,rfl,down x,_,_,rfl,down y,rfl⟩).mono λe w' hh=>?_;obtain⟨v,S',z,H',rfl,rfl,ev,_,hv,rfl,_⟩:=hh;have hv':v=.int .i64 (cmpL x.val.1 y.val.1):=hv;subst hv';have hsz2:W.heap.size<=S'.w.heap.size:=ev.size;refine⟨rfl,S'.w.drawn-W.drawn,S'.w.heap.extract W.heap.size S'.w.heap.size,z73 ?_ ev.tape.1 ?_ ev.os ev.output⟩
 ·show S'.w.heap=W.heap++_
  refine Array.ext_getElem? λi=>?_;rcases Ak i W.heap.size with hi|hi
  ·rw[BH hi]
   exact ev.kept i (.inr hi)
  ·rw[Array.getElem?_append_right hi,Array.getElem?_extract]
   rcases Ak i S'.w.heap.size with h2|h2
   ·rw[Ae (by omega)];congr 1;omega
   ·rw[Ab (by omega),C5 (by omega)]
 ·show S'.w.drawn=W.drawn+(S'.w.drawn-W.drawn)
  have:=ev.tape.2;have h2:W.drawn<=S'.w.drawn:=this;omega
theorem Rc{S:MS}:∀{l:List (List Int)}{vs:List Value},(∀w∈l,w.length<=1000000000)->AB S (l.map A6) vs->∃pl:List (WV S),pl.map (λp=>p.val.1)=l/\pl.map (encW S)=vs
 |[],vs,_,h=>⟨[],rfl,h.symm⟩
 |x::l,vs,hl,⟨v,r,hv,h1,h2⟩=>by
  obtain⟨pl,a,b⟩:=Rc (λw hw=>hl w (by simp[hw])) h2;exact⟨⟨(x,v),h1,hl x (by simp)⟩::pl,by show x::pl.map _=x::l;rw[a],by rw[hv,<-b];rfl⟩
theorem Vg{S:MS}(p:WV S):∃a n c,encW S p=.slice a n c:=by
 obtain⟨_,_,a,cap,vs,hv,_⟩:=p.property.1;exact⟨a,_,cap,hv⟩
theorem oneW(S:MS):OneCell (encW S):=λp=>by
 obtain⟨a,n,c,h⟩:=Vg p;rw[h];rfl
theorem YL{S:MS}(p:WV S):(encW S p).cells=#[encW S p]:=by
 obtain⟨a,n,c,h⟩:=Vg p;rw[h];rfl
theorem zdh{S:MS}{b:Nat}{cells:Array Value}{T:TypeId}{pl:List (WV S)}(hb:S.w.heap[b]? = some (.cells cells T (0,0)))(hf:Gw cells 1 (pl.map (encW S))):Holds (encW S) S.w b 0 pl.toArray:=by
 intro j hj;have hi:j<pl.length:=by simpa using hj
 have he:(pl.map (encW S))[j]? = some (encW S pl[j]):=by simp[hi]
 obtain⟨_,_,h3⟩:=hf _ _ he;have h4:=h3 0 Nat.one_pos;rw[ER,Nat.add_zero,YL] at h4;have hg:pl.toArray[j]! = pl[j]:=by simp[hi]
 refine⟨?_,?_⟩
 ·rw[hg]
  simp only[World.cell?,hb,Bb,Option.isSome_none,A8,Bt,h4,id];rfl
 ·simp[World.frozen?,hb]
theorem zjy{S:MS}{b n:Nat}{cells:Array Value}{T:TypeId}{d:Array (WV S)}{os:Array Obj}(hb:S.w.heap[b]? = some (.cells cells T (0,0)))(hsz:d.size<=cells.size):
 ∃cells',(sortWorld (encW S) S.w b 0 n d os).heap[b]? = some (.cells cells' T (0,0))/\cells'.size=cells.size/\Gw cells' 1 (d.toList.map (encW S)):=by
 have hlt:b<S.w.heap.size:=(Bl.1 hb).1;refine⟨putCells (encW S) 0 d cells,?_,by simp[putCells],λi v hv=>?_⟩
 ·show ((S.w.heap.modify b _)++os)[b]? = _
  rw[BH (by rw[CM];exact hlt),Dw,Ae rfl,hb];rfl
 ·rw[D1] at hv
  obtain⟨x,hx,rfl⟩:=Ag.1 hv;have hi:i<d.size:=by have:=(AI.1 hx).1;simpa using this
  refine⟨by rw[YL];rfl,λc hc=>?_,λj hj=>?_⟩
  ·rw[YL] at hc
   obtain rfl:c=encW S x:=by simpa using hc
   exact oneW S x
  ·obtain rfl:j=0:=by omega
   have hlt2:i<cells.size:=by omega
   have hd:d[i]! = x:=by
    rw[E9] at hx;rw[getElem!_pos d i hi];exact (Bl.1 hx).2
   rw[ER,Nat.add_zero,putCells,E8,DI hlt2];simp only[Option.map_some,Au,Ey,Bb,Nat.sub_zero];rw[Ae hi,hd,YL];rfl
def WH(l:List (List Int)):Prop:=l.Pairwise λa b=>ltW b a=false
theorem z74{S:MS}{d:Array (WV S)}(h:SortedIn (ltOf (cfW S)) 0 d.size d):WH (d.toList.map λp=>p.val.1):=by
 rw[WH,Fz,Cq];intro i j hi hj hij;have hi':i<d.size:=by simpa using hi
 have hj':j<d.size:=by simpa using hj
 have:=h i j (Au _) hij hj';rw[ltCW,getElem!_pos d j hj',getElem!_pos d i hi'] at this;simpa using this
theorem z75{S:MS}:∀(pl:List (WV S)),AB S (pl.map λp=>A6 p.val.1) (pl.map (encW S))
 |[]=>rfl
 |p::pl=>⟨_,_,rfl,p.property.1,z75 pl⟩
theorem zjz{H:A5}{g ver:Nat}{ex:Bool}{l:List (List Int)}(hg:g<H.n)(hG:H.at_ g=⟨1,ver,ex,l.map A6⟩)(h1:l≠[])(hl:l.length<4611686018427387904)(hw:∀w∈l,w.length<=1000000000):
 B3 Tryz.prog 104 [.ref g ver 0 l.length,.fn 105 []] H λy H'=>y=.tup []/\∃l':List (List Int),l'.Perm l/\WH l'/\H'=H.set g ⟨1,ver,ex,l'.map A6⟩:=by
 have eg:∀args w,(callFunc 105 args).run Tryz.prog w=.ok (.enter 105 args) w:=enters_of Tryz.func105 (by kernel_rfl) rfl;refine⟨enters_of Tryz.func104 (by kernel_rfl) rfl,λS cargs hS hx=>?_⟩;obtain⟨v1,r1,rfl,⟨_,hgn,_,hv1⟩,v2,r2,rfl,⟨lb,rfl,rfl⟩,rfl⟩:=hx;have hgr:=hS.grp g hg;rw[hG] at hgr;obtain⟨a,cap',rfl,hcase⟩:=hv1 hgr.ver;have hpos:0<l.length:=by cases l;exact absurd rfl h1;simp
 obtain⟨rfl,rfl,hcap⟩:=hcase.resolve_right (λh=>by omega);have hlen:l.length<=S.cap g:=by have:=hgr.len (show 0<1 by decide);simpa using this
 obtain⟨⟨cells,T,vs,b1,b2,b3,b4⟩,hni⟩:=hgr.live (show 0<1 by decide) (by omega);obtain⟨pl,e1,rfl⟩:=Rc hw b3;have b2':cells.size=S.cap g * 1:=b2;have hpl:pl.length=l.length:=by rw[<-e1,AY]
 have hblk:S.place g<S.w.heap.size:=(Bl.1 b1).1;have hcon:=Any.slices_SortFunc Tryz.sortWd (encW S) (oneW S) (cfW S) (swoW S) 105 #[] (S.place g) 0 (S.cap g-0) pl.toArray S.w eg (z1b S hS hni _) (zdh b1 b4) hblk (by simp;omega);change Calls Tryz.prog 104 _ _ _ at hcon;rw[BP,hpl] at hcon;rw[Fi];refine hcon.mono λe w' ⟨he,d',n,os,hp,hs,hw'⟩=>?_;subst he hw';obtain⟨q1,q2,q3⟩:=hp;have q1:d'.size=l.length:=by simpa [hpl] using q1
 have hperm:(d'.toList.map λp=>p.val.1).Perm l:=by
  rw[D5,D5] at q3;have q4:d'.toList.Perm pl:=by simpa [List.extract,q1,hpl,Az (show d'.toList.length<=l.length by simp[q1]),Az (show pl.length<=l.length by omega)] using q3
  rw[<-e1];exact q4.map _
 rw[<-q1] at hs;obtain⟨cells',c1,c2,c3⟩:=zjy (n:=n) (d:=d') (os:=os) b1 (by omega);have hoth:∀b,b≠S.place g->b<S.w.heap.size->(sortWorld (encW S) S.w (S.place g) 0 n d' os).heap[b]? = S.w.heap[b]? := λb hb hlt=>Jm _ _ _ _ _ _ hlt (De hb);have ev1:Evi S { S with w:=sortWorld (encW S) S.w (S.place g) 0 n d' os }:=⟨λb hb=>hoth b (λe=>hni (e ▸ .inl hb)) (hS.im b (.inl hb)),λ_ h=>h,Ad _,λ_ _=>Ad _,λ_ _ _=>⟨rfl,rfl,rfl⟩⟩;have hmm:(d'.toList.map λp=>p.val.1).map A6=d'.toList.map λp=>A6 p.val.1:=by rw[CH];rfl
 have hh:=hS.moved hg (by rw[hG];exact (show 0<1 by decide)) (sortWorld (encW S) S.w (S.place g) 0 n d' os) (S.place g) (S.cap g) ⟨1,ver,ex,(d'.toList.map λp=>p.val.1).map A6⟩ rfl ⟨rfl,CB _ _⟩ rfl
  (JS ..)
  (λb hb hlt=>hoth b (λe=>hb ⟨by omega,e⟩) hlt)
  (.inl ⟨by omega,rfl⟩) (λ_=>⟨cells',T,_,c1,by rw[c2];exact b2',by rw[hmm];exact z75 _,c3⟩) (by simp[q1];exact hlen)
  (λhx=>by have:=hgr.full (show 0<1 by decide) hx;simp at this;simp[q1];exact this) (show 0<1 by decide) (by rw[hgr.ver];exact Ad _) (λ_=>⟨rfl,rfl,by rw[hgr.wid]⟩)
 exact⟨_,_,.tup [],_,rfl,rfl,hh.1,hh.2,⟨[],rfl,rfl⟩,rfl,_,hperm,z74 hs,rfl⟩
theorem zdi(l:List (List Int)):B3 Tryz.prog 156 [.ref 0 1 0 0,.int .i64 0,.int .i64 0,.fn 105 []] (Abs.hl [⟨1,1,true,l.map A6⟩]) λy H'=>y=.tup []/\H'=Abs.hl [⟨1,1,true,l.map A6⟩]:=by
 refine GA (b:=1) Gi rfl ?_;unfold El;(with_reducible repeat'(first|simp(disch:=omega)only[push_cast,↓zz,seval]|refine sp_ ?_ ?_<;>try(intro hc;push_cast at hc)|omega|intro _))
 refine Br (Bs (λ(_:Unit)=>True) (λ_=>0) (λ_=>[(0,.ref 0 1 0 0),(1,.int .i64 0),(2,.int .i64 0),(3,.fn 105 []),(8,.int .i64 1)])
  (λ_=>[⟨1,1,true,l.map A6⟩]) (λ_ _=>[]) () trivial ?_ ?_)
 ·(with_reducible repeat'(first|simp(disch:=omega)only[push_cast,↓zz,seval]|refine sp_ ?_ ?_<;>try(intro hc;push_cast at hc)|omega|intro _))
 rintro _ _;refine W_T ?_;(with_reducible repeat'(first|simp(disch:=omega)only[push_cast,↓zz,seval]|refine sp_ ?_ ?_<;>try(intro hc;push_cast at hc)|omega|intro _))
theorem pdqW0(l:List (List Int)):B3 Tryz.prog 138 [.ref 0 1 0 0,.int .i64 0,.int .i64 0,.int .i64 0,.fn 105 []] (Abs.hl [⟨1,1,true,l.map A6⟩]) λy H'=>y=.tup []/\H'=Abs.hl [⟨1,1,true,l.map A6⟩]:=by
 refine GA (b:=1) GQ rfl ?_;unfold Fu;(with_reducible repeat'(first|simp(disch:=omega)only[push_cast,↓zz,seval]|refine sp_ ?_ ?_<;>try(intro hc;push_cast at hc)|omega|intro _))
 refine Br (Bs (λ(_:Unit)=>True) (λ_=>0) (λ_=>[(0,.ref 0 1 0 0),(1,.int .i64 0),(2,.int .i64 0),(3,.int .i64 0),(4,.fn 105 []),(10,.bool true),(11,.bool true)])
  (λ_=>[⟨1,1,true,l.map A6⟩]) (λ_ _=>[]) () trivial ?_ ?_)
 ·(with_reducible repeat'(first|simp(disch:=omega)only[push_cast,↓zz,seval]|refine sp_ ?_ ?_<;>try(intro hc;push_cast at hc)|omega|intro _))
 rintro _ _;refine W_T ?_;(with_reducible repeat'(first|simp(disch:=omega)only[push_cast,↓zz,seval]|refine sp_ ?_ ?_<;>try(intro hc;push_cast at hc)|omega|intro _));refine B3.mono (zdi l) ?_;rintro y H' ⟨rfl,rfl⟩;(with_reducible repeat'(first|simp(disch:=omega)only[push_cast,↓zz,seval]|refine sp_ ?_ ?_<;>try(intro hc;push_cast at hc)|omega|intro _))
theorem zo9(l:List (List Int)):B3 Tryz.prog 104 [.ref 0 1 0 0,.fn 105 []] (Abs.hl [⟨1,1,true,l.map A6⟩]) λy H'=>y=.tup []/\H'=Abs.hl [⟨1,1,true,l.map A6⟩]:=by
 refine GA (b:=1) GL rfl ?_;unfold Fj;(with_reducible repeat'(first|simp(disch:=omega)only[push_cast,↓zz,seval]|refine sp_ ?_ ?_<;>try(intro hc;push_cast at hc)|refine ee zb4 ?_|(refine cc zb4 ?_;simp(disch:=omega)only[push_cast,↓zz,seval];fail_if_success change False)|omega|intro _));refine B3.mono (pdqW0 l) ?_;rintro y H' ⟨rfl,rfl⟩;(with_reducible repeat'(first|simp(disch:=omega)only[push_cast,↓zz,seval]|refine sp_ ?_ ?_<;>try(intro hc;push_cast at hc)|omega|intro _))
theorem WI(l:List Int)(hl:l.length<=1000000000000):PC Tryz.prog 103 [A6 l] (A6 l):=by
 have hp:=Bf l;cases l with
 |nil =>
  refine zmq ?_ ?_
  ·refine Cf ET ?_
   unfold DC;(with_reducible repeat'(first|simp(disch:=omega)only[push_cast,↓zz,seval]|refine sp_ ?_ ?_<;>try(intro hc;push_cast at hc)|omega|intro _))
  ·refine Cf ET ?_
   unfold DC;(with_reducible repeat'(first|simp(disch:=omega)only[push_cast,↓zz,seval]|refine sp_ ?_ ?_<;>try(intro hc;push_cast at hc)|omega|intro _))
 |cons a l =>
  have hne:((a::l).map (AV.int .i32)).isEmpty=false:=rfl;have hm0:¬(a::l)=[]:=by simp
  generalize (a::l)=m at *;refine Cf ET ?_;unfold DC;(with_reducible repeat'(first|simp(disch:=omega)only[push_cast,↓zz,seval,hne,hp,hm0]|refine sp_ ?_ ?_<;>try(intro hc;push_cast at hc)|omega|intro _))
theorem z78(l:List (List Int))(hl:l.length<=1000000000)(hw:∀w∈l,w.length<=1000000000):PC Tryz.prog 67 [F5 l] (F5 (I4 l)):=by
 have pW:=Ce l;refine Cf VK ?_;unfold Ot;(with_reducible repeat'(first|simp(disch:=omega)only[push_cast,↓zz,seval,pW]|refine sp_ ?_ ?_<;>try(intro hc;push_cast at hc)|omega|intro _))
 refine Br (Bs (λ(k:Nat)=>k<=l.length) (λk=>l.length-k)
  (λk=>[(3,.ref 0 1 0 l.length),(9,F5 l),(10,.int .i64 l.length),(11,.int .i64 k)]) (λk=>[⟨1,1,true,(l.take k).map A6++List.replicate (l.length-k) .nilS⟩]) (λenv _=>[C7 1 (env 3)]) 0 (by simp) ?_ ?_)
 ·(with_reducible repeat'(first|simp(disch:=omega)only[push_cast,↓zz,seval,pW,Jl,List.take_zero,AZ,List.nil_append,Nat.sub_zero]|refine sp_ ?_ ?_<;>try(intro hc;push_cast at hc)|omega|intro _))
 intro k hk;rcases Ak k l.length with hkl|hkl
 ·have hC:=WI (nth l k) (by have:=hw _ (AS hkl);omega)
  have lT:((l.take k).map A6++List.replicate (l.length-k) AV.nilS).length=l.length:=by simp;omega
  have sT:((l.take k).map A6++List.replicate (l.length-k) AV.nilS).set k (A6 (nth l k))=(l.take (k+1)).map A6++List.replicate (l.length-(k+1)) AV.nilS:=by
   have e1:List.replicate (l.length-k) AV.nilS=AV.nilS::List.replicate (l.length-(k+1)) AV.nilS:=by rw[<-List.replicate_succ];congr 1;omega
   have e2:((l.take k).map A6).length=k:=by simp;omega
   rw[e1,Dz _ _ (by omega),e2,Nat.sub_self,List.set_cons_zero,take_at hkl,Aw,A3];rfl
  have pK:=Bf (nth l k);have pT:∀k,Bh ((l.take k).map A6++List.replicate (l.length-k) AV.nilS)=true:=λk=>by rw[KE,Ce (l.take k),Jl];rfl
  generalize hwk:nth l k=w at *;generalize hLk:(l.take k).map A6++List.replicate (l.length-k) AV.nilS=T0 at *;have hp0:=pT k;have hp1:=pT (k+1);rw[hLk] at hp0;generalize hLk1:(l.take (k+1)).map A6++List.replicate (l.length-(k+1)) AV.nilS=T1 at *;refine W_T ?_;(with_reducible repeat'(first|simp(disch:=omega)only[push_cast,↓zz,seval,pW,hwk,lT,sT,pK,hp0]|refine sp_ ?_ ?_<;>try(intro hc;push_cast at hc)|refine ee hC ?_|(refine cc hC ?_;simp(disch:=omega)only[push_cast,↓zz,seval,pW,hwk,lT,sT,pK,hp0];fail_if_success change False)|omega|intro _))
  all_goals
   refine⟨k+1,?_⟩;(with_reducible repeat'(first|simp(disch:=omega)only[push_cast,↓zz,seval,pW,hLk1,hp1]|refine sp_ ?_ ?_<;>try(intro hc;push_cast at hc)|omega|intro _))
 ·obtain rfl:k=l.length:=by omega
  have e1:(l.take l.length).map A6++List.replicate (l.length-l.length) AV.nilS=l.map A6:=by simp
  rw[e1];refine W_T ?_;(with_reducible repeat'(first|simp(disch:=omega)only[push_cast,↓zz,seval,pW]|refine sp_ ?_ ?_<;>try(intro hc;push_cast at hc)|omega|intro _));by_cases h0:l=[]
  ·subst h0
   refine B3.mono (zo9 []) ?_;rintro y H' ⟨rfl,rfl⟩;have hC:=Lv true [] (by simp) (λw hw'=>by cases hw');(with_reducible repeat'(first|simp(disch:=omega)only[push_cast,↓zz,seval]|refine sp_ ?_ ?_<;>try(intro hc;push_cast at hc)|omega|intro _));refine B3.mono hC ?_;rintro y H' ⟨rfl,z,pz,rfl⟩;have e0:Cu [] 0=[]:=rfl;have e1:I4 []=[]:=rfl;(with_reducible repeat'(first|simp(disch:=omega)only[push_cast,↓zz,seval,pz,e0,e1,List.length_nil,AZ,List.nil_append,List.take_zero]|refine sp_ ?_ ?_<;>try(intro hc;push_cast at hc)|omega|intro _))
  have hS:=zjz (H:=Abs.hl [⟨1,1,true,l.map A6⟩]) (g:=0) (ver:=1) (ex:=true) (l:=l) (by show 0<1;omega) rfl h0 (by omega) hw;refine B3.mono hS ?_;rintro y H' ⟨rfl,l',hp,hs,rfl⟩;have hl':l'.length=l.length:=hp.length_eq;have hC:=Lv true l' (by omega) λw hw'=>hw w (hp.mem_iff.1 hw');have hsw:=z0z hs hp;rw[hl'] at hC hsw;rw[hsw];(with_reducible repeat'(first|simp(disch:=omega)only[push_cast,↓zz,seval]|refine sp_ ?_ ?_<;>try(intro hc;push_cast at hc)|omega|intro _));refine B3.mono hC ?_;rintro y H' ⟨rfl,z,pz,rfl⟩;generalize Cu l' l.length=M at *;have pM:=Ce M;have tM:∀z,List.take M.length (M.map A6++z)=M.map A6:=λz=>Ec (by simp);(with_reducible repeat'(first|simp(disch:=omega)only[push_cast,↓zz,seval,pz,pM,tM]|refine sp_ ?_ ?_<;>try(intro hc;push_cast at hc)|omega|intro _))
theorem z1c(n:Nat)(h0:0<n)(hn:n<=1000000000):B3 Tryz.prog 102 [.nilS,.int .i64 n] (Abs.hl []) λy H'=>y=.ref 0 1 0 0/\H'=Abs.hl [⟨1,1,false,List.replicate n (AV.int .i32 0)⟩]:=by
 refine GA (b:=0) Gq rfl ?_;unfold Ff;have e0:((n:Int)-0).toNat=n:=by omega
 (with_reducible repeat'(first|simp(disch:=omega)only[push_cast,↓zz,seval,e0]|refine sp_ ?_ ?_<;>try(intro hc;push_cast at hc)|omega|intro _))
theorem WJ:PC Tryz.prog 102 [.nilS,.int .i64 0] .nilS:=by
 refine Cf Gq ?_;unfold Ff;(with_reducible repeat'(first|simp(disch:=omega)only[push_cast,↓zz,seval]|refine sp_ ?_ ?_<;>try(intro hc;push_cast at hc)|omega|intro _))
theorem Ih(l:List Int):Bh (l.map (AV.int .i32))=true:=D9 .i32 _
def GK(ws:List (List Int))(k:Nat):List AV:=(ws.take k).flatten.map (AV.int .i32)++List.replicate (ws.flatten.length-(ws.take k).flatten.length) (AV.int .i32 0)
theorem Re{α:Type}(ws:List (List α)){k:Nat}(h:k<ws.length):(ws.take (k+1)).flatten=(ws.take k).flatten++ws[k]:=by
 rw[List.take_succ_eq_append_getElem h,List.flatten_append];simp only[List.flatten_cons,List.flatten_nil,A4]
theorem SJ{α:Type}(ws:List (List α))(k:Nat):(ws.take k).flatten.length<=ws.flatten.length:=by
 have:ws.flatten=(ws.take k).flatten++(ws.drop k).flatten:=by rw[<-List.flatten_append,Ck]
 rw[this];simp
theorem Vh(ws:List (List Int))(hk:ws.length<=1000000000)(h0:0<ws.flatten.length)(hl:ws.flatten.length<=1000000000):PC Tryz.prog 66 [.lst 1 (ws.map A6)] (A6 ws.flatten):=by
 have pW:Bh (ws.map A6)=true:=BZ.2 λx hx=>by
  obtain⟨l,_,rfl⟩:=Ax.1 hx;exact Ih l
 have aW:∀k,k<ws.length->(ws.map A6).getD k .any=A6 (nth ws k):=λk hk=>by simp[nth,List.getD,hk]
 have hG:=z1c ws.flatten.length h0 hl;refine Cf FP ?_;unfold EC;(with_reducible repeat'(first|simp(disch:=omega)only[push_cast,↓zz,seval,pW]|refine sp_ ?_ ?_<;>try(intro hc;push_cast at hc)|omega|intro _))
 refine Br (Bs (λ(k:Nat)=>k<=ws.length) (λk=>ws.length-k)
  (λk=>[(0,.lst 1 (ws.map A6)),(3,.int .i64 (ws.take k).flatten.length),(9,.lst 1 (ws.map A6)),(10,.int .i64 ws.length),(11,.int .i64 k)]) (λ_=>[]) (λ_ _=>[]) 0 (by simp) ?_ ?_)
 ·(with_reducible repeat'(first|simp(disch:=omega)only[push_cast,↓zz,seval,pW,List.flatten_nil,List.length_nil]|refine sp_ ?_ ?_<;>try(intro hc;push_cast at hc)|omega|intro _))
 intro k hkw;rcases Ak k ws.length with hkl|hkl
 ·have hn:nth ws k=ws[k]:=by simp[nth,hkl]
  have hf:=Re ws hkl;rw[<-hn] at hf;have h1:=SJ ws (k+1);have h2:(ws.take (k+1)).flatten.length=(ws.take k).flatten.length+(nth ws k).length:=by rw[hf];simp
  have aK:=aW k hkl;generalize (ws.take k).flatten.length=m at *;refine W_T ?_;(with_reducible repeat'(first|simp(disch:=omega)only[push_cast,↓zz,seval,pW,aK]|refine sp_ ?_ ?_<;>try(intro hc;push_cast at hc)|omega|intro _))
  all_goals
   refine⟨k+1,?_⟩;(with_reducible repeat'(first|simp(disch:=omega)only[push_cast,↓zz,seval,pW,h2]|refine sp_ ?_ ?_<;>try(intro hc;push_cast at hc)|omega|intro _))
 ·obtain rfl:k=ws.length:=by omega
  rw[Az (Ad _)];have hzz:(ws.flatten.length:Int)≠0:=by omega
  refine W_T ?_;(with_reducible repeat'(first|simp(disch:=omega)only[push_cast,↓zz,seval,pW]|refine sp_ ?_ ?_<;>try(intro hc;push_cast at hc)|omega|intro _))
  (refine at_c [] (hG) (by decide) (by simp) (by refine⟨?_,?_,?_,?_⟩<;>(simp(disch:=omega)only[push_cast,↓zz,seval,Af,Ai,Ap,Av,AH,Ar])) ?_)
  rintro y H' ⟨rfl,rfl⟩;refine⟨_,rfl,by simp,?_⟩;(with_reducible repeat'(first|simp(disch:=omega)only[push_cast,↓zz,seval,pW]|refine sp_ ?_ ?_<;>try(intro hc;push_cast at hc)|omega|intro _))
  refine Br (Bs (λ(k:Nat)=>k<=ws.length) (λk=>ws.length-k)
   (λk=>[(6,.ref 0 1 0 (ws.take k).flatten.length),(25,.lst 1 (ws.map A6)),(26,.int .i64 ws.length),(27,.int .i64 k)]) (λk=>[⟨1,1,false,GK ws k⟩]) (λenv _=>[C7 1 (env 6)]) 0 (by simp) ?_ ?_)
  ·have r0:GK ws 0=List.replicate ws.flatten.length (AV.int .i32 0):=by simp[GK]
   have pZ:∀n,Bh (List.replicate n (AV.int .i32 0))=true:=λn=>BZ.2 λx hx=>by rw[CV hx];rfl
   (with_reducible repeat'(first|simp(disch:=omega)only[push_cast,↓zz,seval,pW,pZ,r0,List.flatten_nil,List.length_nil]|refine sp_ ?_ ?_<;>try(intro hc;push_cast at hc)|omega|intro _))
  intro k hkw
  have pL:∀k,Bh (GK ws k)=true:=λk=>by
   rw[GK,KE,Ih,AO];exact BZ.2 λx hx=>by rw[CV hx];rfl
  have h1:=SJ ws k;have lR:(GK ws k).length=ws.flatten.length:=by simp only[GK,Aj,AY,List.length_replicate];omega
  rcases Ak k ws.length with hkl|hkl
  ·have hn:nth ws k=ws[k]:=by simp[nth,hkl]
   have hf:=Re ws hkl;rw[<-hn] at hf;have h1':=SJ ws (k+1);have h2:(ws.take (k+1)).flatten.length=(ws.take k).flatten.length+(nth ws k).length:=by rw[hf];simp
   have aK:=aW k hkl;have pw:=Ih (nth ws k)
   have hR:(GK ws k).take (ws.take k).flatten.length++(nth ws k).map (AV.int .i32)++(GK ws k).drop ((ws.take k).flatten.length+(nth ws k).length)=GK ws (k+1):=by
    have e1:(GK ws k).take (ws.take k).flatten.length=(ws.take k).flatten.map (AV.int .i32):=by
     rw[GK];exact Ec (by rw[AY])
    have e2:(GK ws k).drop ((ws.take k).flatten.length+(nth ws k).length)=List.replicate (ws.flatten.length-(ws.take (k+1)).flatten.length) (AV.int .i32 0):=by
     rw[<-List.drop_drop,GK,List.drop_left' (by rw[AY]),List.drop_replicate,h2];congr 1;omega
    rw[e1,e2,GK,hf,Aw,A3]
   rw[A3] at hR
   have hQ:(GK ws k).length<=(ws.take k).flatten.length->GK ws k++(nth ws k).map (AV.int .i32)=GK ws (k+1):=λh=>by
    have h0:nth ws k=[]:=Ay (by omega);rw[GK,GK,hf,h0,A4,AZ,A4]
   have pT:Bh ((GK ws k).take (ws.take k).flatten.length)=true:=BZ.2 λx hx=>BZ.1 (pL k) x (B8 hx);have pD:Bh ((GK ws k).drop ((ws.take k).flatten.length+(nth ws k).length))=true:=BZ.2 λx hx=>BZ.1 (pL k) x (BF hx);have hpk:=pL k;have hpk1:=pL (k+1);generalize (ws.take k).flatten.length=m at *;generalize hRk:GK ws k=R at *;generalize hRk1:GK ws (k+1)=R1 at *;refine W_T ?_;(with_reducible repeat'(first|simp(disch:=omega)only[push_cast,↓zz,seval,pW,aK,pw,hpk]|refine sp_ ?_ ?_<;>try(intro hc;push_cast at hc)|omega|intro _))
   all_goals
    refine⟨k+1,?_⟩;(with_reducible repeat'(first|simp(disch:=omega)only[push_cast,↓zz,seval,pW,h2,hRk1,hpk1,pw,hpk,pT,pD,hR,hQ]|refine sp_ ?_ ?_<;>try(intro hc;push_cast at hc)|omega|intro _))
  ·obtain rfl:k=ws.length:=by omega
   have rE:GK ws ws.length=ws.flatten.map (AV.int .i32):=by simp[GK]
   rw[rE,A7] at *;refine W_T ?_;(with_reducible repeat'(first|simp(disch:=omega)only[push_cast,↓zz,seval,pW,Ih]|refine sp_ ?_ ?_<;>try(intro hc;push_cast at hc)|omega|intro _))
theorem SK(ws:List (List Int))(hk:ws.length<=1000000000)(h0:ws.flatten.length=0):PC Tryz.prog 66 [.lst 1 (ws.map A6)] (A6 ws.flatten):=by
 have pW:Bh (ws.map A6)=true:=BZ.2 λx hx=>by
  obtain⟨l,_,rfl⟩:=Ax.1 hx;exact Ih l
 have hE:ws.flatten=[]:=Ay h0
 have aW:∀k,k<ws.length->(ws.map A6).getD k .any=.lst 1 []:=λk hk=>by
  have:ws[k]=[]:=by
   have:=List.flatten_eq_nil_iff.1 hE _ (BY hk);exact this
  simp[List.getD,hk,this,A6]
 have hG:=WJ;rw[hE];refine Cf FP ?_;unfold EC;(with_reducible repeat'(first|simp(disch:=omega)only[push_cast,↓zz,seval,pW]|refine sp_ ?_ ?_<;>try(intro hc;push_cast at hc)|omega|intro _))
 refine Br (Bs (λ(k:Nat)=>k<=ws.length) (λk=>ws.length-k)
  (λk=>[(0,.lst 1 (ws.map A6)),(3,.int .i64 0),(9,.lst 1 (ws.map A6)),(10,.int .i64 ws.length),(11,.int .i64 k)]) (λ_=>[]) (λ_ _=>[]) 0 (by simp) ?_ ?_)
 ·(with_reducible repeat'(first|simp(disch:=omega)only[push_cast,↓zz,seval,pW]|refine sp_ ?_ ?_<;>try(intro hc;push_cast at hc)|omega|intro _))
 intro k hkw;rcases Ak k ws.length with hkl|hkl
 ·have aK:=aW k hkl
  refine W_T ?_;(with_reducible repeat'(first|simp(disch:=omega)only[push_cast,↓zz,seval,pW,aK]|refine sp_ ?_ ?_<;>try(intro hc;push_cast at hc)|omega|intro _))
  all_goals
   refine⟨k+1,?_⟩;(with_reducible repeat'(first|simp(disch:=omega)only[push_cast,↓zz,seval,pW]|refine sp_ ?_ ?_<;>try(intro hc;push_cast at hc)|omega|intro _))
 ·obtain rfl:k=ws.length:=by omega
  refine W_T ?_;(with_reducible repeat'(first|simp(disch:=omega)only[push_cast,↓zz,seval,pW]|refine sp_ ?_ ?_<;>try(intro hc;push_cast at hc)|refine ee hG ?_|(refine cc hG ?_;simp(disch:=omega)only[push_cast,↓zz,seval,pW];fail_if_success change False)|omega|intro _))
  refine Br (Bs (λ(k:Nat)=>k<=ws.length) (λk=>ws.length-k)
   (λk=>[(6,.ref 0 1 0 0),(25,.lst 1 (ws.map A6)),(26,.int .i64 ws.length),(27,.int .i64 k)]) (λk=>[⟨1,1,false,[]⟩]) (λenv _=>[C7 1 (env 6)]) 0 (by simp) ?_ ?_)
  ·(with_reducible repeat'(first|simp(disch:=omega)only[push_cast,↓zz,seval,pW]|refine sp_ ?_ ?_<;>try(intro hc;push_cast at hc)|omega|intro _))
  intro k hkw;rcases Ak k ws.length with hkl|hkl
  ·have aK:=aW k hkl
   refine W_T ?_;(with_reducible repeat'(first|simp(disch:=omega)only[push_cast,↓zz,seval,pW,aK]|refine sp_ ?_ ?_<;>try(intro hc;push_cast at hc)|omega|intro _))
   all_goals
    refine⟨k+1,?_⟩;(with_reducible repeat'(first|simp(disch:=omega)only[push_cast,↓zz,seval,pW]|refine sp_ ?_ ?_<;>try(intro hc;push_cast at hc)|omega|intro _))
  ·obtain rfl:k=ws.length:=by omega
   refine W_T ?_;(with_reducible repeat'(first|simp(disch:=omega)only[push_cast,↓zz,seval,pW]|refine sp_ ?_ ?_<;>try(intro hc;push_cast at hc)|omega|intro _))
theorem SL(a b:List Int)(hl:a.length+b.length<=1000000000):PC Tryz.prog 66 [.lst 1 [A6 a,A6 b]] (A6 (a++b)):=by
 have e:[a,b].flatten=a++b:=by simp
 have el:[a,b].flatten.length=a.length+b.length:=by rw[e,Aj]
 rw[<-e];rcases Nat.eq_zero_or_pos [a,b].flatten.length with h|h
 ·exact SK [a,b] (by simp) h
 ·exact Vh [a,b] (by simp) h (by omega)
structure WK(d:Desc)(x:List Int)(n:Nat):Prop where
 st:d.states=n
 n1:n<=1024
 start:0<=d.start/\d.start<n
 rl:d.rules.length<=4096
 fl:d.finals.length<=4096
 xl:x.length<=1024
 x32:∀v∈x,-2147483648<=v/\v<=2147483647
 goes:Goes d n
 ff:∀f∈d.finals,0<=f.from_/\f.from_<n
 rb:∀r∈d.rules,(r.guards.length<=1000000/\∀g∈r.guards,g.length<=1000000)/\(r.out.length<=64/\∀t∈r.out,t.parts.length<=1000000)/\0<=r.eat/\r.eat<=1000000
 fb:∀f∈d.finals,(f.guards.length<=1000000/\∀g∈f.guards,g.length<=1000000)/\(f.out.length<=64/\∀t∈f.out,t.parts.length<=1000000)
 cyc:¬cycP d.rules n
def setT(n m:Nat)(S:Nat->Nat->List (List Int)):List AV:=(List.range m).map λp=>F5 (S (p / n) (p % n))
section
variable {n m a t:Nat}{S:Nat->Nat->List (List Int)}
theorem YM:(setT n m S).length=m:=by simp[setT]
theorem Px:Bh (setT n m S)=true:=BZ.2 λx hx=>by
 obtain⟨i,_,rfl⟩:=Ax.1 hx;exact Ce _
theorem z79{z:AV}(ht:t<n)(hp:a * n+t<m):(setT n m S).getD (a * n+t) z=F5 (S a t):=by
 rw[setT,CU hp,Lt ht,Lu ht]
theorem zdj{v:List (List Int)}(ht:t<n)(hp:a * n+t<m):(setT n m S).set (a * n+t) (F5 v)=setT n m (setP S a t v):=by
 rw[setT,E5 hp,setT];refine AT λp _=>?_;simp only[setP];by_cases e:p=a * n+t
 ·subst e;rw[Ae rfl,Lt ht,Lu ht,Ae ⟨rfl,rfl⟩]
 ·rw[Ab e,Ab λh=>e (YF ht h)]
theorem z7a{l:List Grp}:leSL l (List.replicate m .nilS) (setT n m λ_ _=>[]):=by
 have key:∀(f:Nat->Nat)(q:List Nat),leSL l (List.replicate q.length .nilS) (q.map λ_=>F5 []):=λ_ q=>by
  induction q with
  |nil=>exact rfl
  |cons a q ih=>exact⟨⟨Nat.one_pos,rfl⟩,ih⟩
 have:=key id (List.range m)
 rwa [CP] at this
end
def outH(d:Desc)(R:AV)(mo n m:Nat)(S:Nat->Nat->List (List Int))(many:Bool):List Grp:=[⟨6,1,true,[DV d]⟩,⟨1,1,true,[.int .i64 mo]⟩,⟨1,1,true,[R]⟩,⟨1,1,true,setT n m S⟩,⟨1,1,true,[.ref 3 1 0 m]⟩,⟨1,1,true,[.bool many]⟩]
theorem Py{d:Desc}{R:AV}(hR:R.pure=true){mo n m:Nat}{S:Nat->Nat->List (List Int)}{many:Bool}:∀G∈outH d R mo n m S many,ltL 6 G.xs:=λG hG=>by
 simp only[outH,Af,Ai,Ap] at hG;rcases hG with rfl|rfl|rfl|rfl|rfl|rfl
 ·exact CK _ _ (by simp[Bh,Ic])
 ·exact⟨trivial,trivial⟩
 ·exact CK _ _ (by simp[Bh,hR])
 ·exact CK _ _ Px
 ·exact⟨(show 3<6 by omega),trivial⟩
 ·exact⟨trivial,trivial⟩
theorem YN{d:Desc}{x:List Int}{S:Nat->Nat->List (List Int)}{at_ s B:Nat}(hB:∀r∈d.rules,r.from_=(s:Nat)->goB x r.guards at_=true->(S (at_+r.eat.toNat) r.to_.toNat).length<=B):∀k,k<=(ruI d.rules s).length->(rulW d x S at_ s k).length<=k * B
 |0,_=>by simp[rulW]
 |k+1,hk=>by
  have ih:=YN hB k (by omega);obtain⟨i1,i2⟩:=HE.1 (AS (show k<(ruI d.rules s).length by omega));have e:(k+1) * B=k * B+B:=Nat.succ_mul k B;cases hg:goB x (nth d.rules (nth (ruI d.rules s) k)).guards at_ with
  |true =>
   rw[YJ (by omega) rfl hg,Aj,AY];have:=hB _ (AS i1) i2 hg;omega
  |false =>
   rw[z71 (by omega) rfl hg];omega
def putW(d:Desc)(x:List Int)(S:Nat->Nat->List (List Int))(at_ s k:Nat):List (List Int):=finW d x at_ s (fiI d.finals s).length++rulW d x S at_ s k
def putQ(A:List (List Int))(h:List Int)(W:List (List Int))(q:Nat):List (List Int):=A++(W.take q).map (h++·)
theorem z7b{A:List (List Int)}{h:List Int}{W:List (List Int)}:putQ A h W 0=A:=by simp[putQ]
theorem z7c{A:List (List Int)}{h:List Int}{W:List (List Int)}{q:Nat}(hq:q<W.length):putQ A h W (q+1)=putQ A h W q++[h++nth W q]:=by
 rw[putQ,putQ,take_at hq,Aw,A3];rfl
theorem zdk{A:List (List Int)}{h:List Int}{W:List (List Int)}{q:Nat}:(putQ A h W q).length<=A.length+W.length:=by
 simp[putQ];omega
theorem zdl{d:Desc}{x:List Int}{n:Nat}{ord:List Nat}{L:Nat->Nat->Bool}{mo a j:Nat}{S:Nat->Nat->List (List Int)}(hI:OutI d x L ord mo a j S false)(hl:LivE d x n L)(hg:Goes d n)(ht:Topo d.rules n ord)(hj:j<n)(ha:a<=x.length)(hlv:L a (nth ord j)=true)
 {r:Rule} (hr:r∈d.rules) (hf:r.from_=(nth ord j:Nat)) (hgo:goB x r.guards a=true):S (a+r.eat.toNat) r.to_.toNat=outW d x (a+r.eat.toNat) (r.to_.toNat:Nat)/\(S (a+r.eat.toNat) r.to_.toNat).length<=mo/\L (a+r.eat.toNat) r.to_.toNat=true/\a+r.eat.toNat<=x.length/\r.to_.toNat<n:=by
 obtain⟨_,htt,e1,e2⟩:=hg.r r hr;have hle:=JR hgo;have hlt:=hl.clos _ _ hlv r hr hf hgo;have h1:=hI.no rfl (a+r.eat.toNat) r.to_.toNat (by omega) hlt (WB hg ht hj hr hf);exact⟨h1.1,h1.2,hlt,by omega,by omega⟩
theorem z7d(d:Desc)(x:List Int){n:Nat}(hk:WK d x n){ord:List Nat}{L:Nat->Nat->Bool}(ht:Topo d.rules n ord)(hl:LivE d x n L)(mo:Nat)(hmo:mo<=9223372036854775807)(hB:Nat.min mo (outW d x 0 d.start).length<=200000)
 (a j:Nat) (S:Nat->Nat->List (List Int)) (many:Bool) (ha:a<=x.length) (hj:j<n) (hI:OutI d x L ord mo a j S many) (hlv:L a (nth ord j)=true) :
 B3 Tryz.prog 62 [.int .i64 a,.int .i64 (nth ord j:Nat),.ptr 5 1 0 0,.ptr 2 1 0 0,.ptr 0 1 0 0,.ptr 4 1 0 0,.ptr 1 1 0 0]
  (Abs.hl (outH d (Eh d x (ruV d.rules n) (fiV d.finals n) (.lst 1 (ord.map e1)) (.lst 1 (lvB n ((x.length+1) * n) L))) mo n ((x.length+1) * n) S many)) λy H'=>y=.tup []/\∃(s':(Nat->Nat->List (List Int)) × Bool),
   H'=Abs.hl (outH d (Eh d x (ruV d.rules n) (fiV d.finals n) (.lst 1 (ord.map e1)) (.lst 1 (lvB n ((x.length+1) * n) L))) mo n ((x.length+1) * n) s'.1 s'.2)/\OutI d x L ord mo a (j+1) s'.1 s'.2:=by
 have pR:=BO d.rules;have pFi:=Ch d.finals;have pX:=Bf x;have pO:Bh (ord.map e1)=true:=E6 (λ_=>rfl) _;have pL:Bh (lvB n ((x.length+1) * n) L)=true:=N5;have pRU:Bh (fD 1 e1 n (ruI d.rules))=true:=Gf λ_=>rfl;have pFI:Bh (fD 1 e1 n (fiI d.finals))=true:=Gf λ_=>rfl;have lRU:(fD 1 e1 n (ruI d.rules)).length=n:=Y9;have lFI:(fD 1 e1 n (fiI d.finals)).length=n:=Y9;have hdn:=hk.st;have hn:=hk.n1;have hx:=hk.xl;have hol:=EM ht;have htn:nth ord j<n:=(ht.all _).1 (AS (by omega));have hgoes:=hk.goes;have hmx:(x.length+1) * n<=1025 * 1024:=Ca (by omega) hn;have hpm:=GW htn ha;unfold ruV fiV;refine DG (GD Oq (W_T ?_));unfold IX;cases many with
 |true =>
  generalize fD 1 e1 n (ruI d.rules)=RU at *;generalize fD 1 e1 n (fiI d.finals)=FI at *;unfold outH;(with_reducible repeat'(first|simp(disch:=omega)only[push_cast,↓zz,seval]|refine sp_ ?_ ?_<;>try(intro hc;push_cast at hc)|omega|intro _))
  all_goals exact⟨_,_,Ent.refl,rfl,(S,true),rfl,z6p hI _ _⟩
 |false =>
  have hto:=λr hr hf hgo=>zdl hI hl hgoes ht hj ha hlv (r:=r) hr hf hgo
  have hSB:∀r∈d.rules,r.from_=(nth ord j:Nat)->goB x r.guards a=true->(S (a+r.eat.toNat) r.to_.toNat).length<=200000:=λr hr hf hgo=>by
   obtain⟨h1,h2,h3,h4,h5⟩:=hto r hr hf hgo;have h6:=zd8 hl hgoes ht hk.start h3;rw[<-h1] at h6;exact AJ (Nat.le_min.2 ⟨h2,h6⟩) hB
  have hwl:∀r∈d.rules,r.from_=(nth ord j:Nat)->goB x r.guards a=true->∀w∈S (a+r.eat.toNat) r.to_.toNat,w.length<=100000000:=λr hr hf hgo w hw=>by
   obtain⟨h1,h2,h3,h4,h5⟩:=hto r hr hf hgo;rw[h1] at hw;exact SG hgoes ht ⟨λr hr=>(hk.rb r hr).2.1.1,λf hf=>(hk.fb f hf).2.1⟩ hn hx h4 h5 (((Na hgoes ht h4 h5).2 w).1 hw)
  have hMeq:=zjv hI hl hgoes ht hj ha hlv;rw[<-z72] at hMeq;have hnext:=z6r hI hl hgoes ht hj ha hlv (M:=I4 (allW d x S a (nth ord j))) hMeq;have hRL:=YN (d:=d) (x:=x) (S:=S) (at_:=a) (s:=nth ord j) hSB;have aR:(fD 1 e1 n (ruI d.rules)).getD (nth ord j) .any=.lst 1 ((ruI d.rules (nth ord j)).map e1):=zct htn;have aR2:(fD 1 e1 n (ruI d.rules))[nth ord j]? = some (.lst 1 ((ruI d.rules (nth ord j)).map e1)):=YA htn;have aF:(fD 1 e1 n (fiI d.finals)).getD (nth ord j) .any=.lst 1 ((fiI d.finals (nth ord j)).map e1):=zct htn;have aF2:(fD 1 e1 n (fiI d.finals))[nth ord j]? = some (.lst 1 ((fiI d.finals (nth ord j)).map e1)):=YA htn;have pRI:Bh ((ruI d.rules (nth ord j)).map e1)=true:=E6 (λ_=>rfl) _;have pFJ:Bh ((fiI d.finals (nth ord j)).map e1)=true:=E6 (λ_=>rfl) _;have hrI:=W5 d.rules (nth ord j);have hfI:=zjw d.finals (nth ord j);have hrl:=hk.rl;have hfl:=hk.fl;have pST:Bh (setT n ((x.length+1) * n) S)=true:=Px;have lST:(setT n ((x.length+1) * n) S).length=(x.length+1) * n:=YM;have aST:∀b t,b<=x.length->t<n->(setT n ((x.length+1) * n) S).getD (b * n+t) .any=F5 (S b t):=λb t hb htn=>z79 htn (GW htn hb);have sST:=λv=>zdj (v:=v) (S:=S) htn hpm;have pl:∀b t,b<=x.length->t<n->b * n+t<(x.length+1) * n:=λb t hb htn=>GW htn hb;generalize hRUe:fD 1 e1 n (ruI d.rules)=RU at *;generalize hFIe:fD 1 e1 n (fiI d.finals)=FI at *;generalize hme:(x.length+1) * n=m at *;generalize hLVe:lvB n m L=LV at *;generalize hODe:ord.map e1=OD at *;have hEnds:=λ(f:H8) (hf:f∈d.finals)=>zcm d x (.lst 1 RU) (.lst 1 FI) (.lst 1 OD) (.lst 1 LV) f a pRU pFI pO pL (by omega) hk.x32 (hk.fb f hf).1.2 (hk.fb f hf).1.1 (by omega);have hWf:=λ(f:H8) (hf:f∈d.finals) (hgo:goB x f.guards a=true)=>QQ d x (.lst 1 RU) (.lst 1 FI) (.lst 1 OD) (.lst 1 LV) f.out a f.guards.length pRU pFI pO pL (by omega) hk.x32 (by have:=(hk.fb f hf).2.1;omega) (hk.fb f hf).2.2 (by have:=JR hgo;omega);have hFits:=λ(r:Rule) (hr:r∈d.rules)=>SA d x (.lst 1 RU) (.lst 1 FI) (.lst 1 OD) (.lst 1 LV) r.guards a pRU pFI pO pL (by omega) hk.x32 (hk.rb r hr).1.2 (hk.rb r hr).1.1 (by omega);have hWr:=λ(r:Rule) (hr:r∈d.rules) (hgo:goB x r.guards a=true)=>QQ d x (.lst 1 RU) (.lst 1 FI) (.lst 1 OD) (.lst 1 LV) r.out a r.guards.length pRU pFI pO pL (by omega) hk.x32 (by have:=(hk.rb r hr).2.1.1;omega) (hk.rb r hr).2.1.2 (by have:=JR hgo;omega);have pRn:(Eh d x (.lst 1 RU) (.lst 1 FI) (.lst 1 OD) (.lst 1 LV)).pure=true:=by simp[AV.pure,Bh,pR,pFi,pX,pO,pL,pRU,pFI]
  have hcl:=λS many=>Py (d:=d) (R:=Eh d x (.lst 1 RU) (.lst 1 FI) (.lst 1 OD) (.lst 1 LV)) pRn (mo:=mo) (n:=n) (m:=m) (S:=S) (many:=many);generalize nth ord j=s at *;obtain⟨F,hF⟩:∃F,F=finW d x a s (fiI d.finals s).length:=⟨_,rfl⟩;have hFlen:F.length<=4096:=by rw[hF];have:=YK (d:=d) (x:=x) (at_:=a) (s:=s) (k:=(fiI d.finals s).length);omega
  unfold outH;generalize hSTe:setT n m S=ST at *;(with_reducible repeat'(first|simp(disch:=omega)only[push_cast,↓zz,seval,pR,pFi,pX,pO,pL,pRU,pFI,aF,aF2,lFI,pST,lST]|refine sp_ ?_ ?_<;>try(intro hc;push_cast at hc)|omega|intro _))
  refine Br (Bs (λ(k:Nat)=>k<=(fiI d.finals s).length) (λk=>(fiI d.finals s).length-k)
   (λk=>[(0,.int .i64 a),(1,.int .i64 s),(2,.ptr 5 1 0 0),(3,.ptr 2 1 0 0),(4,.ptr 0 1 0 0),(5,.ptr 4 1 0 0),(6,.ptr 1 1 0 0),(9,.ref 6 1 0 (finW d x a s k).length),(26,.lst 1 ((fiI d.finals s).map e1)),(27,.int .i64 (fiI d.finals s).length),(28,.int .i64 k)])
   (λk=>[⟨6,1,true,[DV d]⟩,⟨1,1,true,[.int .i64 mo]⟩,⟨1,1,true,[Eh d x (.lst 1 RU) (.lst 1 FI) (.lst 1 OD) (.lst 1 LV)]⟩,⟨1,1,true,ST⟩,⟨1,1,true,[.ref 3 1 0 m]⟩,⟨1,1,true,[.bool false]⟩,⟨1,1,false,(finW d x a s k).map A6⟩]) (λenv _=>[C7 1 (env 9)]) 0 (Au _) ?_ ?_)
  ·(with_reducible repeat'(first|simp(disch:=omega)only[push_cast,↓zz,seval,pR,pFi,pX,pO,pL,pRU,pFI,pST,pFJ,z6y,List.length_nil,AZ]|refine sp_ ?_ ?_<;>try(intro hc;push_cast at hc)|omega|intro _))
  intro k hkk;rcases Ak k (fiI d.finals s).length with hkl|hkl
  ·obtain⟨i,hi⟩:∃i,i=nth (fiI d.finals s) k:=⟨_,rfl⟩
   have him:i∈fiI d.finals s:=by rw[hi];exact AS hkl
   obtain⟨i1,i2⟩:=WG.1 him;have aI:((fiI d.finals s).map e1).getD k .any=.int .i64 i:=by rw[hi];simp[nth,List.getD,hkl]
   have hE:=hEnds _ (AS i1);have hW:=hWf _ (AS i1);have hyes:=λf hf h=>zdd (d:=d) (x:=x) (at_:=a) (s:=s) hkl (f:=f) hf h;have hno:=λf hf h=>zjx (d:=d) (x:=x) (at_:=a) (s:=s) hkl (f:=f) hf h;rw[<-hi] at hyes hno;have hyes:=hyes _ rfl;have hno:=hno _ rfl;have hlen:=YK (d:=d) (x:=x) (at_:=a) (s:=s) (k:=k);generalize hfe:nth d.finals i=f at *;have hgr:=BQ f.guards;have hot:=Ct f.out;generalize finW d x a s k=A at *;have pA:=Ce A;cases hb:(decide (f.guards.length+a=x.length)&&goB x f.guards a) with
   |true =>
    rw[hb] at hE;have hyes:=hyes hb;have hgo:goB x f.guards a=true:=by simp only[Ac] at hb;exact hb.2
    have hW:=hW hgo;have pw:=Bf (FM x f.out f.guards a);rw[show FS f.out ((x.drop a).take f.guards.length)=FM x f.out f.guards a from rfl] at hW;generalize FM x f.out f.guards a=w at *;refine W_T ?_;(with_reducible repeat'(first|simp(disch:=omega)only[push_cast,↓zz,seval,pR,pFi,pX,pO,pL,pRU,pFI,pST,pFJ,aI,hfe,hgr,hot,pA,pw]|refine sp_ ?_ ?_<;>try(intro hc;push_cast at hc)|refine ee hE ?_|refine ee hW ?_|((first|refine cc hE ?_|refine cc hW ?_);simp(disch:=omega)only[push_cast,↓zz,seval,pR,pFi,pX,pO,pL,pRU,pFI,pST,pFJ,aI,hfe,hgr,hot,pA,pw];fail_if_success change False)|omega|intro _))
    all_goals
     refine⟨k+1,?_⟩;(with_reducible repeat'(first|simp(disch:=omega)only[push_cast,↓zz,seval,pR,pFi,pX,pO,pL,pRU,pFI,pST,pFJ,hyes,pA,pw]|refine sp_ ?_ ?_<;>try(intro hc;push_cast at hc)|omega|intro _))
   |false =>
    rw[hb] at hE;have hno:=hno hb;refine W_T ?_;(with_reducible repeat'(first|simp(disch:=omega)only[push_cast,↓zz,seval,pR,pFi,pX,pO,pL,pRU,pFI,pST,pFJ,aI,hfe,hgr,hot,pA]|refine sp_ ?_ ?_<;>try(intro hc;push_cast at hc)|refine ee hE ?_|(refine cc hE ?_;simp(disch:=omega)only[push_cast,↓zz,seval,pR,pFi,pX,pO,pL,pRU,pFI,pST,pFJ,aI,hfe,hgr,hot,pA];fail_if_success change False)|omega|intro _))
    all_goals
     refine⟨k+1,?_⟩;(with_reducible repeat'(first|simp(disch:=omega)only[push_cast,↓zz,seval,pR,pFi,pX,pO,pL,pRU,pFI,pST,pFJ,hno,pA]|refine sp_ ?_ ?_<;>try(intro hc;push_cast at hc)|omega|intro _))
  obtain rfl:k=(fiI d.finals s).length:=by omega
  rw[<-hF];have pF:=Ce F;have hP0:putW d x S a s 0=F:=by rw[putW,z6z,A4,hF]
  refine W_T ?_;(with_reducible repeat'(first|simp(disch:=omega)only[push_cast,↓zz,seval,pR,pFi,pX,pO,pL,pRU,pFI,pST,pFJ,aR,aR2,lRU,pF]|refine sp_ ?_ ?_<;>try(intro hc;push_cast at hc)|omega|intro _))
  refine Br (Bs (λ(k:Nat)=>k<=(ruI d.rules s).length) (λk=>(ruI d.rules s).length-k)
   (λk=>[(0,.int .i64 a),(1,.int .i64 s),(2,.ptr 5 1 0 0),(3,.ptr 2 1 0 0),(4,.ptr 0 1 0 0),(5,.ptr 4 1 0 0),(6,.ptr 1 1 0 0),(9,.ref 6 1 0 (putW d x S a s k).length),(59,.lst 1 ((ruI d.rules s).map e1)),(60,.int .i64 (ruI d.rules s).length),(61,.int .i64 k)])
   (λk=>[⟨6,1,true,[DV d]⟩,⟨1,1,true,[.int .i64 mo]⟩,⟨1,1,true,[Eh d x (.lst 1 RU) (.lst 1 FI) (.lst 1 OD) (.lst 1 LV)]⟩,⟨1,1,true,ST⟩,⟨1,1,true,[.ref 3 1 0 m]⟩,⟨1,1,true,[.bool false]⟩,⟨1,1,false,(putW d x S a s k).map A6⟩]) (λenv _=>[C7 1 (env 9)]) 0 (Au _) ?_ ?_)
  ·(with_reducible repeat'(first|simp(disch:=omega)only[push_cast,↓zz,seval,pR,pFi,pX,pO,pL,pRU,pFI,pST,pRI,pF,hP0]|refine sp_ ?_ ?_<;>try(intro hc;push_cast at hc)|omega|intro _))
  intro k hkk;have hRk:=hRL k hkk
  have hlk:(putW d x S a s k).length<=900000000:=by
   rw[putW,Aj,<-hF];have:k * 200000<=4096 * 200000:=AU _ (by omega);omega
  rcases Ak k (ruI d.rules s).length with hkl|hkl
  ·obtain⟨i,hi⟩:∃i,i=nth (ruI d.rules s) k:=⟨_,rfl⟩
   have him:i∈ruI d.rules s:=by rw[hi];exact AS hkl
   obtain⟨i1,i2⟩:=HE.1 him;have aI:((ruI d.rules s).map e1).getD k .any=.int .i64 i:=by rw[hi];simp[nth,List.getD,hkl]
   have hr:=AS i1;have hE:=hFits _ hr;have hW:=hWr _ hr;have hyes:=λr hf h=>YJ (d:=d) (x:=x) (S:=S) (at_:=a) (s:=s) hkl (r:=r) hf h;have hno:=λr hf h=>z71 (d:=d) (x:=x) (S:=S) (at_:=a) (s:=s) hkl (r:=r) hf h;rw[<-hi] at hyes hno;have hyes:=hyes _ rfl;have hno:=hno _ rfl;have hto:=hto _ hr i2;have hSB:=hSB _ hr i2;have hwl:=hwl _ hr i2;obtain⟨_,htt,e1',e2'⟩:=hgoes.r _ hr;have heb:=(hk.rb _ hr).2.2;have hol:=(hk.rb _ hr).2.1.1;generalize hre:nth d.rules i=r at *;have hgr:=BQ r.guards;have hot:=Ct r.out;obtain⟨e,he⟩:∃e:Nat,r.eat=e:=⟨r.eat.toNat,by omega⟩;obtain⟨t,htq⟩:∃t:Nat,r.to_=t:=⟨r.to_.toNat,by omega⟩;have het:r.eat.toNat=e:=by omega
   have htt2:r.to_.toNat=t:=by omega
   rw[het,htt2] at hyes hto hSB hwl;generalize hAe:putW d x S a s k=A at *;have pA:=Ce A;cases hb:goB x r.guards a with
   |false =>
    rw[hb] at hE;have hno:putW d x S a s (k+1)=A:=by rw[putW,hno hb];exact hAe
    refine W_T ?_;(with_reducible repeat'(first|simp(disch:=omega)only[push_cast,↓zz,seval,pR,pFi,pX,pO,pL,pRU,pFI,pST,pRI,aI,hre,hgr,hot,pA]|refine sp_ ?_ ?_<;>try(intro hc;push_cast at hc)|refine ee hE ?_|(refine cc hE ?_;simp(disch:=omega)only[push_cast,↓zz,seval,pR,pFi,pX,pO,pL,pRU,pFI,pST,pRI,aI,hre,hgr,hot,pA];fail_if_success change False)|omega|intro _))
    all_goals
     refine⟨k+1,?_⟩;(with_reducible repeat'(first|simp(disch:=omega)only[push_cast,↓zz,seval,pR,pFi,pX,pO,pL,pRU,pFI,pST,pRI,hno,pA]|refine sp_ ?_ ?_<;>try(intro hc;push_cast at hc)|omega|intro _))
   |true =>
    rw[hb] at hE;have hyes:=hyes hb;have hW:=hW hb;obtain⟨h1,h2,h3,h4,h5⟩:=hto hb;have hSB:=hSB hb;have hwl:=hwl hb;have hle:=JR hb;have pw:=Bf (FM x r.out r.guards a);have hhl:(FM x r.out r.guards a).length<=64:=by simp[FM,FS];omega
    rw[show FS r.out ((x.drop a).take r.guards.length)=FM x r.out r.guards a from rfl] at hW;have hAn:putW d x S a s (k+1)=putQ A (FM x r.out r.guards a) (S (a+e) t) (S (a+e) t).length:=by rw[putW,hyes,<-A3,putQ,A7,<-hAe];rfl
    have aT:=aST (a+e) t h4 h5;have hpl:=pl (a+e) t h4 h5;have hae:(a:Int)+(e:Int)=((a+e:Nat):Int):=by norm_cast
    have hmul:((a+e:Nat):Int) * (n:Int)=(((a+e) * n:Nat):Int):=by norm_cast
    have hmulb:(a+e) * n<=1024 * 1024:=Ca (by omega) hn;generalize FM x r.out r.guards a=h at *;generalize S (a+e) t=Wd at *;generalize hpe:(a+e) * n+t=p at *;generalize (a+e) * n=an at *;have hpi:(an:Int)+(t:Int)=(p:Int):=by omega
    generalize hbe:a+e=b at *;have pWd:=Ce Wd;refine W_T ?_;(with_reducible repeat'(first|simp(disch:=omega)only[push_cast,↓zz,seval,pR,pFi,pX,pO,pL,pRU,pFI,pST,lST,pRI,aI,hre,hgr,hot,pA,pw,he,htq,hae,hdn,hmul,hpi,aT,pWd]|refine sp_ ?_ ?_<;>try(intro hc;push_cast at hc)|refine ee hE ?_|refine ee hW ?_|((first|refine cc hE ?_|refine cc hW ?_);simp(disch:=omega)only[push_cast,↓zz,seval,pR,pFi,pX,pO,pL,pRU,pFI,pST,lST,pRI,aI,hre,hgr,hot,pA,pw,he,htq,hae,hdn,hmul,hpi,aT,pWd];fail_if_success change False)|omega|intro _))
    refine Br (Bs (λ(q:Nat)=>q<=Wd.length) (λq=>Wd.length-q)
     (λq=>[(0,.int .i64 a),(1,.int .i64 s),(2,.ptr 5 1 0 0),(3,.ptr 2 1 0 0),(4,.ptr 0 1 0 0),(5,.ptr 4 1 0 0),(6,.ptr 1 1 0 0),(9,.ref 6 1 0 (putQ A h Wd q).length),(16,A6 h),(59,.lst 1 ((ruI d.rules s).map e1)),(60,.int .i64 (ruI d.rules s).length),(61,.int .i64 k),(96,F5 Wd),(97,.int .i64 Wd.length),(98,.int .i64 q)])
     (λq=>[⟨6,1,true,[DV d]⟩,⟨1,1,true,[.int .i64 mo]⟩,⟨1,1,true,[Eh d x (.lst 1 RU) (.lst 1 FI) (.lst 1 OD) (.lst 1 LV)]⟩,⟨1,1,true,ST⟩,⟨1,1,true,[.ref 3 1 0 m]⟩,⟨1,1,true,[.bool false]⟩,⟨1,1,false,(putQ A h Wd q).map A6⟩]) (λenv _=>[C7 1 (env 9)]) 0 (Au _) ?_ ?_)
    ·(with_reducible repeat'(first|simp(disch:=omega)only[push_cast,↓zz,seval,pR,pFi,pX,pO,pL,pRU,pFI,pST,pRI,pA,pw,pWd,z7b]|refine sp_ ?_ ?_<;>try(intro hc;push_cast at hc)|omega|intro _))
    intro q hq;have hAq:(putQ A h Wd q).length<=901000000:=by have:=zdk (A:=A) (h:=h) (W:=Wd) (q:=q);omega
    rcases Ak q Wd.length with hql|hql
    ·have hC:=SL h (nth Wd q) (by have:=hwl _ (AS hql);omega)
     have hnx:=z7c (A:=A) (h:=h) hql;have pv:=Bf (h++nth Wd q);have pv2:=Bf (nth Wd q);generalize hwe:nth Wd q=w at *;generalize hAqe:putQ A h Wd q=A2 at *;have pA2:=Ce A2;generalize hve:h++w=v at *;refine W_T ?_;(with_reducible repeat'(first|simp(disch:=omega)only[push_cast,↓zz,seval,pR,pFi,pX,pO,pL,pRU,pFI,pST,pRI,pA2,pw,pWd,hwe,pv,pv2]|refine sp_ ?_ ?_<;>try(intro hc;push_cast at hc)|refine ee hC ?_|(refine cc hC ?_;simp(disch:=omega)only[push_cast,↓zz,seval,pR,pFi,pX,pO,pL,pRU,pFI,pST,pRI,pA2,pw,pWd,hwe,pv,pv2];fail_if_success change False)|omega|intro _))
     all_goals
      refine⟨q+1,?_⟩;(with_reducible repeat'(first|simp(disch:=omega)only[push_cast,↓zz,seval,pR,pFi,pX,pO,pL,pRU,pFI,pST,pRI,pA2,pw,pWd,hnx,pv]|refine sp_ ?_ ?_<;>try(intro hc;push_cast at hc)|omega|intro _))
    ·obtain rfl:q=Wd.length:=by omega
     rw[<-hAn] at *;have pA3:=Ce (putW d x S a s (k+1));refine W_T ?_;(with_reducible repeat'(first|simp(disch:=omega)only[push_cast,↓zz,seval,pR,pFi,pX,pO,pL,pRU,pFI,pST,pRI,pA3,pw,pWd]|refine sp_ ?_ ?_<;>try(intro hc;push_cast at hc)|omega|intro _))
     all_goals
      refine⟨k+1,?_⟩;(with_reducible repeat'(first|simp(disch:=omega)only[push_cast,↓zz,seval,pR,pFi,pX,pO,pL,pRU,pFI,pST,pRI,pA3]|refine sp_ ?_ ?_<;>try(intro hc;push_cast at hc)|omega|intro _))
  ·obtain rfl:k=(ruI d.rules s).length:=by omega
   have hall:putW d x S a s (ruI d.rules s).length=allW d x S a s:=rfl;have hlk:(allW d x S a s).length<=900000000:=hlk;rw[hall]
   have hSo:=z78 (allW d x S a s) (by omega) (λw hw=>by
    have h1:w∈outW d x a (s:Nat):=by rw[<-hMeq,Hn];exact hw
    have h2:w.length<=100000000:=SG hgoes ht ⟨λr hr=>(hk.rb r hr).2.1.1,λf hf=>(hk.fb f hf).2.1⟩ hn hx ha htn (((Na hgoes ht ha htn).2 w).1 h1)
    exact AJ h2 (by decide))
   have hML:=Pp (allW d x S a s);have pA:=Ce (allW d x S a s);generalize allW d x S a s=A at *;generalize I4 A=M at *;have pM:=Ce M;have hmul:(a:Int) * (n:Int)=((a * n:Nat):Int):=by norm_cast
   have hmulb:a * n<=1024 * 1024:=Ca (by omega) hn;have sM:=sST M;generalize hpe:a * n+s=p at *;generalize a * n=an at *;have hpi:(an:Int)+(s:Int)=(p:Int):=by omega
   have hdec:decide ((mo:Int)<(M.length:Int))=decide (mo<M.length):=B1.2 (by omega);refine W_T ?_;(with_reducible repeat'(first|simp(disch:=omega)only[push_cast,↓zz,seval,pR,pFi,pX,pO,pL,pRU,pFI,pST,lST,pA,pM,hdn,hmul,hpi,sM]|refine sp_ ?_ ?_<;>try(intro hc;push_cast at hc)|refine ee hSo ?_|(refine cc hSo ?_;simp(disch:=omega)only[push_cast,↓zz,seval,pR,pFi,pX,pO,pL,pRU,pFI,pST,lST,pA,pM,hdn,hmul,hpi,sM];fail_if_success change False)|omega|intro _));rw[hdec];exact⟨_,_,GV (l0:=outH d (Eh d x (.lst 1 RU) (.lst 1 FI) (.lst 1 OD) (.lst 1 LV)) mo n m (setP S a s M) (decide (mo<M.length))) (gar:=[⟨0,2,false,[]⟩]) rfl (Ad _) (hcl _ _) trivial,rfl,(setP S a s M,decide (mo<M.length)),rfl,hnext⟩
theorem WL{P:Program}{f:Nat}{xs:List AV}{l l':List Grp}{K:AV->A5->Prop}(h:B3 P f xs (Abs.hl l') K)(hle:HJ l l l'):B3 P f xs (Abs.hl l) K:=⟨h.1,λS cargs hS hx=>h.2 S cargs (HL hS hle) hx⟩
noncomputable def outA (d:Desc) (x:List Int) (mo:Nat):AV:=if (outW d x 0 d.start).length<=mo then .tup [F5 (outW d x 0 d.start),.int .i64 0] else .tup [.nilS,.int .i64 5]
theorem zdm{d:Desc}{x:List Int}{n:Nat}(hk:WK d x n):B3 Tryz.prog 60 [DV d,A6 x] (Abs.hl []) λy H'=>H'=Abs.hl []/\∃ord L,y=Eh d x (ruV d.rules n) (fiV d.finals n) (.lst 1 (ord.map e1)) (.lst 1 (lvB n ((x.length+1) * n) L))/\Topo d.rules n ord/\LivE d x n L :=
 z6v d x hk.st hk.n1 hk.rl hk.fl hk.start hk.goes hk.cyc hk.ff hk.xl hk.x32 λr hr=>⟨(hk.rb r hr).1,(hk.rb r hr).2.2⟩
theorem WM(d:Desc)(x:List Int){n:Nat}(hk:WK d x n)(hq:PC Tryz.prog 59 [DV d,A6 x] (.int .i64 0))(mo:Nat)(h1:1<=mo)(hmo:mo<=9223372036854775807)(hB:Nat.min mo (outW d x 0 d.start).length<=200000):
 PC Tryz.prog 23 [DV d,A6 x,.int .i64 mo] (outA d x mo):=by
 have pR:=BO d.rules;have pFi:=Ch d.finals;have pX:=Bf x;have hBe:=zdm hk;have hdn:=hk.st;refine Cf Ir ?_;unfold GP;(with_reducible repeat'(first|simp(disch:=omega)only[push_cast,↓zz,seval,pR,pFi,pX]|refine sp_ ?_ ?_<;>try(intro hc;push_cast at hc)|refine ee hq ?_|(refine cc hq ?_;simp(disch:=omega)only[push_cast,↓zz,seval,pR,pFi,pX];fail_if_success change False)|omega|intro _))
 (refine at_c [] (hBe) (by decide) (by simp) (by refine⟨?_,?_,?_,?_⟩<;>(simp(disch:=omega)only[push_cast,↓zz,seval,Af,Ai,Ap,Av,AH,Ar])) ?_)
 rintro y H' ⟨rfl,ord,L,rfl,ht,hl⟩;refine⟨_,rfl,by simp,?_⟩;have hmx:(x.length+1) * n<=1025 * 1024:=Ca (by have:=hk.xl;omega) hk.n1;have pO:Bh (ord.map e1)=true:=E6 (λ_=>rfl) _;have pL:Bh (lvB n ((x.length+1) * n) L)=true:=N5;have lL:(lvB n ((x.length+1) * n) L).length=(x.length+1) * n:=Kz;have pRU:Bh (fD 1 e1 n (ruI d.rules))=true:=Gf λ_=>rfl;have pFI:Bh (fD 1 e1 n (fiI d.finals))=true:=Gf λ_=>rfl;have pRn:(Eh d x (ruV d.rules n) (fiV d.finals n) (.lst 1 (ord.map e1)) (.lst 1 (lvB n ((x.length+1) * n) L))).pure=true:=by simp[AV.pure,Bh,pR,pFi,pX,pO,pL,pRU,pFI,ruV,fiV]
 have hbk:=zdg (σ:=(Nat->Nat->List (List Int)) × Bool) d x (ruV d.rules n) (fiV d.finals n) pRU pFI hdn hk.n1 hk.xl ht (L:=L) 62 [.ptr 5 1 0 0,.ptr 2 1 0 0,.ptr 0 1 0 0,.ptr 4 1 0 0,.ptr 1 1 0 0] 6
  (λs=>outH d (Eh d x (ruV d.rules n) (fiV d.finals n) (.lst 1 (ord.map e1)) (.lst 1 (lvB n ((x.length+1) * n) L))) mo n ((x.length+1) * n) s.1 s.2) (λ_=>rfl) (λ_=>Py pRn) ⟨(show 5<6 by omega),(show 2<6 by omega),(show 0<6 by omega),(show 4<6 by omega),(show 1<6 by omega),trivial⟩
  (λa j s=>OutI d x L ord mo a j s.1 s.2) ((λ_ _=>[]),false) (z6o (EM ht)) (λa j s ha hj hI hlv=>z7d d x hk ht hl mo hmo hB a j s.1 s.2 ha hj hI hlv)
  (λa j s ha hj hI hlv=>z6q hI (by rw[EM ht];exact hj) hlv) (λa s ha hI=>zd6 hI hl ht)
 generalize hm:(x.length+1) * n=m at *;(with_reducible repeat'(first|simp(disch:=omega)only[push_cast,↓zz,seval,pR,pFi,pX,lL]|refine sp_ ?_ ?_<;>try(intro hc;push_cast at hc)|omega|intro _));refine WL (B3.mono hbk ?_) ?_
 rotate_left
 ·unfold outH
  refine⟨⟨rfl,rfl,id,By _ _⟩,⟨rfl,rfl,id,By _ _⟩,⟨rfl,rfl,id,By _ _⟩,⟨rfl,rfl,id,z7a (n:=n)⟩,⟨rfl,rfl,id,By _ _⟩,⟨rfl,rfl,id,By _ _⟩,trivial⟩
 rintro y H' ⟨rfl,⟨S,many⟩,rfl,hI⟩;simp only at hI ⊢;obtain⟨g1,g2⟩:=zd7 hI hl hk.goes ht hk.start;unfold outH;have hst:=hk.start;obtain⟨s0,hs0⟩:∃s0:Nat,d.start=s0:=⟨d.start.toNat,by omega⟩;have hsn:s0<n:=by omega
 have hsm:0 * n+s0<m:=by rw[<-hm];exact GW hsn (Au _)
 have aS:(setT n m S).getD s0 .any=F5 (S 0 s0):=by
  have:=z79 (S:=S) (z:=.any) hsn hsm
  rwa [Fi,Bb] at this
 have lS:(setT n m S).length=m:=YM;have pS:Bh (setT n m S)=true:=Px;have hsm2:s0<m:=by omega
 unfold outA;cases many with
 |true =>
  rw[Ab (by have:=of_decide_eq_true g1.symm;omega)];(with_reducible repeat'(first|simp(disch:=omega)only[push_cast,↓zz,seval]|refine sp_ ?_ ?_<;>try(intro hc;push_cast at hc)|omega|intro _))
 |false =>
  have g2:=g2 rfl;rw[Ae (by have:=of_decide_eq_false g1.symm;omega),<-g2,show d.start.toNat=s0 by omega];have pW:=Ce (S 0 s0);(with_reducible repeat'(first|simp(disch:=omega)only[push_cast,↓zz,seval,hs0,aS,lS,pS,pW]|refine sp_ ?_ ?_<;>try(intro hc;push_cast at hc)|omega|intro _))
def zoa(l:List Bool)(k:Nat):List Int:=((List.range k).filter λi=>nth l i).map λi:Nat=>(i:Int)
noncomputable def zob (d:Desc):List Int:=zoa (comeL d) d.states.toNat
noncomputable def goesI (d:Desc):List Int:=zoa (goL d) d.states.toNat
noncomputable def zdn (d:Desc) (i:Nat):Bool:=Yz (fwdE d) [d.start] i&&Yz (bwdE d) (endE d) i
def cntB(u:Nat->Bool)(k:Nat):Nat:=((List.range k).filter u).length
def numB(u:Nat->Bool)(i:Nat):Int:=if u i=true then (cntB u i:Int) else -1
def keepR(u:Nat->Bool)(l:List Rule):List Rule:=(l.filter λr=>u r.from_.toNat&&u r.to_.toNat).map λr=>⟨numB u r.from_.toNat,numB u r.to_.toNat,r.guards,r.eat,r.out⟩
def keepF(u:Nat->Bool)(l:List H8):List H8:=(l.filter λf=>u f.from_.toNat).map λf=>⟨numB u f.from_.toNat,f.guards,f.out⟩
noncomputable def trimV (d:Desc):Desc :=
 if Yz (bwdE d) (endE d) d.start.toNat=false then zo0 d.in_ d.out
 else ⟨d.in_,d.out,cntB (zdn d) d.states.toNat,numB (zdn d) d.start.toNat,keepR (zdn d) d.rules,keepF (zdn d) d.finals⟩
theorem Lw(u:Nat->Bool)(k:Nat):cntB u (k+1)=if u k=true then cntB u k+1 else cntB u k:=by
 simp only[cntB,FY,CF,Aj,Cg,List.filter_nil];split<;>simp_all
section
variable {d:Desc}
end
structure Trimmed(c:Desc):Prop where
 check:GI c=0
 again:trimV c=c
 all:((zob c).length=c.states.toNat/\(goesI c).length=c.states.toNat)\/(c.states=1/\c.rules=[]/\c.finals=[])
section
variable {α β:Type}[Inhabited α]
variable {W:Nat->List α}{g:Nat->α->List β}
end
structure WayOk(n:Nat)(w:Int × List Term):Prop where
 e:0<=w.1/\w.1<n
 l:w.2.length<=70000
 p:∀t∈w.2,t.parts.length<=4
abbrev pathV(p:List Nat):AV:=.lst 1 (p.map e1)
def resV:Option (List Nat)->AV
 |some x=>pathV x
 |none=>.nilS
theorem Vi{u v:Nat->Bool}:∀{n:Nat},(∀i,i<n->u i=v i)->cntB u n=cntB v n
 |0,_=>rfl
 |n+1,h=>by rw[Lw,Lw,h n (by omega),Vi λi hi=>h i (by omega)]
theorem YO{on:Nat->Bool}{s:Nat}(ho:on s=false):∀{n:Nat},s<n->cntB (setB on s) n=cntB on n+1
 |n+1,h=>by
  rw[Lw,Lw];by_cases hs:s=n
  ·subst hs
   rw[Ae (by simp[setB]),Ab (by simp[ho]),Vi (u:=setB on s) (v:=on) λi hi=>by simp[setB];omega]
  ·have:=YO ho (n:=n) (by omega)
   have e:setB on s n=on n:=by simp[setB];omega
   rw[e];split<;>omega
structure RInv(n:Nat)(F:List Int)(E:List (Int × Int))(on:Nat->Bool):Prop where
 sound:∀i:Nat,on i=true->Reach E F i
 base:∀s∈F,on s.toNat=true
theorem RInv.set{n:Nat}{F:List Int}{E:List (Int × Int)}{on:Nat->Bool}(h:RInv n F E on){x y:Nat}(hx:on x=true)(he:((x:Int),(y:Int))∈E):RInv n F E (setB on y) where
 sound i hi:=by
  unfold setB at hi;split at hi
  ·rename_i e;subst e;exact .step (h.sound x hx) he
  ·exact h.sound i hi
 base s hs:=by
  unfold setB;split
  ·rfl
  ·exact h.base s hs
structure RIn(n:Nat)(F:List Int)(E:List (Int × Int))(on0 on:Nat->Bool)(more:Bool)(i:Nat):Prop where
 inv:RInv n F E on
 no:more=false->on=on0/\∀j,j<i->on (nth E j).1.toNat=true->on (nth E j).2.toNat=true
 yes:more=true->cntB on0 n<cntB on n
theorem RIn.start{n:Nat}{F:List Int}{E:List (Int × Int)}{on:Nat->Bool}(h:RInv n F E on):RIn n F E on on false 0 :=
 ⟨h,λ_=>⟨rfl,λj hj=>absurd hj (Ba j)⟩,λh=>by cases h⟩
theorem RIn.skip{n i:Nat}{F:List Int}{E:List (Int × Int)}{on0 on:Nat->Bool}{more:Bool}(h:RIn n F E on0 on more i){x y:Nat}(he:nth E i=((x:Int),(y:Int)))(hs:on x=true->on y=true):RIn n F E on0 on more (i+1):=by
 refine⟨h.inv,λhm=>⟨(h.no hm).1,λj hj=>?_⟩,h.yes⟩;by_cases e:j=i
 ·subst e;rw[he];simpa using hs
 ·exact (h.no hm).2 j (by omega)
theorem RIn.take{n i:Nat}{F:List Int}{E:List (Int × Int)}{on0 on:Nat->Bool}{more:Bool}(h:RIn n F E on0 on more i){x y:Nat}(he:((x:Int),(y:Int))∈E)(hx:on x=true)(hy:on y=false)(hyn:y<n):RIn n F E on0 (setB on y) true (i+1):=by
 refine⟨h.inv.set hx he,λhm=>(by cases hm),λ_=>?_⟩;have h1:=YO hy hyn;cases more with
 |true=>have:=h.yes rfl;omega
 |false=>have:=(h.no rfl).1;subst this;omega
theorem RIn.done{n:Nat}{F:List Int}{E:List (Int × Int)}{on0 on:Nat->Bool}(h:RIn n F E on0 on false E.length):∀e∈E,on e.1.toNat=true->on e.2.toNat=true:=λe he=>by
 obtain⟨j,hj,rfl⟩:=Bv he;have:=(h.no rfl).2 j hj;have e:nth E j=E[j]:=by simp[nth,List.getD,hj]
 rwa [e] at this
theorem zoc{d:Desc}(h:GI d=0):¬cycP d.rules d.states.toNat:=λhc=>by
 obtain⟨h1,h2,h3⟩:=J9 h
 have h0:(Hz d).1=0:=by
  unfold GI at h;split at h
  ·assumption
  ·omega
 rw[Hz,Ab (by simp[h1]),Lq h2] at h0;simp only at h0;rw[Lq h3] at h0;simp only at h0;rw[Ae hc] at h0;simp at h0
theorem wf_n{d:Desc}(h:GI d=0):∃n:Nat,d.states=n/\1<=n/\n<=1024/\¬cycP d.rules n/\∀r∈d.rules,(0<=r.from_/\r.from_<n)/\0<=r.to_/\r.to_<n:=by
 have hw:=zji h;obtain⟨n,hn,h1,h2⟩:=hw.n;refine⟨n,hn,h1,h2,?_,λr hr=>by have:=hw.r r hr;rw[hn] at this;exact this⟩;have:=zoc h
 rwa [hn,Int.toNat_natCast] at this
def conT(x:Int):Term:=⟨0,0,21,0,x,[]⟩
theorem z7e{x:Int}(hx:0<=x/\x<=1114111){w:List Int}(hw:w.all symB=true):EH (conT x) w=some x:=by
 have ho:(conT x).outer=⟨0,0,21,0⟩:=rfl;obtain⟨_,h1,h2⟩:=Je (p:=⟨0,0,21,0⟩) (x:=x) (by decide) (by omega);have h3:valB ⟨0,0,21,0⟩ x=true:=h1;rw[EH,Ae hw];simp only[conT,sumP];show (if valB (conT x).outer x&&decide (x<=1114111) then some (IntKind.i64.wrap (0+valP (conT x).outer x)) else none)=some x;rw[ho,h1,h2,AE hx.2,FU,IntWalk.i64_in _ (by omega)];rfl
theorem zdo{gs:List (List Span)}:∀{w:List Int},Win (gs.map symI) w->w.all symB=true:=by
 induction gs with
 |nil=>intro w hw;rw[z67.1 hw];rfl
 |cons g gs ih =>
  intro w hw;obtain⟨x,r,rfl,h1,h2⟩:=win_cons.1 hw;have hm:=((Lk g).2 x).1 h1;rw[List.all_cons,ih h2,Do,symB];exact AE hm.1
theorem zdp{x:Int}{i o:Int}{gs:List (List Span)}(h4:gs.length<=4)(hr:Ib (conT x) i o gs.length=true)(hx:0<=x/\x<=1114111)(ho:Dh o x=true):Mk (conT x) i o gs=true:=by
 refine (Pk h4).2 ⟨hr,λw hw=>?_⟩;rw[fitW,z7e hx (zdo hw)];simp[hx,ho]
theorem SN{d:Desc}{x:List Int}:askV d x=0↔GI d=0/\x.length<=1024/\x.all (Dh d.in_)=true:=by
 unfold askV;by_cases h:GI d=0
 ·rw[Ab (by simp[h])]
  by_cases h2:1024<x.length
  ·rw[Ae h2];constructor
   ·intro h;cases h
   ·intro h;omega
  ·rw[Ab h2]
   cases h3:x.all (Dh d.in_) with
   |true=>simp[h];omega
   |false=>simp
 ·rw[Ae h];constructor
  ·intro h;cases h
  ·intro h';exact absurd h'.1 h
theorem zdq{s v:Int}(h:Dh s v=true):0<=v/\v<1114112:=by
 simp only[Dh,Ah] at h;omega
theorem zk0{d:Desc}(h:GI d=0){n:Nat}(hn:d.states=n):Goes d n:=by
 obtain⟨h1,h2,h3⟩:=J9 h;have hw:=zji h;refine⟨λr hr=>?_⟩;have h4:=h2 r hr;have h5:=hw.r r hr;rw[hn] at h5;simp only[Ln,eatB,Ac,AA,AQ] at h4;obtain⟨_,_,_,⟨h6,h7⟩,_⟩:=h4;refine⟨h5.1,h5.2,by omega,λhe=>?_⟩;simp only[Dk,AQ] at he;omega
theorem YP{d:Desc}{x:List Int}(h:askV d x=0):∃n,WK d x n:=by
 obtain⟨h1,h2,h3⟩:=SN.1 h;obtain⟨n,hn,hn1,hn2,hc,hl⟩:=wf_n h1;have hw:=zji h1;have hst:=hw.start;have hff:=hw.f;rw[hn] at hst hff;obtain⟨_,k2,k3⟩:=J9 h1;refine⟨n,hn,hn2,hst,hw.rl,hw.fl,h2,λv hv=>?_,zk0 h1 hn,hff,λr hr=>?_,λf hf=>?_,hc⟩
 ·have:=zdq (AP.1 h3 v hv);omega
 ·have h4:=k2 r hr
  simp only[Ln,eatB,Ac,AA,AQ] at h4;obtain⟨_,_,h5,⟨h6,h7⟩,h8⟩:=h4;obtain⟨g1,g2⟩:=Hx h5;obtain⟨w1,w2⟩:=MV h8;exact⟨⟨by omega,λg hg=>by have:=g2 g hg;omega⟩,⟨w1,λt ht=>by have:=w2 t ht;omega⟩,by omega,by omega⟩
 ·have h4:=k3 f hf
  simp only[Hy,Ac] at h4;obtain⟨_,h5,h8⟩:=h4;obtain⟨g1,g2⟩:=Hx h5;obtain⟨w1,w2⟩:=MV h8;exact⟨⟨by omega,λg hg=>by have:=g2 g hg;omega⟩,w1,λt ht=>by have:=w2 t ht;omega⟩
noncomputable def runA (d:Desc) (x:List Int) (mo:Int):AV:=if askV d x≠0 then .tup [.nilS,.int .i64 (askV d x)] else if mo<1 then .tup [.nilS,.int .i64 1] else outA d x mo.toNat
theorem Nc(d:Desc)(x:List Int)(hf:Ml d)(hl:x.length<=9223372036854775807)(h32:∀v∈x,-2147483648<=v/\v<=2147483647)(mo:Int)(hmo:mo<=9223372036854775807)(hB:askV d x=0->Nat.min mo.toNat (outW d x 0 d.start).length<=200000):
 PC Tryz.prog 23 [DV d,A6 x,.int .i64 mo] (runA d x mo):=by
 have hq:=z6a d x hf hl h32;have pR:=BO d.rules;have pFi:=Ch d.finals;have pX:=Bf x;unfold runA;by_cases h:askV d x=0
 ·rw[Ab (by simp[h])]
  rw[h] at hq;by_cases h1:mo<1
  ·rw[Ae h1]
   refine Cf Ir ?_;unfold GP;(with_reducible repeat'(first|simp(disch:=omega)only[push_cast,↓zz,seval,pR,pFi,pX]|refine sp_ ?_ ?_<;>try(intro hc;push_cast at hc)|refine ee hq ?_|(refine cc hq ?_;simp(disch:=omega)only[push_cast,↓zz,seval,pR,pFi,pX];fail_if_success change False)|omega|intro _))
  ·rw[Ab h1]
   obtain⟨n,hk⟩:=YP h;obtain⟨m,rfl⟩:∃m:Nat,mo=m:=⟨mo.toNat,by omega⟩;rw[Int.toNat_natCast] at hB ⊢;exact WM d x hk hq m (by omega) (by omega) (hB h)
 ·rw[Ae h]
  generalize askV d x=k at *;refine Cf Ir ?_;unfold GP;(with_reducible repeat'(first|simp(disch:=omega)only[push_cast,↓zz,seval,pR,pFi,pX,h]|refine sp_ ?_ ?_<;>try(intro hc;push_cast at hc)|refine ee hq ?_|(refine cc hq ?_;simp(disch:=omega)only[push_cast,↓zz,seval,pR,pFi,pX,h];fail_if_success change False)|omega|intro _))
theorem z7f{l:List Rule}{n:Nat}(hl:∀r∈l,(0<=r.from_/\r.from_<n)/\0<=r.to_/\r.to_<n)(hc:¬cycP l n){ord:List Nat}{s:Nat}(hs:s<n)(hso:s∉ord):∃t,t<n/\t∉ord/\∀r∈l,Dk r=true->r.from_=(t:Nat)->r.to_.toNat∈ord:=by
 refine AN λhno=>?_
 have hx:∀t,t<n->t∉ord->∃i,i<l.length/\Dk (nth l i)=true/\(nth l i).from_=(t:Nat)/\(nth l i).to_.toNat∉ord:=λt h1 h2=>by
  refine AN λh3=>hno ⟨t,h1,h2,λr hr he hf=>?_⟩;refine AN λh4=>h3 ?_;obtain⟨i,hi,rfl⟩:=Bv hr;exact⟨i,hi,by rw[Gp hi];exact he,by rw[Gp hi];exact hf,by rw[Gp hi];exact h4⟩
 have key:∀k:Nat,∃(q:List Nat) (t:Nat),okP l (s:Nat) q/\endP l (s:Nat) q=(t:Nat)/\t<n/\t∉ord/\k<=q.length:=λk=>by
  induction k with
  |zero=>exact⟨[],s,trivial,rfl,hs,hso,Ad _⟩
  |succ k ih =>
   obtain⟨q,t,q1,q2,q3,q4,q5⟩:=ih;obtain⟨i,i1,i2,i3,i4⟩:=hx t q3 q4;have hr:=hl _ (AS i1);refine⟨q++[i],(nth l i).to_.toNat,?_,?_,by omega,i4,by simp;omega⟩
   ·rw[SD,q2];exact⟨q1,SC.2 ⟨i1,i2,i3⟩,trivial⟩
   ·rw[N0,q2]
    show (nth l i).to_=_;omega
 obtain⟨q,t,q1,_,_,_,q5⟩:=key (n+2);have:=z6b hl hc (by omega) q1;omega
theorem zk1{l:List Rule}{n:Nat}(hl:∀r∈l,(0<=r.from_/\r.from_<n)/\0<=r.to_/\r.to_<n)(hc:¬cycP l n):∃ord,Topo l n ord:=by
 have hole:∀ord:List Nat,ord.Nodup->(∀a∈ord,a<n)->∀s,s<n->s∉ord->ord.length<n:=λord h1 h2 s hs hso=>by
  have:=I5 (l:=s::ord) (m:=List.range n) (BN.2 ⟨hso,h1⟩) λa ha=>by
   rcases Af.1 ha with rfl|ha
   ·exact Bq.2 hs
   ·exact Bq.2 (h2 a ha)
  simp at this;omega
 have key:∀k,k<=n->∃ord:List Nat,ord.length=k/\W7 l ord/\ord.Nodup/\∀a∈ord,a<n:=λk=>by
  induction k with
  |zero=>exact λ_=>⟨[],rfl,λi hi=>absurd hi (Ba _),Dc,λa h=>by cases h⟩
  |succ k ih =>
   intro hk;obtain⟨ord,o1,o2,o3,o4⟩:=ih (by omega)
   obtain⟨s,hs,hso⟩:∃s,s<n/\s∉ord:=by
    refine AN λhno=>?_
    have:=I5 (l:=List.range n) (m:=ord) DT λa ha=>by
     refine AN λh=>hno ⟨a,Bq.1 ha,h⟩
    simp at this;omega
   obtain⟨t,t1,t2,t3⟩:=z7f hl hc hs hso;refine⟨ord++[t],by simp[o1],UW o2 λr hr he hf=>⟨r.to_.toNat,?_,t3 r hr he hf⟩,?_,λa ha=>?_⟩
   ·have:=hl r hr;omega
   ·refine CQ.2 ⟨o3,BN.2 ⟨by simp,Dc⟩,λa ha b hb=>?_⟩
    rw[Am.1 hb];rintro rfl;exact t2 ha
   ·rcases Ao.1 ha with h|h
    ·exact o4 a h
    ·rw[Am.1 h];exact t1
 obtain⟨ord,o1,o2,o3,o4⟩:=key n (Ad _);refine⟨ord,o3,λs=>⟨o4 s,λhs=>?_⟩,o2⟩;refine AN λh=>?_;have:=hole ord o3 o4 s hs h;omega
theorem Rf{d:Desc}{x:List Int}{n:Nat}(hk:WK d x n):∃ord,Topo d.rules n ord:=zk1 (λr hr=>⟨(hk.goes.r r hr).1,(hk.goes.r r hr).2.1⟩) hk.cyc
theorem z7g{d:Desc}{x:List Int}{n:Nat}(hk:WK d x n){a:Nat}{s:Int}(ha:a<=x.length)(hs:0<=s/\s<n):JG d x a s (outW d x a s):=by
 obtain⟨ord,ht⟩:=Rf hk;have:=Na hk.goes ht ha (t:=s.toNat) (by omega)
 rwa [BE hs.1] at this
theorem z7h{d:Desc}{x:List Int}{n:Nat}(hk:WK d x n){w:List Int}(hw:w∈outW d x 0 d.start):w.length<=100000000:=by
 obtain⟨ord,ht⟩:=Rf hk;have h1:=((z7g hk (Au _) hk.start).2 w).1 hw;have h2:=hk.start;have e:((d.start.toNat:Nat):Int)=d.start:=BE h2.1;rw[<-e] at h1;exact SG hk.goes ht ⟨λr hr=>(hk.rb r hr).2.1.1,λf hf=>(hk.fb f hf).2.1⟩ hk.n1 hk.xl (Au _) (by omega) h1
theorem zdr{d:Desc}{x:List Int}{mo:Nat}(h:askV d x=0)(h1:1<=mo)(hle:(outW d x 0 d.start).length<=mo):runA d x mo=.tup [F5 (outW d x 0 d.start),.int .i64 0]:=by
 unfold runA outA;rw[Ab (by simp[h]),Ab (by omega),Int.toNat_natCast,Ae hle]
theorem WN(s:Int)(l:List Int)(hl:l.length<=1000000000000)(h32:∀x∈l,-2147483648<=x/\x<=2147483647):PC Tryz.prog 16 [.int .i64 s,A6 l] (.bool (l.all (Dh s))):=by
 have pI:=Bf l;refine Cf Ua ?_;unfold Mx;(with_reducible repeat'(first|simp(disch:=omega)only[push_cast,↓zz,seval,pI]|refine sp_ ?_ ?_<;>try(intro hc;push_cast at hc)|omega|intro _))
 refine Br (Bs (λ(k:Nat)=>k<=l.length/\l.all (Dh s)=(l.drop k).all (Dh s)) (λk=>l.length-k)
  (λk=>[(0,.int .i64 s),(1,A6 l),(5,.int .i64 k)]) (λ_=>[]) (λ_ _=>[]) 0 (by simp) ?_ ?_)
 ·(with_reducible repeat'(first|simp(disch:=omega)only[push_cast,↓zz,seval,pI]|refine sp_ ?_ ?_<;>try(intro hc;push_cast at hc)|omega|intro _))
 rintro k ⟨hk,hr⟩;rcases Ak k l.length with hkl|hkl
 ·have hI:=zci s (nth l k) (h32 _ (AS hkl))
  rw[drop_at hkl,List.all_cons] at hr;generalize Dh s (nth l k)=b at *;cases b with
  |true =>
   refine W_T ?_;(with_reducible repeat'(first|simp(disch:=omega)only[push_cast,↓zz,seval,pI]|refine sp_ ?_ ?_<;>try(intro hc;push_cast at hc)|refine ee hI ?_|(refine cc hI ?_;simp(disch:=omega)only[push_cast,↓zz,seval,pI];fail_if_success change False)|omega|intro _))
   all_goals
    refine⟨k+1,?_⟩;(with_reducible repeat'(first|simp(disch:=omega)only[push_cast,↓zz,seval]|refine sp_ ?_ ?_<;>try(intro hc;push_cast at hc)|omega|intro _));simpa using hr
  |false =>
   refine W_T ?_;(with_reducible repeat'(first|simp(disch:=omega)only[push_cast,↓zz,seval,pI]|refine sp_ ?_ ?_<;>try(intro hc;push_cast at hc)|refine ee hI ?_|(refine cc hI ?_;simp(disch:=omega)only[push_cast,↓zz,seval,pI];fail_if_success change False)|omega|intro _))
   all_goals (rw[hr];rfl)
 ·rw[An hkl] at hr
  refine W_T ?_;(with_reducible repeat'(first|simp(disch:=omega)only[push_cast,↓zz,seval,pI]|refine sp_ ?_ ?_<;>try(intro hc;push_cast at hc)|omega|intro _))
  all_goals (rw[hr];rfl)
theorem Rh(n:Rec)(hf:EI n):PC Tryz.prog 28 [recV n] (.bool (okR n 0)):=by
 have hR:=QU n hf 0 (by omega) (by omega);generalize okR n 0=q at *;generalize secR n 0=q2 at *;obtain⟨k,s,b,r,w,l⟩:=n;have ps:=BR s r w l;rw[Cv] at *;refine Cf Ud ?_;unfold M0;(with_reducible repeat'(first|simp(disch:=omega)only[push_cast,↓zz,seval,ps]|refine sp_ ?_ ?_<;>try(intro hc;push_cast at hc)|refine ee hR ?_|(refine cc hR ?_;simp(disch:=omega)only[push_cast,↓zz,seval,ps];fail_if_success change False)|omega|intro _))
theorem z7i(n:Rec)(hf:EI n):PC Tryz.prog 29 [recV n] (.bool (okR n 0&&Ho n)):=by
 have hR:=QU n hf 0 (by omega) (by omega);have hS:=zfd (n:=n) (d:=0);cases ho:okR n 0 with
 |false =>
  rw[ho] at hR;rw[Bp];generalize secR n 0=q2 at *;obtain⟨k,s,b,r,w,l⟩:=n;have ps:=BR s r w l;rw[Cv] at *;refine Cf Oi ?_;unfold Kn;(with_reducible repeat'(first|simp(disch:=omega)only[push_cast,↓zz,seval,ps]|refine sp_ ?_ ?_<;>try(intro hc;push_cast at hc)|refine ee hR ?_|(refine cc hR ?_;simp(disch:=omega)only[push_cast,↓zz,seval,ps];fail_if_success change False)|omega|intro _))
 |true =>
  rw[ho,hS ho] at hR;rw[AO];generalize Ho n=q2 at *;obtain⟨k,s,b,r,w,l⟩:=n;have ps:=BR s r w l;rw[Cv] at *;refine Cf Oi ?_;unfold Kn;(with_reducible repeat'(first|simp(disch:=omega)only[push_cast,↓zz,seval,ps]|refine sp_ ?_ ?_<;>try(intro hc;push_cast at hc)|refine ee hR ?_|(refine cc hR ?_;simp(disch:=omega)only[push_cast,↓zz,seval,ps];fail_if_success change False)|omega|intro _))
theorem zk2(g:List Span)(hl:g.length<=1000000):PC Tryz.prog 49 [Bg g] (.bool (EW 2 g)):=by
 have hN:=Mg g (by omega);have hS:=Mh g (B4 g) (by omega);have hD:=MW 2;have hM:=Mf g (domL 2) 2 (by omega) (by simp[domL]);rw[QD] at hM;have pg:=Cd g;have pn:=Cd (B4 g);have pd:=Cd (domL 2);have pm:=Cd (Em g (domL 2));have hz:decide (Em g (domL 2)=[])=decide (((Em g (domL 2)).length:Int)=0):=B1.2 ⟨λh=>by rw[h];rfl,λh=>Ay (by omega)⟩;have e:EW 2 g=(decide (g.length≠0)&&(decide (g.length<=64)&&(decide (g=B4 g)&&decide (Em g (domL 2)=[])))):=(z0m 2 g).symm;rw[e,hz];generalize decide (g=B4 g)=c at *;generalize Em g (domL 2)=M at *;generalize B4 g=N at *;generalize domL 2=D at *;refine Cf VG ?_;unfold Oj;by_cases h0:g.length=0
 ·rw[Bc (by omega)]
  (with_reducible repeat'(first|simp(disch:=omega)only[push_cast,↓zz,seval,pg]|refine sp_ ?_ ?_<;>try(intro hc;push_cast at hc)|omega|intro _))
  all_goals first|omega
 ·rw[AE (p:=g.length≠0) (by omega)]
  by_cases h1:g.length<=64
  ·rw[AE h1]
   cases c<;>(with_reducible repeat'(first|simp(disch:=omega)only[push_cast,↓zz,seval,pg,pd,pn,pm]|refine sp_ ?_ ?_<;>try(intro hc;push_cast at hc)|refine ee hN ?_|refine ee hS ?_|refine ee hD ?_|refine ee hM ?_|((first|refine cc hN ?_|refine cc hS ?_|refine cc hD ?_|refine cc hM ?_);simp(disch:=omega)only[push_cast,↓zz,seval,pg,pd,pn,pm];fail_if_success change False)|omega|intro _))
   all_goals first|omega
  ·rw[Bc h1]
   (with_reducible repeat'(first|simp(disch:=omega)only[push_cast,↓zz,seval,pg]|refine sp_ ?_ ?_<;>try(intro hc;push_cast at hc)|omega|intro _))
   all_goals first|omega
theorem WO(n:Rec):EI n->PC Tryz.prog 53 [recV n] (.bool (Ho n)):=by
 refine Rec.ind (P:=λn=>EI n->PC Tryz.prog 53 [recV n] (.bool (Ho n))) ?_ n;intro k s b r w l ih hf;cases hf with
 |mk hs hr hw hl hch =>
 have ps:=BR s r w l;rw[Cv,Ho,show decide (r.length=0)=decide ((r.length:Int)=0) from B1.2 (by omega)];refine Cf Ol ?_;unfold IW;by_cases h3:k=3
 ·subst h3
  rw[Ae rfl];(with_reducible repeat'(first|simp(disch:=omega)only[push_cast,↓zz,seval,ps]|refine sp_ ?_ ?_<;>try(intro hc;push_cast at hc)|omega|intro _))
 by_cases h4:k=4
 ·subst h4
  rw[Ab (by decide),Ae rfl];(with_reducible repeat'(first|simp(disch:=omega)only[push_cast,↓zz,seval,ps]|refine sp_ ?_ ?_<;>try(intro hc;push_cast at hc)|omega|intro _))
  refine Br (Bs (λ(i:Nat)=>i<=l.length/\Ei l=Ei (l.drop i)) (λi=>l.length-i) (λi=>[(1,.ptr 0 1 0 0),(3,.int .i64 i)])
   (λ_=>[⟨6,1,true,[.agg [.int .i64 4,Bg s,.int .i64 b,A6 r,A6 w,.lst 6 (l.map recV)]]⟩]) (λenv _=>[C7 6 (env 1)]) 0 ⟨by simp,by simp⟩ ?_ ?_)
  ·(with_reducible repeat'(first|simp(disch:=omega)only[push_cast,↓zz,seval,ps]|refine sp_ ?_ ?_<;>try(intro hc;push_cast at hc)|omega|intro _))
  rintro i ⟨hi,hk⟩;rcases Ak i l.length with hil|hil
  ·have hm:=ih _ (AS hil) (hch _ (AS hil))
   rw[MX hil] at hk;generalize Ho (nth l i)=q at *;have pn:=OJ (nth l i);obtain⟨k',s',b',r',w',l',he⟩:∃k' s' b' r' w' l',nth l i=.mk k' s' b' r' w' l':=by cases nth l i;exact⟨_,_,_,_,_,_,rfl⟩
   have hrm:=Cv k' s' b' r' w' l';have ps':=BR s' r' w' l';rw[he,hrm] at hm;refine W_T ?_;cases q with
   |false =>
    (with_reducible repeat'(first|simp(disch:=omega)only[push_cast,↓zz,seval,ps,ps',he,hrm]|refine sp_ ?_ ?_<;>try(intro hc;push_cast at hc)|refine ee hm ?_|(refine cc hm ?_;simp(disch:=omega)only[push_cast,↓zz,seval,ps,ps',he,hrm];fail_if_success change False)|omega|intro _))
    all_goals first|(simp[hk];done)
   |true =>
    (with_reducible repeat'(first|simp(disch:=omega)only[push_cast,↓zz,seval,ps,ps',he,hrm]|refine sp_ ?_ ?_<;>try(intro hc;push_cast at hc)|refine ee hm ?_|(refine cc hm ?_;simp(disch:=omega)only[push_cast,↓zz,seval,ps,ps',he,hrm];fail_if_success change False)|omega|intro _))
    all_goals
     refine⟨i+1,?_⟩;(with_reducible repeat'(first|simp(disch:=omega)only[push_cast,↓zz,seval,ps]|refine sp_ ?_ ?_<;>try(intro hc;push_cast at hc)|omega|intro _))
    all_goals first|(simpa using hk)
  ·obtain rfl:i=l.length:=by omega
   rw[List.drop_length,Ei] at hk;refine W_T ?_;(with_reducible repeat'(first|simp(disch:=omega)only[push_cast,↓zz,seval,ps]|refine sp_ ?_ ?_<;>try(intro hc;push_cast at hc)|omega|intro _))
   all_goals first|(simp[hk];done)
 by_cases h5:k=5
 ·subst h5
  rw[Ab (by decide),Ab (by decide),Ae rfl];(with_reducible repeat'(first|simp(disch:=omega)only[push_cast,↓zz,seval,ps]|refine sp_ ?_ ?_<;>try(intro hc;push_cast at hc)|omega|intro _))
  refine Br (Bs (λ(i:Nat)=>i<=l.length/\G7 l=G7 (l.drop i)) (λi=>l.length-i) (λi=>[(1,.ptr 0 1 0 0),(4,.int .i64 i)])
   (λ_=>[⟨6,1,true,[.agg [.int .i64 5,Bg s,.int .i64 b,A6 r,A6 w,.lst 6 (l.map recV)]]⟩]) (λenv _=>[C7 6 (env 1)]) 0 ⟨by simp,by simp⟩ ?_ ?_)
  ·(with_reducible repeat'(first|simp(disch:=omega)only[push_cast,↓zz,seval,ps]|refine sp_ ?_ ?_<;>try(intro hc;push_cast at hc)|omega|intro _))
  rintro i ⟨hi,hk⟩;rcases Ak i l.length with hil|hil
  ·have hm:=ih _ (AS hil) (hch _ (AS hil))
   rw[MY hil] at hk;generalize Ho (nth l i)=q at *;obtain⟨k',s',b',r',w',l',he⟩:∃k' s' b' r' w' l',nth l i=.mk k' s' b' r' w' l':=by cases nth l i;exact⟨_,_,_,_,_,_,rfl⟩
   have hrm:=Cv k' s' b' r' w' l';have ps':=BR s' r' w' l';rw[he,hrm] at hm;refine W_T ?_;cases q with
   |true =>
    (with_reducible repeat'(first|simp(disch:=omega)only[push_cast,↓zz,seval,ps,ps',he,hrm]|refine sp_ ?_ ?_<;>try(intro hc;push_cast at hc)|refine ee hm ?_|(refine cc hm ?_;simp(disch:=omega)only[push_cast,↓zz,seval,ps,ps',he,hrm];fail_if_success change False)|omega|intro _))
    all_goals first|(simp[hk];done)
   |false =>
    (with_reducible repeat'(first|simp(disch:=omega)only[push_cast,↓zz,seval,ps,ps',he,hrm]|refine sp_ ?_ ?_<;>try(intro hc;push_cast at hc)|refine ee hm ?_|(refine cc hm ?_;simp(disch:=omega)only[push_cast,↓zz,seval,ps,ps',he,hrm];fail_if_success change False)|omega|intro _))
    all_goals
     refine⟨i+1,?_⟩;(with_reducible repeat'(first|simp(disch:=omega)only[push_cast,↓zz,seval,ps]|refine sp_ ?_ ?_<;>try(intro hc;push_cast at hc)|omega|intro _))
    all_goals first|(simpa using hk)
  ·obtain rfl:i=l.length:=by omega
   rw[List.drop_length,G7] at hk;refine W_T ?_;(with_reducible repeat'(first|simp(disch:=omega)only[push_cast,↓zz,seval,ps]|refine sp_ ?_ ?_<;>try(intro hc;push_cast at hc)|omega|intro _))
   all_goals first|(simp[hk];done)
 ·rw[Ab h3,Ab h4,Ab h5]
  (with_reducible repeat'(first|simp(disch:=omega)only[push_cast,↓zz,seval,ps,h3,h4,h5]|refine sp_ ?_ ?_<;>try(intro hc;push_cast at hc)|omega|intro _))
  all_goals first|(exfalso;omega)
theorem z7j(n:Rec):EI n->∀d:Int,0<=d->d<=65->PC Tryz.prog 19 [recV n,.int .i64 d] (.bool (okR n d)):=by
 refine Rec.ind (P:=λn=>EI n->∀d:Int,0<=d->d<=65->PC Tryz.prog 19 [recV n,.int .i64 d] (.bool (okR n d))) ?_ n;intro k s b r w l ih hf d hd0 hd1;have hNo:=λ(h6:k=6)=>WO (.mk 4 [] 0 [] [] l) (by cases hf with|mk hs hr hw hl hch=>exact .mk (by simp) (by simp) (by simp) hl hch);cases hf with
 |mk hs hr hw hl hch =>
 have ps:=BR s r w l;rw[Cv];refine Cf RR ?_;unfold KJ;by_cases hd:64<d
 ·rw[show okR (.mk k s b r w l) d=false by rw[okR,AE hd];rfl]
  (with_reducible repeat'(first|simp(disch:=omega)only[push_cast,↓zz,seval,ps]|refine sp_ ?_ ?_<;>try(intro hc;push_cast at hc)|omega|intro _))
 have e0:okR (.mk k s b r w l) d=(if k=1 then !decide (b < -1114111\/1114111<b)&&(EW 2 s&&decide (Em (Fh s b) (domL 2)=[])) else if k=2 then EW 2 s
  else if k=3 then r.all (Dh 2)&&w.all (Dh 2) else if k=4\/k=5 then okL l (d+1) else if k=6 then okL l (d+1)&&!Ei l else false):=by rw[okR,Bc hd];rfl
 rw[e0];clear e0;have hS:=zk2 s hs;have hD:=MW 2;have pD:=Cd (domL 2);by_cases h1:k=1
 ·subst h1
  rw[Ae rfl];by_cases hb:b < -1114111\/1114111<b
  ·rw[AE hb]
   (with_reducible repeat'(first|simp(disch:=omega)only[push_cast,↓zz,seval,ps]|refine sp_ ?_ ?_<;>try(intro hc;push_cast at hc)|omega|intro _))
   all_goals first|omega
  ·rw[Bc hb]
   have hM:=z0k s b (by omega);have hW:=Mf (Fh s b) (domL 2) 2 (by have:=UU s b;omega) (by simp[domL]);rw[QD] at hW;have pM:=Cd (Fh s b);have pW:=Cd (Em (Fh s b) (domL 2));have hz:decide (Em (Fh s b) (domL 2)=[])=decide (((Em (Fh s b) (domL 2)).length:Int)=0):=B1.2 ⟨λh=>by rw[h];rfl,λh=>Ay (by omega)⟩;rw[hz];generalize Em (Fh s b) (domL 2)=X at *;generalize Fh s b=M at *;generalize domL 2=D at *;cases hg:EW 2 s with
   |false =>
    rw[hg] at hS;(with_reducible repeat'(first|simp(disch:=omega)only[push_cast,↓zz,seval,ps]|refine sp_ ?_ ?_<;>try(intro hc;push_cast at hc)|refine ee hS ?_|(refine cc hS ?_;simp(disch:=omega)only[push_cast,↓zz,seval,ps];fail_if_success change False)|omega|intro _))
    all_goals first|omega
   |true =>
    rw[hg] at hS;(with_reducible repeat'(first|simp(disch:=omega)only[push_cast,↓zz,seval,ps,pM,pD,pW]|refine sp_ ?_ ?_<;>try(intro hc;push_cast at hc)|refine ee hS ?_|refine ee hM ?_|refine ee hD ?_|refine ee hW ?_|((first|refine cc hS ?_|refine cc hM ?_|refine cc hD ?_|refine cc hW ?_);simp(disch:=omega)only[push_cast,↓zz,seval,ps,pM,pD,pW];fail_if_success change False)|omega|intro _))
    all_goals first|omega
 by_cases h2:k=2
 ·subst h2
  rw[Ab (by decide),Ae rfl];generalize EW 2 s=q at *;(with_reducible repeat'(first|simp(disch:=omega)only[push_cast,↓zz,seval,ps]|refine sp_ ?_ ?_<;>try(intro hc;push_cast at hc)|refine ee hS ?_|(refine cc hS ?_;simp(disch:=omega)only[push_cast,↓zz,seval,ps];fail_if_success change False)|omega|intro _))
 by_cases h3:k=3
 ·subst h3
  rw[Ab (by decide),Ab (by decide),Ae rfl];have hR:=WN 2 r (by omega) hr.2;have hW:=WN 2 w (by omega) hw.2;generalize w.all (Dh 2)=qw at *;cases hq:r.all (Dh 2)<;>rw[hq] at hR
  ·(with_reducible repeat'(first|simp(disch:=omega)only[push_cast,↓zz,seval,ps]|refine sp_ ?_ ?_<;>try(intro hc;push_cast at hc)|refine ee hR ?_|(refine cc hR ?_;simp(disch:=omega)only[push_cast,↓zz,seval,ps];fail_if_success change False)|omega|intro _))
  ·(with_reducible repeat'(first|simp(disch:=omega)only[push_cast,↓zz,seval,ps]|refine sp_ ?_ ?_<;>try(intro hc;push_cast at hc)|refine ee hR ?_|refine ee hW ?_|((first|refine cc hR ?_|refine cc hW ?_);simp(disch:=omega)only[push_cast,↓zz,seval,ps];fail_if_success change False)|omega|intro _))
 by_cases h456:k=4\/k=5\/k=6
 ·rw[Ab h1,Ab h2,Ab h3]
  (with_reducible repeat'(first|simp(disch:=omega)only[push_cast,↓zz,seval,ps,h1,h2,h3]|refine sp_ ?_ ?_<;>try(intro hc;push_cast at hc)|omega|intro _))
  all_goals first|(exfalso;omega)|skip
  all_goals
   refine Br (Bs (λ(i:Nat)=>i<=l.length/\okL l (d+1)=okL (l.drop i) (d+1)) (λi=>l.length-i)
    (λi=>[(1,.int .i64 d),(2,.ptr 0 1 0 0),(5,.int .i64 i)])
    (λ_=>[⟨6,1,true,[.agg [.int .i64 k,Bg s,.int .i64 b,A6 r,A6 w,.lst 6 (l.map recV)]]⟩]) (λenv _=>[C7 6 (env 2)]) 0 ⟨by simp,by simp⟩ ?_ ?_)
   ·(with_reducible repeat'(first|simp(disch:=omega)only[push_cast,↓zz,seval,ps]|refine sp_ ?_ ?_<;>try(intro hc;push_cast at hc)|omega|intro _))
   rintro i ⟨hi,hk1⟩;rcases Ak i l.length with hil|hil
   ·have hm:=ih _ (AS hil) (hch _ (AS hil)) (d+1) (by omega) (by omega)
    rw[YE hil] at hk1;obtain⟨k',s',b',r',w',l',he⟩:∃k' s' b' r' w' l',nth l i=.mk k' s' b' r' w' l':=by cases nth l i;exact⟨_,_,_,_,_,_,rfl⟩
    have hrm:=Cv k' s' b' r' w' l';have ps':=BR s' r' w' l';generalize okR (nth l i) (d+1)=q at *;rw[he,hrm] at hm;clear hNo;refine W_T ?_;cases q with
    |false =>
     rw[Bp] at hk1;(with_reducible repeat'(first|simp(disch:=omega)only[push_cast,↓zz,seval,ps,ps',he,hrm]|refine sp_ ?_ ?_<;>try(intro hc;push_cast at hc)|refine ee hm ?_|(refine cc hm ?_;simp(disch:=omega)only[push_cast,↓zz,seval,ps,ps',he,hrm];fail_if_success change False)|omega|intro _))
     all_goals first|(simp[hk1];done)
    |true =>
     rw[AO] at hk1;(with_reducible repeat'(first|simp(disch:=omega)only[push_cast,↓zz,seval,ps,ps',he,hrm]|refine sp_ ?_ ?_<;>try(intro hc;push_cast at hc)|refine ee hm ?_|(refine cc hm ?_;simp(disch:=omega)only[push_cast,↓zz,seval,ps,ps',he,hrm];fail_if_success change False)|omega|intro _))
     all_goals
      refine⟨i+1,?_⟩;(with_reducible repeat'(first|simp(disch:=omega)only[push_cast,↓zz,seval,ps]|refine sp_ ?_ ?_<;>try(intro hc;push_cast at hc)|omega|intro _))
     all_goals first|exact hk1
   ·obtain rfl:i=l.length:=by omega
    rw[List.drop_length,okL] at hk1;rw[hk1];by_cases h6:k=6
    ·have hNo:=hNo h6
     rw[Cv,show Ho (.mk 4 [] 0 [] [] l)=Ei l from rfl] at hNo;rw[Ab (by omega),Ae h6,AO];generalize Ei l=q at *;refine W_T ?_;(with_reducible repeat'(first|simp(disch:=omega)only[push_cast,↓zz,seval,ps,h6]|refine sp_ ?_ ?_<;>try(intro hc;push_cast at hc)|refine ee hNo ?_|(refine cc hNo ?_;simp(disch:=omega)only[push_cast,↓zz,seval,ps,h6];fail_if_success change False)|omega|intro _))
    ·rw[Ae (by omega)]
     clear hNo;refine W_T ?_;(with_reducible repeat'(first|simp(disch:=omega)only[push_cast,↓zz,seval,ps,h6]|refine sp_ ?_ ?_<;>try(intro hc;push_cast at hc)|omega|intro _))
 ·rw[Ab h1,Ab h2,Ab h3,Ab (by omega),Ab (by omega)]
  (with_reducible repeat'(first|simp(disch:=omega)only[push_cast,↓zz,seval,ps,h1,h2,h3]|refine sp_ ?_ ?_<;>try(intro hc;push_cast at hc)|omega|intro _))
  all_goals first|omega
end Go.Proofs.YtflibbceibjddaaGreat
namespace Go.Proofs.YtflibbceibjddaaGreat
open Abs O1 O2 O3 Go.RowKit
mutual
def cntR:Rec->Nat->Nat
 |.mk _ s _ r w l,m=>cntL l m (1+min r.length m+min w.length m+min s.length m)
def cntL:List Rec->Nat->Nat->Nat
 |[],_,t=>t
 |n::l,m,t=>if t<=m then cntL l m (t+cntR n (m-t)) else t
end
mutual
def cntN:Rec->Nat
 |.mk _ s _ r w l=>1+r.length+w.length+s.length+cntA l
def cntA:List Rec->Nat
 |[]=>0
 |n::l=>cntN n+cntA l
end
theorem SO:∀(l:List Rec)(m t:Nat),t<=cntL l m t
 |[],m,t=>by rw[cntL];exact Ad _
 |n::l,m,t=>by
  rw[cntL];split
  ·exact AJ (CB _ _) (SO l m _)
  ·exact Ad _
theorem z7k(n:Rec):∀m,cntR n m<=4 * m+1:=by
 refine Rec.ind (P:=λn=>∀m,cntR n m<=4 * m+1) ?_ n;intro k s b r w l ih m
 have key:∀(l:List Rec),(∀n∈l,∀m,cntR n m<=4 * m+1)->∀t,t<=4 * m+1->cntL l m t<=4 * m+1:=by
  intro l
  induction l with
  |nil=>intro _ t ht;rw[cntL];exact ht
  |cons n l ihl =>
   intro h t ht;rw[cntL];split
   ·have:=h n (by simp) (m-t)
    exact ihl (λn hn=>h n (by simp[hn])) _ (by omega)
   ·exact ht
 rw[cntR];exact key l ih _ (by omega)
theorem z7l{l:List Rec}{m t i:Nat}(hi:i<l.length):cntL (l.drop i) m t=if t<=m then cntL (l.drop (i+1)) m (t+cntR (nth l i) (m-t)) else t:=by rw[drop_at hi,cntL]
theorem z7m(n:Rec):Nm n->∀m:Nat,m<=1000->PC Tryz.prog 44 [recV n,.int .i64 m] (.int .i64 (cntR n m:Nat)):=by
 refine Rec.ind (P:=λn=>Nm n->∀m:Nat,m<=1000->PC Tryz.prog 44 [recV n,.int .i64 m] (.int .i64 (cntR n m:Nat))) ?_ n;intro k s b r w l ih hf m hmm;cases hf with
 |mk _ hs hr hw hl hch =>
 have ps:=BR s r w l;have e0:cntR (.mk k s b r w l) m=cntL l m (1+min r.length m+min w.length m+min s.length m):=by rw[cntR]
 obtain⟨a1,h1⟩:∃a,a=min r.length m:=⟨_,rfl⟩;obtain⟨a2,h2⟩:∃a,a=min w.length m:=⟨_,rfl⟩;obtain⟨a3,h3⟩:∃a,a=min s.length m:=⟨_,rfl⟩;have m1:min (r.length:Int) (m:Int)=(a1:Int):=by omega
 have m2:min (w.length:Int) (m:Int)=(a2:Int):=by omega
 have m3:min (s.length:Int) (m:Int)=(a3:Int):=by omega
 rw[<-h1,<-h2,<-h3] at e0;have hl2:l.length<=9223372036854775807:=AJ hl (by decide);rw[Cv];generalize cntR (.mk k s b r w l) m=z at *;refine Cf RS ?_;unfold KN;(with_reducible repeat'(first|simp(disch:=omega)only[push_cast,↓zz,seval,ps,m1,m2,m3]|refine sp_ ?_ ?_<;>try(intro hc;push_cast at hc)|omega|intro _))
 refine Br (Bs (λ(q:Nat × Nat)=>q.1<=l.length/\q.2<=4 * m+1/\z=cntL (l.drop q.1) m q.2) (λq=>l.length-q.1)
  (λq=>[(1,.int .i64 m),(2,.ptr 0 1 0 0),(5,.int .i64 q.2),(6,.int .i64 q.1)]) (λ_=>[⟨6,1,true,[.agg [.int .i64 k,Bg s,.int .i64 b,A6 r,A6 w,.lst 6 (l.map recV)]]⟩]) (λenv _=>[C7 6 (env 2)]) (0,1+a1+a2+a3) ⟨by simp,by simp only;omega,by simpa using e0⟩ ?_ ?_)
 ·(with_reducible repeat'(first|simp(disch:=omega)only[push_cast,↓zz,seval,ps,m1,m2,m3]|refine sp_ ?_ ?_<;>try(intro hc;push_cast at hc)|omega|intro _))
  all_goals first|omega
 rintro⟨i,t⟩ ⟨hi,ht,hz⟩;simp only at hi ht hz;rcases Ak i l.length with hil|hil
 ·rw[z7l hil] at hz
  by_cases htm:t<=m
  ·have hm:=ih _ (AS hil) (hch _ (AS hil)) (m-t) (by omega)
   rw[Ae htm] at hz;have hcl:=z7k (nth l i) (m-t);have hmt:(m:Int)-(t:Int)=((m-t:Nat):Int):=by omega
   obtain⟨k',s',b',r',w',l',he⟩:∃k' s' b' r' w' l',nth l i=.mk k' s' b' r' w' l':=by cases nth l i;exact⟨_,_,_,_,_,_,rfl⟩
   generalize cntR (nth l i) (m-t)=c at *;generalize hmte:m-t=mt at *;have hrm:=Cv k' s' b' r' w' l';have ps':=BR s' r' w' l';rw[he,hrm] at hm;refine W_T ?_;(with_reducible repeat'(first|simp(disch:=omega)only[push_cast,↓zz,seval,ps,ps',he,hrm,hmt]|refine sp_ ?_ ?_<;>try(intro hc;push_cast at hc)|refine ee hm ?_|(refine cc hm ?_;simp(disch:=omega)only[push_cast,↓zz,seval,ps,ps',he,hrm,hmt];fail_if_success change False)|omega|intro _))
   all_goals
    refine⟨(i+1,t+c),?_⟩;(with_reducible repeat'(first|simp(disch:=omega)only[push_cast,↓zz,seval,ps]|refine sp_ ?_ ?_<;>try(intro hc;push_cast at hc)|omega|intro _))
   all_goals first|exact hz|omega
  ·rw[Ab htm] at hz
   subst hz;refine W_T ?_;(with_reducible repeat'(first|simp(disch:=omega)only[push_cast,↓zz,seval,ps]|refine sp_ ?_ ?_<;>try(intro hc;push_cast at hc)|omega|intro _))
   all_goals first|(exfalso;omega)
 ·obtain rfl:i=l.length:=by omega
  rw[List.drop_length,cntL] at hz;subst hz;refine W_T ?_;(with_reducible repeat'(first|simp(disch:=omega)only[push_cast,↓zz,seval,ps]|refine sp_ ?_ ?_<;>try(intro hc;push_cast at hc)|omega|intro _))
  all_goals first|(exfalso;omega)
theorem zod(n:Rec):∀m,cntR n m<=m->cntN n=cntR n m:=by
 refine Rec.ind (P:=λn=>∀m,cntR n m<=m->cntN n=cntR n m) ?_ n;intro k s b r w l ih m h
 have key:∀(l:List Rec),(∀n∈l,∀m,cntR n m<=m->cntN n=cntR n m)->∀t,cntL l m t<=m->cntL l m t=t+cntA l:=by
  intro l
  induction l with
  |nil=>intro _ t _;rw[cntL,cntA,Nat.add_zero]
  |cons n l ihl =>
   intro h t ht;have h0:t<=m:=AJ (SO (n::l) m t) ht;rw[cntL,Ae h0] at ht ⊢;have h1:=SO l m (t+cntR n (m-t));have h2:=h n (by simp) (m-t) (by omega);rw[ihl (λn hn=>h n (by simp[hn])) _ ht,cntA,h2,Bo]
 rw[cntR] at h ⊢;have h0:=SO l m (1+min r.length m+min w.length m+min s.length m);rw[key l ih _ h,cntN];omega
theorem YQ:∀{l:List Rec}{n:Rec},n∈l->cntN n<=cntA l
 |a::l,n,h=>by
  rw[cntA];rcases Af.1 h with rfl|h
  ·omega
  ·have:=YQ h;omega
theorem SP(n:Rec):1<=cntN n:=by
 obtain⟨k,s,b,r,w,l⟩:=n;rw[cntN];omega
theorem JC:∀l:List Rec,l.length<=cntA l
 |[]=>Ad _
 |a::l=>by
  have:=SP a;have:=JC l;rw[cntA,List.length_cons];omega
theorem Vj(n:Rec):Nm n->cntN n<=1000000->EI n:=by
 refine Rec.ind (P:=λn=>Nm n->cntN n<=1000000->EI n) ?_ n;intro k s b r w l ih hok h;rw[cntN] at h;cases hok with
 |mk _ hs hr hw hl hch =>
 have:=JC l;exact .mk (by omega) ⟨by omega,hr.2⟩ ⟨by omega,hw.2⟩ (by omega) λn hn=>ih n hn (hch n hn) (by have:=YQ hn;omega)
def Pz(n:Rec):Bool:=decide (cntR n 300<=300)
theorem Lx{n:Rec}(h:Pz n=true):cntN n<=300:=by
 have h1:cntR n 300<=300:=of_decide_eq_true h;rw[zod n 300 h1];exact h1
theorem Vk{n:Rec}(hok:Nm n)(h:Pz n=true):EI n:=Vj n hok (by have:=Lx h;omega)
theorem z7n(n:Rec)(hok:Nm n):PC Tryz.prog 15 [recV n] (.bool (Pz n)):=by
 have hC:=z7m n hok 300 (by omega);have e:Pz n=decide ((cntR n 300:Int)<=300):=B1.2 (by omega);rw[e];have hc:=z7k n 300;generalize cntR n 300=c at *;obtain⟨k,s,b,r,w,l⟩:=n;have ps:=BR s r w l;rw[Cv] at *;refine Cf RP ?_;unfold KH;(with_reducible repeat'(first|simp(disch:=omega)only[push_cast,↓zz,seval,ps]|refine sp_ ?_ ?_<;>try(intro hc;push_cast at hc)|refine ee hC ?_|(refine cc hC ?_;simp(disch:=omega)only[push_cast,↓zz,seval,ps];fail_if_success change False)|omega|intro _))
theorem Vl{P:Program}{f:Nat}{xs:List AV}{l l':List Grp}{K:AV->A5->Prop}(i g w v n:Nat){ex:Bool}{X:List AV}(hw:0<w)(hlt:g<l.length)(hg:l.getD g default=⟨w,v,ex,X⟩)(pX:Bh X=true)(hn:X.length=n)(hx:xs[i]? = some (.ref g v 0 n))(hl':Ee 0 [g] l=l')
 (h:@KD P f (xs.set i (.lst w X)) (Abs.hl l') ⟨K⟩):@KD P f xs (Abs.hl l) ⟨K⟩:=by
 subst hl' hn
 have hat:((Abs.hl l).only [g]).at_ g=⟨w,v,ex,X⟩:=by
  show (if g∈[g] then _ else _)=_;rw[Ae (by simp),Dr,hg]
 have hpz:=FN ((Abs.hl l).only [g]) 0 pX
 have f1:CJ 1 ((Abs.hl l).only [g]) (.ref g v 0 X.length):=by
  simp only[CJ];rw[hat];simp only[B6,A7];exact⟨trivial,hw,by omega,hpz.1⟩
 have f2:frzV 1 ((Abs.hl l).only [g]) (.ref g v 0 X.length)=.lst w X:=by
  simp only[frzV];rw[hat];simp[frzV]
 have h:B3 P f (xs.set i (.lst w X)) (Abs.hl (Ee 0 [g] l)) K:=h
 have hk:B3 P f (xs.set i (.lst w X)) ((Abs.hl l).kill [g]) K:=B3.congr (H':=Abs.hl (Ee 0 [g] l)) (by simp[Abs.hl,A5.kill,FO]) (λj hj=>by
  show (Ee 0 [g] l).getD j default=if j∈[g] then (l.getD j default).dead else l.getD j default
  rw[Hs 0 [g] l j hj,Bb]) h
 refine⟨hk.1,λS cargs hS hx'=>(hk.2 (S.kill (Abs.hl l) [g]) cargs (Jw [g] hS) ?_).mono λe w' hh=>?_⟩
 ·have h1:AB (S.kill (Abs.hl l) [g]) xs cargs:=AB.mono (FV [g] hS) _ hx'
  have hil:i<cargs.length:=by rw[hx'.length];exact (AI.1 hx).1
  have h2:VRel (S.kill (Abs.hl l) [g]) (.lst w X) cargs[i]:=by
   obtain⟨u,hu,h3⟩:=hx'.get hx;have hu2:cargs[i]=u:=BW ((Al hil).symm.trans hu);rw[hu2];have:=Jy [g] hS 1 f1 h3
   rwa [f2] at this
  have h3:=AB.set (i:=i) h1 h2
  rwa [List.set_getElem_self] at h3
 ·obtain⟨v,S',x,H',rfl,rfl,ev,hS',hv,hK⟩:=hh
  exact⟨v,S',x,H',rfl,rfl,(FV [g] hS).trans ev,hS',hv,hK⟩
theorem zoe(st:MSt)(a c:Nat)(s:List Span)(out:List Term):(addR st a c s out).1=st.1/\(addR st a c s out).2.length=st.2.length+1:=by simp[addR]
theorem zof(st:MSt):(newS st).1=st.1+1/\(newS st).2=st.2:=⟨rfl,rfl⟩
theorem SQ:∀(n:Nat)(w:List Int)(f:Nat)(st:MSt),(wrR n w f st).1.1<=st.1+n/\(wrR n w f st).1.2.length<=st.2.length+n
 |0,w,f,st=>by simp[wrR]
 |n+1,w,f,st=>by
  rw[wrR];split
  ·simp only;omega
  ·have:=SQ n (w.drop 64) st.1 (addR (newS st) f st.1 [] ((w.take 64).map Fw))
   have h2:=zoe (newS st) f st.1 [] ((w.take 64).map Fw);have h3:=zof st;rw[h3.2] at h2;omega
theorem YR:∀(r:List Int)(f:Nat)(st:MSt),(rdR r f st).1.1<=st.1+r.length/\(rdR r f st).1.2.length<=st.2.length+r.length
 |[],f,st=>by simp[rdR]
 |x::r,f,st=>by
  rw[rdR];split
  ·simp only[List.length_cons];omega
  ·have:=YR r st.1 (addR (newS st) f st.1 [⟨x,x⟩] [])
   have h2:=zoe (newS st) f st.1 [⟨x,x⟩] [];have h3:=zof st;rw[h3.2] at h2;simp only[List.length_cons];omega
def zds(n:Rec):Prop:=∀f st,(mkM n f st).1.1+1<=st.1+4 * cntN n/\(mkM n f st).1.2.length+2<=st.2.length+6 * cntN n
theorem Ly:∀(l:List Rec),(∀n∈l,zds n)->∀f st,(catR l f st).1.1<=st.1+4 * cntA l/\(catR l f st).1.2.length<=st.2.length+6 * cntA l
 |[],_,f,st=>by simp[catR,cntA]
 |n::l,h,f,st=>by
  have h1:=h n (by simp) f st;have h2:=Ly l (λm hm=>h m (by simp[hm])) (mkM n f st).2 (mkM n f st).1;rw[catR,cntA];omega
theorem Vm:∀(l:List Rec),(∀n∈l,zds n)->∀f t st,(altR l f t st).1<=st.1+4 * cntA l/\(altR l f t st).2.length<=st.2.length+6 * cntA l
 |[],_,f,t,st=>by simp[altR,cntA]
 |n::l,h,f,t,st=>by
  have h1:=h n (by simp) st.1 (addR (newS st) f st.1 [] []);have h2:=Vm l (λm hm=>h m (by simp[hm])) f t (addR (mkM n st.1 (addR (newS st) f st.1 [] [])).1 (mkM n st.1 (addR (newS st) f st.1 [] [])).2 t [] []);rw[altR,cntA];simp only[addR,newS,Aj,List.length_singleton] at h1 h2 ⊢;omega
theorem N6(n:Rec):zds n:=by
 refine Rec.ind (P:=zds) ?_ n;intro k s b r w l ih f st;have hc:cntN (.mk k s b r w l)=1+r.length+w.length+s.length+cntA l:=by rw[cntN]
 rw[hc,mkM];split
 ·simp only;omega
 split
 ·simp only[addR,newS,Aj,List.length_singleton];omega
 split
 ·simp only[addR,newS,Aj,List.length_singleton];omega
 split
 ·have h1:=SQ w.length w f st
  have h2:=YR r (wrR w.length w f st).2 (wrR w.length w f st).1;omega
 split
 ·have h1:=Vm l ih f st.1 (newS st)
  simp only[newS] at h1 ⊢;omega
 split
 ·have h1:=Ly l ih (st.1+1) (addR (newS (addR (newS st) f st.1 [] [])) st.1 (st.1+1) [] [])
  simp only[addR,newS,Aj,List.length_singleton] at h1 ⊢;omega
 ·have h1:=Ly l ih f st
  omega
def wrS(w:List Int):Sem:=λa e u=>e=a/\u=w
def symS(x:List Int)(c:Int):Sem:=λa e u=>a<x.length/\nth x a=c/\e=a+1/\u=[]
def rdS(x:List Int):List Int->Sem
 |[]=>idS
 |c::r=>seqS (symS x c) (rdS x r)
mutual
def semR(x:List Int):Rec->Sem
 |.mk k s b r w l=>if k=1 then z6d x ⟨0,0,[s],1,[cpyT b]⟩ else if k=2 then z6d x ⟨0,0,[s],1,[]⟩ else if k=3 then seqS (wrS w) (rdS x r)
  else if k=5 then semA x l else if k=6 then Star (semC x l) else semC x l
def semC(x:List Int):List Rec->Sem
 |[]=>idS
 |n::l=>seqS (semR x n) (semC x l)
def semA(x:List Int):List Rec->Sem
 |[]=>noS
 |n::l=>orS (semR x n) (semA x l)
end
def wrP:Nat->List Int->Nat->Nat->Pie
 |0,_,f,S=>([],S,f)
 |n+1,w,f,S=>if w.length=0 then ([],S,f) else (CW f S [] ((w.take 64).map Fw)::(wrP n (w.drop 64) S (S+1)).1,(wrP n (w.drop 64) S (S+1)).2)
def rdP:List Int->Nat->Nat->Pie
 |[],f,S=>([],S,f)
 |c::r,f,S=>(CW f S [⟨c,c⟩] []::(rdP r S (S+1)).1,(rdP r S (S+1)).2)
def zk3(f S:Nat)(p:Pie):Pie:=([CW f S [] [],CW S (S+1:Nat) [] []]++p.1++[CW p.2.2 S [] [],CW S p.2.1 [] []],p.2.1+1,p.2.1)
def seqP(p q:Pie):Pie:=(p.1++q.1,q.2.1,q.2.2)
mutual
def mkP:Rec->Nat->Nat->Pie
 |.mk k s b r w l,f,S=>if k=1 then ([CW f S s [cpyT b]],S+1,S) else if k=2 then ([CW f S s []],S+1,S)
  else if k=3 then seqP (wrP w.length w f S) (rdP r (wrP w.length w f S).2.2 (wrP w.length w f S).2.1)
  else if k=5 then ((altP l f S (S+1)).1,(altP l f S (S+1)).2,S)
  else if k=6 then zk3 f S (catP l (S+1) (S+2)) else catP l f S
def catP:List Rec->Nat->Nat->Pie
 |[],f,S=>([],S,f)
 |n::l,f,S=>seqP (mkP n f S) (catP l (mkP n f S).2.2 (mkP n f S).2.1)
def altP:List Rec->Nat->Nat->Nat->List Rule × Nat
 |[],_,_,S=>([],S)
 |n::l,f,t,S=>(CW f S [] []::(mkP n S (S+1)).1++CW (mkP n S (S+1)).2.2 t [] []::(altP l f t (mkP n S (S+1)).2.1).1,(altP l f t (mkP n S (S+1)).2.1).2)
end
section
variable {x:List Int}{f S:Nat}
theorem JD{s s':Sem}{nl:Bool}{p:Pie}(h:∀a e u,a<=x.length->(s a e u↔s' a e u))(hg:Good x s nl f S p):Good x s' nl f S p:=by
 refine⟨hg.mono,hg.to_,hg.same,hg.dom,λD hD a w ha=>?_,hg.cyc,λa e u hs ha=>hg.semd a e u ((h a e u ha).2 hs) ha⟩;rw[hg.rel D hD a w ha];constructor
 ·rintro⟨e,u,v,k1,k2⟩;exact⟨e,u,v,(h a e u ha).1 k1,k2⟩
 ·rintro⟨e,u,v,k1,k2⟩;exact⟨e,u,v,(h a e u ha).2 k1,k2⟩
theorem SR{s:Sem}{n n':Bool}{p:Pie}(e:n=n')(h:Good x s n f S p):Good x s n' f S p:=e ▸ h
theorem Ri(a c:Nat):EpsR (CW a c [] []) a c:=⟨rfl,rfl,rfl,rfl,rfl⟩
theorem zdt(c:Int)(h:0<=c/\c<=1114111):valB ⟨0,0,21,0⟩ c=true/\valP ⟨0,0,21,0⟩ c=c:=by
 constructor
 ·show (Gd ⟨0,0,21,0⟩&&decide (0<=c/\c<=2097151))=true
  rw[show Gd ⟨0,0,21,0⟩=true from rfl,AE (by omega)];rfl
 ·show c / 1 % 2097152 * 1=c
  omega
theorem z7o{c:Int}(h:0<=c/\c<=1114111):IntKind.i32.wrap ((EH (Fw c) []).getD 0)=c:=by
 obtain⟨h1,h2⟩:=zdt c h
 have:EH (Fw c) []=some c:=by
  have e:EH (Fw c) []=if valB ⟨0,0,21,0⟩ c&&decide (c<=1114111) then some (IntKind.i64.wrap (0+valP ⟨0,0,21,0⟩ c)) else none:=rfl
  rw[e,h1,h2,AE (by omega),Bool.and_self,Ae rfl,FU,IntWalk.i64_in _ (by omega)]
 rw[this];exact IntWalk.i32_in c (by omega)
theorem z1d{w:List Int}(h:∀c∈w,0<=c/\c<=1114111)(a:Nat):FM x (w.map Fw) [] a=w:=by
 show List.map _ (w.map Fw)=w;rw[CH];refine (AT λc hc=>?_).trans (Gl w);exact z7o (h c hc)
theorem z7p:∀(n:Nat)(w:List Int)(f S:Nat),w.length<=n->(∀c∈w,0<=c/\c<=1114111)->f<S->Good x (wrS w) true f S (wrP n w f S)
 |0,w,f,S,hn,hw,hf=>by
  obtain rfl:w=[]:=Ay (by omega);exact N1 hf
 |n+1,w,f,S,hn,hw,hf=>by
  rw[wrP];split
  ·rename_i h0
   obtain rfl:w=[]:=Ay h0;exact N1 hf
  ·have h1:=Lr (x:=x) (f:=f) (S:=S) (CW f S [] ((w.take 64).map Fw)) hf rfl rfl (Ad _) (λh=>by cases h)
   have h2:=z7p n (w.drop 64) S (S+1) (by rw[List.length_drop];omega) (λc hc=>hw c (BF hc)) (Nat.lt_succ_self _);refine JD (λa e u ha=>?_) (N2 hf h1 h2);have hh:=z1d (x:=x) (w:=w.take 64) (λc hc=>hw c (B8 hc)) a;constructor
   ·rintro⟨e1,u1,u2,⟨_,k2,k3⟩,⟨k4,k5⟩,rfl⟩
    have k3:u1=FM x ((w.take 64).map Fw) [] a:=k3;have k2:e1=a:=k2;subst k2 k4;rw[k3,hh,k5];exact⟨rfl,Ck 64 w⟩
   ·rintro⟨rfl,rfl⟩
    refine⟨e,u.take 64,u.drop 64,⟨?_,rfl,hh.symm⟩,⟨rfl,rfl⟩,(Ck 64 u).symm⟩;show goB x [] e=true;simp[goB,ha]
theorem zk4{c:Int}(hc:-1073741824<=c/\c<=1073741824)(a e:Nat)(u:List Int):z6d x (CW f S [⟨c,c⟩] []) a e u↔symS x c a e u:=by
 have hr:CW (f:Nat) S [⟨c,c⟩] []=⟨f,S,[[⟨c,c⟩]],1,[]⟩:=rfl;rw[hr,z6d,symS];simp only[goB,List.length_singleton,Ac,Ah,List.range_one,List.all_cons,List.all_nil,Do,Nat.add_zero]
 have hh:hasI (nth [[(⟨c,c⟩:Span)]] 0) (nth x a)=true↔nth x a=c:=by
  show hasI [⟨c,c⟩] (nth x a)=true↔_;simp only[hasI,List.any_cons,List.any_nil,DX,Ac,Ah];omega
 rw[hh];constructor
 ·rintro⟨⟨h1,h2⟩,h3,h4⟩;exact⟨by omega,h2,h3,h4⟩
 ·rintro⟨h1,h2,h3,h4⟩;exact⟨⟨by omega,h2⟩,h3,h4⟩
theorem z7q:∀(r:List Int)(f S:Nat),(∀c∈r,0<=c/\c<=1114111)->f<S->Good x (rdS x r) (decide (r.length=0)) f S (rdP r f S)
 |[],f,S,hw,hf=>N1 hf
 |c::r,f,S,hw,hf=>by
  have h1:=Lr (x:=x) (f:=f) (S:=S) (CW f S [⟨c,c⟩] []) hf rfl rfl (Ad _) (λh=>Ad _);have h1:=JD (s':=symS x c) (λa e u _=>zk4 (by have:=hw c (by simp);omega) a e u) h1;have h2:=z7q r S (S+1) (λc hc=>hw c (by simp[hc])) (Nat.lt_succ_self _);exact SR (by rw[show Dk (CW (f:Nat) S [⟨c,c⟩] [])=false from rfl,Bp,List.length_cons];simp) (N2 hf h1 h2)
end
theorem JU{c:Int}(h:Dh 2 c=true):0<=c/\c<=1114111:=by
 simp only[Dh,Ah] at h;omega
theorem Lz{i:Int}{s:List Span}(h:EW i s=true):0<s.length:=by
 simp only[EW,Ac,AA,AQ] at h;omega
section
variable {x:List Int}
theorem Good.lt{s:Sem}{nl:Bool}{f S:Nat}{p:Pie}(h:Good x s nl f S p)(hf:f<S):p.2.2<p.2.1:=by
 have h1:=h.mono;rcases h.to_ with h2|h2
 ·omega
 ·exact h2.2
def zdu(x:List Int)(n:Rec):Prop:=∀f S,f<S->Good x (semR x n) (Ho n) f S (mkP n f S)
theorem N7:∀(l:List Rec),(∀n∈l,zdu x n)->∀f S,f<S->Good x (semC x l) (Ei l) f S (catP l f S)
 |[],_,f,S,hf=>N1 hf
 |n::l,h,f,S,hf=>by
  have h1:=h n (by simp) f S hf;rw[semC,Ei,catP];exact N2 hf h1 (N7 l (λm hm=>h m (by simp[hm])) _ _ (h1.lt hf))
theorem Vn:∀(l:List Rec),(∀n∈l,zdu x n)->∀f t S,f<t->t<S->AltG x (semA x l) (G7 l) f t S (altP l f t S).1 (altP l f t S).2
 |[],_,f,t,S,_,_=>by rw[altP];exact zjl
 |n::l,h,f,t,S,hf,ht=>by
  have h1:=h n (by simp) S (S+1) (Nat.lt_succ_self _);have hm:=h1.mono;rw[semA,G7,altP];exact zcq _ _ hf ht h1 (Ri _ _) (Ri _ _) (Vn l (λm hm=>h m (by simp[hm])) f t _ hf (by omega))
theorem F8:∀{l:List Rec}{d:Int},okL l d=true->∀n∈l,okR n d=true
 |a::l,d,h,n,hn=>by
  rw[okL,Ac] at h;rcases Af.1 hn with rfl|hn
  ·exact h.1
  ·exact F8 h.2 n hn
theorem L1(a c:Nat){s:List Span}(h:0<s.length)(out:List Term):CW a c s out=⟨a,c,[s],1,out⟩:=Ae h
theorem WQ(n:Rec):∀d,okR n d=true->zdu x n:=by
 refine Rec.ind (P:=λn=>∀d,okR n d=true->zdu x n) ?_ n;intro k s b r w l ih d h f S hf;rw[okR,Ac] at h;obtain⟨_,h⟩:=h;rw[mkP,semR,Ho];by_cases h1:k=1
 ·subst h1
  simp only[Int.reduceEq,↓reduceIte,or_self,Ap,BC,BD,Bm,Be,Bu,Ac,AA] at h ⊢;have hs:=Lz h.2.1;rw[L1 _ _ hs];exact JD (λa e u _=>Fy) (SR rfl (Lr (x:=x) ⟨f,S,[s],1,[cpyT b]⟩ hf rfl rfl (Ad _) (λ_=>Ad _)))
 by_cases h2:k=2
 ·subst h2
  simp only[Int.reduceEq,↓reduceIte,or_self,Ap,BC,BD,Bm,Be,Bu,Ac,AA] at h ⊢;have hs:=Lz h;rw[L1 _ _ hs];exact JD (λa e u _=>Fy) (SR rfl (Lr (x:=x) ⟨f,S,[s],1,[]⟩ hf rfl rfl (Ad _) (λ_=>Ad _)))
 by_cases h3:k=3
 ·subst h3
  simp only[Int.reduceEq,↓reduceIte,or_self,Ap,BC,BD,Bm,Be,Bu,Ac,AA] at h ⊢;rw[AP,AP] at h;have g1:=z7p (x:=x) w.length w f S (Ad _) (λc hc=>JU (h.2 c hc)) hf;have g2:=z7q (x:=x) r _ _ (λc hc=>JU (h.1 c hc)) (g1.lt hf);exact SR (by rw[AO]) (N2 hf g1 g2)
 by_cases h5:k=5
 ·subst h5
  simp only[Int.reduceEq,↓reduceIte,or_self,Ap,BC,BD,Bm,Be,Bu,Ac,AA] at h ⊢;exact zcr hf (Vn l (λn hn=>ih n hn _ (F8 h n hn)) f S (S+1) hf (Nat.lt_succ_self _))
 by_cases h6:k=6
 ·subst h6
  simp only[Int.reduceEq,↓reduceIte,or_self,Ap,BC,BD,Bm,Be,Bu,Ac,AA] at h ⊢;have hc:=N7 l (λn hn=>ih n hn _ (F8 h.1 n hn)) (S+1) (S+2) (Nat.lt_succ_self _);rw[h.2] at hc;exact z6f _ _ _ _ hf hc (Ri _ _) (Ri _ _) (Ri _ _) (Ri _ _)
 by_cases h4:k=4
 ·subst h4
  simp only[Int.reduceEq,↓reduceIte,or_self,Ap,BC,BD,Bm,Be,Bu,Ac,AA] at h ⊢;exact N7 l (λn hn=>ih n hn _ (F8 h n hn)) f S hf
 ·rw[Ab h1,Ab h2,Ab h3,Ab (by omega),Ab h6] at h
  cases h
end
def ExtS(st st':MSt):Prop:=st.1<=st'.1/\st.2.length<=st'.2.length
theorem ExtS.trans{a b c:MSt}(h:ExtS a b)(k:ExtS b c):ExtS a c:=⟨AJ h.1 k.1,AJ h.2 k.2⟩
theorem ExtS.refl(a:MSt):ExtS a a:=⟨Ad _,Ad _⟩
theorem I8(st:MSt)(a c:Nat)(s:List Span)(out:List Term):ExtS st (addR (newS st) a c s out):=by simp[ExtS,addR,newS]
theorem N8(st:MSt)(a c:Nat)(s:List Span)(out:List Term):ExtS st (addR st a c s out):=by simp[ExtS,addR]
theorem ExtS.full{a b:MSt}(h:ExtS a b)(hb:Gt b=false):Gt a=false:=by
 simp only[Gt,G6,Bool.or_eq_false_iff,AQ] at hb ⊢;obtain⟨h1,h2⟩:=h;omega
theorem z7r:∀(n:Nat)(w:List Int)(f:Nat)(st:MSt),ExtS st (wrR n w f st).1
 |0,w,f,st=>.refl _
 |n+1,w,f,st=>by
  rw[wrR];split
  ·exact .refl _
  ·exact (I8 st f st.1 [] _).trans (z7r n _ _ _)
theorem YS:∀(r:List Int)(f:Nat)(st:MSt),ExtS st (rdR r f st).1
 |[],f,st=>.refl _
 |x::r,f,st=>by
  rw[rdR];split
  ·exact .refl _
  ·exact (I8 st f st.1 [⟨x,x⟩] []).trans (YS r _ _)
theorem SS:∀(l:List Rec),(∀n∈l,∀f st,ExtS st (mkM n f st).1)->∀f st,ExtS st (catR l f st).1
 |[],_,f,st=>by rw[catR];exact .refl _
 |n::l,h,f,st=>by
  rw[catR];exact (h n (by simp) f st).trans (SS l (λm hm=>h m (by simp[hm])) _ _)
theorem WR:∀(l:List Rec),(∀n∈l,∀f st,ExtS st (mkM n f st).1)->∀f t st,ExtS st (altR l f t st)
 |[],_,f,t,st=>by rw[altR];exact .refl _
 |n::l,h,f,t,st=>by
  rw[altR];exact (((I8 st f st.1 [] []).trans (h n (by simp) _ _)).trans (N8 _ _ _ _ _)).trans (WR l (λm hm=>h m (by simp[hm])) _ _ _)
theorem z7s(n:Rec):∀f st,ExtS st (mkM n f st).1:=by
 refine Rec.ind (P:=λn=>∀f st,ExtS st (mkM n f st).1) ?_ n;intro k s b r w l ih f st;rw[mkM];split
 ·exact .refl _
 split
 ·exact I8 _ _ _ _ _
 split
 ·exact I8 _ _ _ _ _
 split
 ·exact (z7r _ _ _ _).trans (YS _ _ _)
 split
 ·exact ExtS.trans (show ExtS st (newS st) from ⟨Cr _,Ad _⟩) (WR l ih _ _ _)
 split
 ·exact ((((I8 st _ _ _ _).trans (I8 _ _ _ _ _)).trans (SS l ih _ _)).trans (N8 _ _ _ _ _)).trans (I8 _ _ _ _ _)
 ·exact SS l ih _ _
def isP(st:MSt)(p:Pie)(q:MSt × Nat):Prop:=q=((p.2.1,st.2++p.1),p.2.2)
theorem z7t:∀(n:Nat)(w:List Int)(f:Nat)(st:MSt),Gt (wrR n w f st).1=false->isP st (wrP n w f st.1) (wrR n w f st)
 |0,w,f,st,_=>by simp[isP,wrR,wrP]
 |n+1,w,f,st,h=>by
  have hs:=(z7r (n+1) w f st).full h;rw[wrR] at h ⊢;rw[wrP];by_cases h0:w.length=0
  ·rw[Ae h0,Ae (Or.inl h0)];simp[isP]
  ·have hn:¬(w.length=0\/Gt st=true):=by
    rintro (h1|h1)
    ·exact h0 h1
    ·rw[hs] at h1;cases h1
   rw[Ab hn] at h;rw[Ab h0,Ab hn];have:=z7t n _ _ _ h;rw[isP] at this ⊢;rw[this];simp[addR,newS]
theorem z7u:∀(r:List Int)(f:Nat)(st:MSt),Gt (rdR r f st).1=false->isP st (rdP r f st.1) (rdR r f st)
 |[],f,st,_=>by simp[isP,rdR,rdP]
 |x::r,f,st,h=>by
  have hs:=(YS (x::r) f st).full h;rw[rdR,Ab (by rw[hs];simp)] at h ⊢;rw[rdP];have:=z7u r _ _ h;rw[isP] at this ⊢;rw[this];simp[addR,newS]
def zdv(n:Rec):Prop:=∀f st,Gt (mkM n f st).1=false->isP st (mkP n f st.1) (mkM n f st)
theorem SU:∀(l:List Rec),(∀n∈l,zdv n)->∀f st,Gt (catR l f st).1=false->isP st (catP l f st.1) (catR l f st)
 |[],_,f,st,_=>by simp[isP,catR,catP]
 |n::l,h,f,st,hf=>by
  rw[catR] at hf ⊢;have h1:=h n (by simp) f st ((SS l (λm _=>z7s m) _ _).full hf);have h2:=SU l (λm hm=>h m (by simp[hm])) _ _ hf;rw[isP] at h1 h2 ⊢;rw[catP,h2,h1];simp[seqP]
theorem YT:∀(l:List Rec),(∀n∈l,zdv n)->∀f t st,Gt (altR l f t st)=false->altR l f t st=((altP l f t st.1).2,st.2++(altP l f t st.1).1)
 |[],_,f,t,st,_=>by simp[altR,altP]
 |n::l,h,f,t,st,hf=>by
  rw[altR] at hf ⊢;have h1:=h n (by simp) st.1 (addR (newS st) f st.1 [] []) (((N8 _ _ _ _ _).trans (WR l (λm _=>z7s m) _ _ _)).full hf);have h2:=YT l (λm hm=>h m (by simp[hm])) _ _ _ hf;rw[isP] at h1;rw[altP,h2,h1];simp[addR,newS]
theorem zk5(n:Rec):zdv n:=by
 refine Rec.ind (P:=zdv) ?_ n;intro k s b r w l ih f st h;have hs:=(z7s (.mk k s b r w l) f st).full h;rw[mkM,Ab (by rw[hs];simp)] at h ⊢;rw[mkP];by_cases h1:k=1
 ·rw[Ae h1,Ae h1];simp[isP,addR,newS]
 by_cases h2:k=2
 ·rw[Ab h1,Ae h2,Ab h1,Ae h2];simp[isP,addR,newS]
 rw[Ab h1,Ab h2] at h ⊢;rw[Ab h1,Ab h2];by_cases h3:k=3
 ·rw[Ae h3] at h ⊢
  rw[Ae h3];have k1:=z7t w.length w f st ((YS _ _ _).full h);have k2:=z7u r _ _ h;rw[isP] at k1 k2 ⊢;rw[k2,k1];simp[seqP]
 rw[Ab h3] at h ⊢;rw[Ab h3];by_cases h5:k=5
 ·rw[Ae h5] at h ⊢
  rw[Ae h5];have k1:=YT l ih f st.1 (newS st) h;rw[isP];simp only;rw[k1];rfl
 rw[Ab h5] at h ⊢;rw[Ab h5];by_cases h6:k=6
 ·rw[Ae h6] at h ⊢
  rw[Ae h6];have k1:=SU l ih (st.1+1) (addR (newS (addR (newS st) f st.1 [] [])) st.1 (st.1+1) [] []) (((N8 _ _ _ _ _).trans (I8 _ _ _ _ _)).full h);rw[isP] at k1 ⊢;simp only;rw[k1];simp[addR,newS,zk3]
 ·rw[Ab h6] at h ⊢
  rw[Ab h6];exact SU l ih f st h
structure CSt where
 i:Nat
 f:Nat
 S:Nat
 R:List Rule
 v:Nat
def Rj(n:Rec):Prop:=∀(f S:Nat)(R:List Rule)(v:Nat),S+8 * cntN n<=300000->R.length+8 * cntN n<=300000 ->
 B3 Tryz.prog 47 [.ptr 0 1 0 0,recV n,.int .i64 f] (Abs.hl (mkH S R v)) λy H'=>y=.int .i64 ((mkM n f (S,R)).2:Nat)/\∃v',H'=Abs.hl (mkH (mkM n f (S,R)).1.1 (mkM n f (S,R)).1.2 v')
theorem z7v(r:List Int)(s:List Span)(b:Int)(w:List Int)(l:List Rec)(f S:Nat)(R:List Rule)(v:Nat)(hf:EI (.mk 3 s b r w l))(hS:S+8 * cntN (.mk 3 s b r w l)<=300000)(hR:R.length+8 * cntN (.mk 3 s b r w l)<=300000):
 B3 Tryz.prog 47 [.ptr 0 1 0 0,recV (.mk 3 s b r w l),.int .i64 f] (Abs.hl (mkH S R v)) λy H'=>y=.int .i64 ((mkM (.mk 3 s b r w l) f (S,R)).2:Nat)/\∃v',H'=Abs.hl (mkH (mkM (.mk 3 s b r w l) f (S,R)).1.1 (mkM (.mk 3 s b r w l) f (S,R)).1.2 v'):=by
 cases hf with
 |mk hs hr hw hl hch =>
 rw[cntN] at hS hR;have ps:=BR s r w l;have hFu:=Fo S R v
 have e0:mkM (.mk 3 s b r w l) f (S,R)=if G6 S R=true then ((S,R),f) else rdR r (wrR w.length w f (S,R)).2 (wrR w.length w f (S,R)).1:=by
  rw[mkM,Ab (show ¬(3:Int)=1 by decide),Ab (show ¬(3:Int)=2 by decide),Ae rfl];rfl
 rw[Cv,e0];clear e0;refine DG (GD Dv (W_T ?_));unfold CS;cases hfu:G6 S R with
 |true =>
  rw[hfu] at hFu;rw[Ae rfl];unfold mkH at hFu ⊢;(with_reducible repeat'(first|simp(disch:=omega)only[push_cast,↓zz,seval,ps]|refine sp_ ?_ ?_<;>try(intro hc;push_cast at hc)|omega|intro _))
  (refine at_c [0,1] (hFu) (by decide) (by simp) (by refine⟨?_,?_,?_,?_⟩<;>(simp(disch:=omega)only[push_cast,↓zz,seval,Af,Ai,Ap,Av,AH,Ar,ps])) ?_)
  rintro y H' ⟨rfl,rfl⟩;refine⟨_,rfl,by simp,?_⟩;(with_reducible repeat'(first|simp(disch:=omega)only[push_cast,↓zz,seval,ps]|refine sp_ ?_ ?_<;>try(intro hc;push_cast at hc)|omega|intro _));exact⟨_,_,GV (l0:=mkH S R v) (gar:=[_]) rfl (Ad _) If trivial,rfl,v,rfl⟩
 |false =>
  rw[hfu] at hFu;rw[Ab (by simp)];have hWr:=UV w f S R v (by omega) hw.2 (by omega) (by omega);have hgr:=SQ w.length w f (S,R);simp only at hgr;generalize hT:wrR w.length w f (S,R)=T at *;obtain⟨⟨S1,R1⟩,f1⟩:=T;generalize hT2:rdR r f1 (S1,R1)=T2 at *;simp only at hWr hgr hT2 ⊢;obtain⟨⟨S2,R2⟩,f2⟩:=T2;unfold mkH at hFu hWr ⊢;(with_reducible repeat'(first|simp(disch:=omega)only[push_cast,↓zz,seval,ps]|refine sp_ ?_ ?_<;>try(intro hc;push_cast at hc)|omega|intro _))
  (refine at_c [0,1] (hFu) (by decide) (by simp) (by refine⟨?_,?_,?_,?_⟩<;>(simp(disch:=omega)only[push_cast,↓zz,seval,Af,Ai,Ap,Av,AH,Ar,ps])) ?_)
  rintro y H' ⟨rfl,rfl⟩;refine⟨_,rfl,by simp,?_⟩;(with_reducible repeat'(first|simp(disch:=omega)only[push_cast,↓zz,seval,ps]|refine sp_ ?_ ?_<;>try(intro hc;push_cast at hc)|omega|intro _))
  (refine at_c [0,1] (hWr) (by decide) (by simp) (by refine⟨?_,?_,?_,?_⟩<;>(simp(disch:=omega)only[push_cast,↓zz,seval,Af,Ai,Ap,Av,AH,Ar,ps])) ?_)
  rintro y H' ⟨rfl,v1,rfl⟩;refine⟨_,rfl,by simp,?_⟩;(with_reducible repeat'(first|simp(disch:=omega)only[push_cast,↓zz,seval,ps]|refine sp_ ?_ ?_<;>try(intro hc;push_cast at hc)|omega|intro _))
  refine Br (Bs (λ(q:CSt)=>q.i<=r.length/\rdR (r.drop q.i) q.f (q.S,q.R)=((S2,R2),f2)/\q.S+(r.length-q.i)<=300000/\q.R.length+(r.length-q.i)<=300000) (λq=>r.length-q.i)
   (λq=>[(0,.ptr 0 1 0 0),(2,.int .i64 q.f),(57,A6 r),(58,.int .i64 r.length),(59,.int .i64 q.i)]) (λq=>mkH q.S q.R q.v) (λ_ _=>[]) ⟨0,f1,S1,R1,v1⟩ ⟨Au _,hT2,by simp only;omega,by simp only;omega⟩ ?_ ?_)
  ·unfold mkH
   (with_reducible repeat'(first|simp(disch:=omega)only[push_cast,↓zz,seval,ps]|refine sp_ ?_ ?_<;>try(intro hc;push_cast at hc)|omega|intro _))
  rintro⟨i,f',S',R',v'⟩ ⟨hi,hk,hb1,hb2⟩;simp only at hi hk hb1 hb2 ⊢;rcases Ak i r.length with hir|hir
  ·rw[drop_at hir,rdR] at hk
   have hFu2:=Fo S' R' v';have hx:=hr.2 _ (AS hir);cases hfu2:G6 S' R' with
   |true =>
    rw[Ae (show Gt (S',R')=true from hfu2)] at hk;obtain⟨⟨rfl,rfl⟩,rfl⟩:(S'=S2/\R'=R2)/\f'=f2:=by simpa using hk
    rw[hfu2] at hFu2;generalize nth r i=x at *;unfold mkH at hFu2 ⊢;refine W_T ?_;(with_reducible repeat'(first|simp(disch:=omega)only[push_cast,↓zz,seval,ps]|refine sp_ ?_ ?_<;>try(intro hc;push_cast at hc)|omega|intro _))
    (refine at_c [0,1] (hFu2) (by decide) (by simp) (by refine⟨?_,?_,?_,?_⟩<;>(simp(disch:=omega)only[push_cast,↓zz,seval,Af,Ai,Ap,Av,AH,Ar,ps])) ?_)
    rintro y H' ⟨rfl,rfl⟩;refine⟨_,rfl,by simp,?_⟩;(with_reducible repeat'(first|simp(disch:=omega)only[push_cast,↓zz,seval,ps]|refine sp_ ?_ ?_<;>try(intro hc;push_cast at hc)|omega|intro _));exact⟨_,_,Ent.refl,rfl,v',rfl⟩
   |false =>
    rw[Ab (by rw[show Gt (S',R')=G6 S' R' from rfl,hfu2];simp)] at hk;rw[hfu2] at hFu2;have hSt:=EE S' R' v' (by omega);have hRu:=Pq (S'+1) R' v' f' S' [⟨nth r i,nth r i⟩] (by simp) (by omega);have w64:IntKind.i64.wrap (nth r i)=nth r i:=IntWalk.i64_in _ (by omega);generalize hxe:nth r i=x at *;unfold mkH at hFu2 hSt hRu ⊢;refine W_T ?_;(with_reducible repeat'(first|simp(disch:=omega)only[push_cast,↓zz,seval,ps,hxe]|refine sp_ ?_ ?_<;>try(intro hc;push_cast at hc)|omega|intro _))
    (refine at_c [0,1] (hFu2) (by decide) (by simp) (by refine⟨?_,?_,?_,?_⟩<;>(simp(disch:=omega)only[push_cast,↓zz,seval,Af,Ai,Ap,Av,AH,Ar,ps])) ?_)
    rintro y H' ⟨rfl,rfl⟩;refine⟨_,rfl,by simp,?_⟩;(with_reducible repeat'(first|simp(disch:=omega)only[push_cast,↓zz,seval,ps]|refine sp_ ?_ ?_<;>try(intro hc;push_cast at hc)|omega|intro _))
    (refine at_c [0,1] (hSt) (by decide) (by simp) (by refine⟨?_,?_,?_,?_⟩<;>(simp(disch:=omega)only[push_cast,↓zz,seval,Af,Ai,Ap,Av,AH,Ar,ps])) ?_)
    rintro y H' ⟨rfl,rfl⟩;refine⟨_,rfl,by simp,?_⟩;(with_reducible repeat'(first|simp(disch:=omega)only[push_cast,↓zz,seval,ps,w64,hxe]|refine sp_ ?_ ?_<;>try(intro hc;push_cast at hc)|omega|intro _));refine Vl (l':=[⟨6,1,true,[.agg [.int .i64 2,.int .i64 2,.int .i64 ((S':Int)+1),.int .i64 0,.ref 1 v' 0 R'.length,.nilS]]⟩,⟨5,v',false,R'.map Hp⟩,⟨0,2,false,[]⟩]) 3 2 2 1 1 (by decide) (by simp) rfl (by simp[Bh,AV.pure]) rfl rfl rfl ?_
    (refine at_c [0,1] (hRu) (by decide) (by simp) (by refine⟨?_,?_,?_,?_⟩<;>(simp(disch:=omega)only[push_cast,↓zz,seval,Af,Ai,Ap,Av,AH,Ar,ps,Hg,RF,List.set_cons_succ,List.set_cons_zero])) ?_)
    rintro y H' ⟨rfl,v2,rfl⟩;refine⟨_,rfl,by simp,?_⟩;(with_reducible repeat'(first|simp(disch:=omega)only[push_cast,↓zz,seval,ps]|refine sp_ ?_ ?_<;>try(intro hc;push_cast at hc)|omega|intro _))
    all_goals
     refine⟨⟨i+1,S',S'+1,R'++[CW f' S' [⟨x,x⟩] []],v2⟩,?_⟩;(with_reducible repeat'(first|simp(disch:=omega)only[push_cast,↓zz,seval,ps]|refine sp_ ?_ ?_<;>try(intro hc;push_cast at hc)|omega|intro _))
    all_goals first|exact hk|(simp;omega)
  ·obtain rfl:i=r.length:=by omega
   rw[List.drop_length,rdR] at hk;obtain⟨⟨rfl,rfl⟩,rfl⟩:(S'=S2/\R'=R2)/\f'=f2:=by simpa using hk
   unfold mkH;refine W_T ?_;(with_reducible repeat'(first|simp(disch:=omega)only[push_cast,↓zz,seval,ps]|refine sp_ ?_ ?_<;>try(intro hc;push_cast at hc)|omega|intro _));exact⟨_,_,Ent.refl,rfl,v',rfl⟩
end Go.Proofs.YtflibbceibjddaaGreat
