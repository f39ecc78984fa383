/-
  Parts of the proof that the law holds whatever the input; without conditions.
-/
import Derived.Shelf.SlSortCmp.Whole1
import Derived.Shelf.Small.Bits
import Derived.Ground.SlsfProg
import Derived.Ground.NamesProg
import Derived.Test.YtbcjoeadpjfcfaaGreatProg
import Derived.Test.YtbcjoeadpjfcfaaGreatTK6
import Derived.Test.YtbcjoeadpjfcfaaGreatTK5
import Derived.Test.YtbcjoeadpjfcfaaGreatTK4
set_option linter.unusedSimpArgs false
set_option linter.unusedVariables false
set_option maxRecDepth 100000
namespace Go.Proofs.YtbcjoeadpjfcfaaGreat
open Abs
def Iu{β:Type}[Inhabited β](fr:β->Int)(l:List β)(k:Nat)(s:Nat):List Nat:=(List.range k).filter λi=>decide (fr (nth l i)=(s:Int))
section
variable {β:Type}[Inhabited β]{fr:β->Int}{l:List β}
theorem N6(k s:Nat):(Iu fr l k s).length<=k:=by
 have:=Bt (λi=>decide (fr (nth l i)=(s:Int))) (List.range k);simpa [Iu] using this
theorem OX{k i:Nat}(hi:fr (nth l k)=i):Iu fr l (k+1)=setD (Iu fr l k) i (Iu fr l k i++[k]):=by
 funext s;simp only[Iu,D4,BZ,BG,List.filter_nil,hi,Ak,setD];by_cases e:s=i
 ·subst e;simp
 ·rw[Ah (by omega),Ah e];simp
end
def fiI(l:List FP)(s:Nat):List Nat:=Iu (·.from_) l l.length s
theorem z8c(l:List Rule):Iu (·.from_) l l.length=ruI l:=rfl
def bgL(d:Desc)(x:List Int)(R F:AV)(n:Nat)(T1 T2:Grp):List Grp:=[⟨1,1,true,[.ptr 1 1 0 0]⟩,⟨11,1,true,[rnB d x R F .nilS .nilS]⟩,T1,T2,⟨6,1,true,[Dh d]⟩]
def bgR(d:Desc)(x:List Int)(n k:Nat)(V:Nat->Nat):List Grp:=bgL d x (.ref 2 1 0 n) (.ref 3 1 0 n) n ⟨1,1,true,fT 5 n V (Iu (·.from_) d.rules k)⟩ ⟨1,1,true,List.replicate n .nilS⟩++fF 1 e1 n V (Iu (·.from_) d.rules k)
def bgF(d:Desc)(x:List Int)(n k:Nat)(V:Nat->Nat):List Grp:=bgL d x (ruV d.rules n) (.ref 3 1 0 n) n ⟨0,2,false,[]⟩ ⟨1,1,true,fT 5 n V (Iu (·.from_) d.finals k)⟩++fF 1 e1 n V (Iu (·.from_) d.finals k)
theorem Uj(d:Desc)(x:List Int)(n k:Nat)(V:Nat->Nat):(bgR d x n k V).length=n+5:=by simp[bgR,bgL,OR]
theorem Uk(d:Desc)(x:List Int)(n k:Nat)(V:Nat->Nat):(bgF d x n k V).length=n+5:=by simp[bgF,bgL,OR]
theorem HV{d:Desc}{x:List Int}{R F:AV}{n m:Nat}{T1 T2:Grp}(hm:5<=m)(hR:ltV m R)(hF:ltV m F)(h1:ltL m T1.xs)(h2:ltL m T2.xs):∀G∈bgL d x R F n T1 T2,ltL m G.xs:=λG hG=>by
 have q1:ltV m (F2 d.rules):=Cz _ _ (BS _);have q2:ltV m (FN d.finals):=Cz _ _ (BI _);have q3:ltV m (AX x):=Cz _ _ (BK .i32 _);simp only[bgL,Ag,Al,Ay] at hG;rcases hG with rfl|rfl|rfl|rfl|rfl
 ·exact⟨(show 1<m by omega),trivial⟩
 ·exact⟨⟨trivial,trivial,trivial,trivial,q1,q2,q3,hR,hF,trivial,trivial,trivial⟩,trivial⟩
 ·exact h1
 ·exact h2
 ·exact Dc _ _ (by simp[AY,HS])
theorem XX(d:Desc)(x:List Int)(n k:Nat)(V:Nat->Nat):∀G∈bgR d x n k V,ltL (bgR d x n k V).length G.xs:=λG hG=>by
 rw[Uj];rcases Au.1 hG with hG|hG
 ·have a1:ltV (n+5) (.ref 2 1 0 n):=show 2<n+5 by omega
  have a2:ltV (n+5) (.ref 3 1 0 n):=show 3<n+5 by omega
  exact HV (by omega) a1 a2 (z9z (by omega)) (Dc _ _ (IR n)) G hG
 ·exact za0 (λ_=>rfl) G hG
theorem XY(d:Desc)(x:List Int)(n k:Nat)(V:Nat->Nat):∀G∈bgF d x n k V,ltL (bgF d x n k V).length G.xs:=λG hG=>by
 rw[Uk];rcases Au.1 hG with hG|hG
 ·have a1:ltV (n+5) (ruV d.rules n):=Cz _ _ (show AY _=true from FZ λ_=>rfl)
  have a2:ltV (n+5) (.ref 3 1 0 n):=show 3<n+5 by omega
  exact HV (T1:=⟨0,2,false,[]⟩) (by omega) a1 a2 trivial (z9z (by omega)) G hG
 ·exact za0 (λ_=>rfl) G hG
theorem Wa{d:Desc}{x:List Int}{R F:AV}{n:Nat}{T1 T2:Grp}{Fm:List Grp}(hF:Fm.length=n)(t:Nat)(ht:t=2\/t=3):Fv 0 (fKs t 5 n) (bgL d x R F n T1 T2++Fm)=bgL d x R F n (if t=2 then T1.dead else T1) (if t=3 then T2.dead else T2)++Fm.map Grp.dead:=by
 have m0:(0:Nat)∉fKs t 5 n:=JR (by omega) (by omega);have m1:(1:Nat)∉fKs t 5 n:=JR (by omega) (by omega);have m4:(4:Nat)∉fKs t 5 n:=JR (by omega) (by omega)
 have hK:Fv 5 (fKs t 5 n) Fm=Fm.map Grp.dead:=z1t λj hj=>by
  rw[Cp];exact z1r (by omega)
 rw[Sn];have e5:0+(bgL d x R F n T1 T2).length=5:=rfl;rw[e5,hK,bgL,HC,HC,HC,HC,HC,UT,Ah m0,Ah m1,Ah m4];rcases ht with rfl|rfl
 ·rw[Ai (show (0+1+1:Nat)∈fKs 2 5 n by simp[fKs]),Ah (show (0+1+1+1:Nat)∉fKs 2 5 n from JR (by omega) (by omega))]
  rfl
 ·rw[Ah (show (0+1+1:Nat)∉fKs 3 5 n from JR (by omega) (by omega)),Ai (show (0+1+1+1:Nat)∈fKs 3 5 n by simp[fKs])]
  rfl
theorem XZ{m b:Nat}{env:Env}(d:Desc)(x:List Int)(n:Nat)(V:Nat->Nat):Ent m b env (Abs.hl (bgR d x n d.rules.length V)) env (Abs.hl (bgL d x (ruV d.rules n) (.ref 3 1 0 n) n ⟨0,2,false,[]⟩ ⟨1,1,true,List.replicate n .nilS⟩++(fF 1 e1 n V (ruI d.rules)).map Grp.dead)):=by
 have h1:(Abs.hl (bgR d x n d.rules.length V)).at_ 2=⟨1,1,true,fT 5 n V (ruI d.rules)⟩:=rfl
 have h2:∀i,i<n->(Abs.hl (bgR d x n d.rules.length V)).at_ (i+5)=gG 1 e1 (V i) (ruI d.rules i):=λi hi=>by
  rw[bgR,Dt,bgL];simp only[List.cons_append,List.nil_append,Dm];exact z7x hi
 obtain⟨f1,f2⟩:=z1s (w:=1) (e:=e1) (by decide) (λ_=>rfl) h1 h2;refine N2 (g:=1) (w:=11) (v:=1) (d:=2) (ex:=true) (xs:=[rnB d x (.ref 2 1 0 n) (.ref 3 1 0 n) .nilS .nilS]) (ys:=[rnB d x (ruV d.rules n) (.ref 3 1 0 n) .nilS .nilS]) (fKs 2 5 n) (by decide) (by rw[Uj];omega) rfl (JR (by decide) (by omega)) ?_ ?_
 ·refine⟨_,[],rfl,.inr ⟨_,_,rfl,rfl,?_⟩,rfl⟩
  refine⟨_,_,rfl,.inl rfl,_,_,rfl,.inl rfl,_,_,rfl,.inl rfl,_,_,rfl,.inl rfl,_,_,rfl,.inl rfl,_,_,rfl,.inl rfl,_,_,rfl,.inl rfl,_,_,rfl,.inr ⟨f1,f2.symm⟩,_,_,rfl,.inl rfl,_,_,rfl,.inl rfl,_,_,rfl,.inl rfl,rfl⟩
 ·rw[bgR,Wa OR 2 (.inl rfl),z8c]
  rfl
theorem Ya{m b:Nat}{env:Env}(d:Desc)(x:List Int)(n:Nat)(V:Nat->Nat):Ent m b env (Abs.hl (bgF d x n d.finals.length V)) env (Abs.hl (bgL d x (ruV d.rules n) (.lst 1 (fD 1 e1 n (fiI d.finals))) n ⟨0,2,false,[]⟩ ⟨0,2,false,[]⟩++(fF 1 e1 n V (fiI d.finals)).map Grp.dead)):=by
 have h1:(Abs.hl (bgF d x n d.finals.length V)).at_ 3=⟨1,1,true,fT 5 n V (fiI d.finals)⟩:=rfl
 have h2:∀i,i<n->(Abs.hl (bgF d x n d.finals.length V)).at_ (i+5)=gG 1 e1 (V i) (fiI d.finals i):=λi hi=>by
  rw[bgF,Dt,bgL];simp only[List.cons_append,List.nil_append,Dm];exact z7x hi
 obtain⟨f1,f2⟩:=z1s (w:=1) (e:=e1) (by decide) (λ_=>rfl) h1 h2;refine N2 (g:=1) (w:=11) (v:=1) (d:=2) (ex:=true) (xs:=[rnB d x (ruV d.rules n) (.ref 3 1 0 n) .nilS .nilS]) (ys:=[rnB d x (ruV d.rules n) (.lst 1 (fD 1 e1 n (fiI d.finals))) .nilS .nilS]) (fKs 3 5 n) (by decide) (by rw[Uk];omega) rfl (JR (by decide) (by omega)) ?_ ?_
 ·refine⟨_,[],rfl,.inr ⟨_,_,rfl,rfl,?_⟩,rfl⟩
  refine⟨_,_,rfl,.inl rfl,_,_,rfl,.inl rfl,_,_,rfl,.inl rfl,_,_,rfl,.inl rfl,_,_,rfl,.inl rfl,_,_,rfl,.inl rfl,_,_,rfl,.inl rfl,_,_,rfl,.inl rfl,_,_,rfl,.inr ⟨f1,f2.symm⟩,_,_,rfl,.inl rfl,_,_,rfl,.inl rfl,rfl⟩
 ·rw[bgF,Wa OR 3 (.inr rfl)]
  rfl
theorem za2(d:Desc)(x:List Int)(n k:Nat)(V:Nat->Nat):bgR d x n k V=⟨1,1,true,[.ptr 1 1 0 0]⟩::⟨11,1,true,[rnB d x (.ref 2 1 0 n) (.ref 3 1 0 n) .nilS .nilS]⟩::⟨1,1,true,fT 5 n V (Iu (·.from_) d.rules k)⟩::⟨1,1,true,List.replicate n .nilS⟩::⟨6,1,true,[Dh d]⟩::fF 1 e1 n V (Iu (·.from_) d.rules k):=rfl
theorem za3(d:Desc)(x:List Int)(n k:Nat)(V:Nat->Nat):bgF d x n k V=⟨1,1,true,[.ptr 1 1 0 0]⟩::⟨11,1,true,[rnB d x (ruV d.rules n) (.ref 3 1 0 n) .nilS .nilS]⟩::⟨0,2,false,[]⟩::⟨1,1,true,fT 5 n V (Iu (·.from_) d.finals k)⟩::⟨6,1,true,[Dh d]⟩::fF 1 e1 n V (Iu (·.from_) d.finals k):=rfl
def fiV(l:List FP)(n:Nat):AV:=.lst 1 (fD 1 e1 n (fiI l))
theorem zii(n:Nat):List.replicate n (AV.bool false)=spB n λ_=>false:=by
 refine BF (by simp[spB]) λi h1 h2=>?_;simp[spB]
theorem z8d{H:Aw}{g v:Nat}{l:List Nat}(h:H.at_ g=gG 1 e1 v l):D9 2 (H.only [g]) (.ref g v 0 l.length)/\frzV 2 (H.only [g]) (.ref g v 0 l.length)=.lst 1 (l.map e1):=by
 have hat:(H.only [g]).at_ g=gG 1 e1 v l:=by
  show (if g∈[g] then H.at_ g else (H.at_ g).dead)=_;rw[Ai (by simp),h]
 have htl:(((gG 1 e1 v l).xs.drop 0).take l.length)=l.map e1:=by
  rw[Cr];exact Ap (by simp[gG])
 have hp:AY (l.map e1)=true:=EJ (λ_=>rfl) _;constructor
 ·refine⟨by rw[hat];rfl,by rw[hat];exact Nat.one_pos,by rw[hat];simp[gG],?_⟩
  rw[hat,htl];exact (He _ 1 hp).1
 ·show AV.lst _ _=_
  rw[hat,htl];congr 1;exact (He _ 1 hp).2
def bgS(d:Desc)(x:List Int)(n v:Nat)(dn:Nat->Bool)(ord:List Nat):List Grp:=srtL d x n (fiV d.finals n) v dn ord++[⟨1,1,true,[.ptr 0 1 0 0]⟩,⟨6,1,true,[Dh d]⟩]
theorem Yb(d:Desc)(x:List Int)(n v:Nat)(dn:Nat->Bool)(ord:List Nat):∀G∈bgS d x n v dn ord,ltL 5 G.xs:=λG hG=>by
 rcases Au.1 hG with hG|hG
 ·have h1:ltV 5 (F2 d.rules):=Cz _ _ (BS _)
  have h2:ltV 5 (FN d.finals):=Cz _ _ (BI _);have h3:ltV 5 (AX x):=Cz _ _ (BK .i32 _);have h4:ltV 5 (ruV d.rules n):=Cz _ _ (FZ λ_=>rfl);have h5:ltV 5 (fiV d.finals n):=Cz _ _ (FZ λ_=>rfl);simp only[srtL,Ag,Al,Ay] at hG;rcases hG with rfl|rfl|rfl
  ·exact⟨⟨trivial,trivial,trivial,trivial,h1,h2,h3,h4,h5,(show 2<5 by omega),trivial,trivial⟩,trivial⟩
  ·exact Dc _ _ (Cf.2 λy hy=>by obtain⟨i,_,rfl⟩:=As.1 hy;rfl)
  ·exact Dc _ _ (EJ (λ_=>rfl) _)
 ·simp only[Ag,Al,Ay] at hG
  rcases hG with rfl|rfl
  ·exact⟨(show 0<5 by omega),trivial⟩
  ·exact Dc _ _ (by simp[AY,HS])
theorem Yc{m b:Nat}{env:Env}(d:Desc)(x:List Int)(n v:Nat)(dn:Nat->Bool)(ord:List Nat):Ent m b env (Abs.hl (bgS d x n v dn ord)) env (Abs.hl [⟨11,1,true,[rnB d x (ruV d.rules n) (fiV d.finals n) (.lst 1 (ord.map e1)) .nilS]⟩,⟨1,1,true,spB n dn⟩,(gG 1 e1 v ord).dead,⟨1,1,true,[.ptr 0 1 0 0]⟩,⟨6,1,true,[Dh d]⟩]):=by
 have h1:(Abs.hl (bgS d x n v dn ord)).at_ 2=gG 1 e1 v ord:=rfl;obtain⟨f1,f2⟩:=z8d h1;refine N2 (g:=0) (w:=11) (v:=1) (d:=2) (ex:=true) (xs:=[rnB d x (ruV d.rules n) (fiV d.finals n) (.ref 2 v 0 ord.length) .nilS]) (ys:=[rnB d x (ruV d.rules n) (fiV d.finals n) (.lst 1 (ord.map e1)) .nilS]) [2] (by decide) (by simp[bgS,srtL]) rfl (by decide) ?_ rfl;refine⟨_,[],rfl,.inr ⟨_,_,rfl,rfl,?_⟩,rfl⟩;exact⟨_,_,rfl,.inl rfl,_,_,rfl,.inl rfl,_,_,rfl,.inl rfl,_,_,rfl,.inl rfl,_,_,rfl,.inl rfl,_,_,rfl,.inl rfl,_,_,rfl,.inl rfl,_,_,rfl,.inl rfl,_,_,rfl,.inl rfl,_,_,rfl,.inr ⟨f1,f2.symm⟩,_,_,rfl,.inl rfl,rfl⟩
theorem z8e{y:AV}{l:List Grp}(d:Nat)(ks:List Nat)(hok:D9 d ((Abs.hl l).only ks) y){z:AV}(hz:frzV d ((Abs.hl l).only ks) y=z)(hp:z.pure=true):Ent 1 0 (λ_=>y) (Abs.hl l) (λ_=>z) (Abs.hl []):=by
 refine (Tm 0 d ks hok).trans ((Nx (H':=Abs.hl ([]++Fv 0 ks l)) ?_ ?_).trans ((JI (AI _) (λG hG=>by cases hG) λi hi=>?_).trans (Vx trivial λi hi=>?_)))
 ·simp[Abs.hl,Aw.kill,Hf]
 ·intro g hg
  show (Fv 0 ks l).getD g default=if g∈ks then (l.getD g default).dead else l.getD g default
  rw[Ke 0 ks l g hg,Bj]
 ·obtain rfl:i=0:=by omega
  show ltV 0 (if (0:Nat)=0 then frzV d ((Abs.hl l).only ks) y else y);rw[Ai rfl,hz];exact Cz _ _ hp
 ·obtain rfl:i=0:=by omega
  show leS [] (if (0:Nat)=0 then frzV d ((Abs.hl l).only ks) y else y) z;rw[Ai rfl,hz];exact Jg _ _
def bgV(d:Desc)(x:List Int)(n m:Nat)(ord:List Nat)(at_:Nat)(L:Nat->Nat->Bool):List Grp:=[⟨11,1,true,[rnB d x (ruV d.rules n) (fiV d.finals n) (.lst 1 (ord.map e1)) (.ref 3 1 0 m)]⟩,⟨1,1,true,[.ptr 0 1 0 0]⟩,⟨6,1,true,[Dh d]⟩,⟨1,1,true,lvB n m L⟩,⟨1,1,true,[.int .i64 at_]⟩]
theorem z2f(d:Desc)(x:List Int){n:Nat}(hdn:d.states=n)(hn:n<=1024)(hrl:d.rules.length<=4096)(hfl:d.finals.length<=4096)(hs:0<=d.start/\d.start<n)(hgo:Goes d n)(hcy:¬cycP d.rules n)(hlf:∀r∈d.finals,0<=r.from_/\r.from_<n)(hxl:x.length<=1024)(h32:∀v∈x,-2147483648<=v/\v<=2147483647)
 (hgb:∀r∈d.rules,(r.guards.length<=1000000/\∀g∈r.guards,g.length<=1000000)/\0<=r.eat/\r.eat<=1000000) :
 BN Tryz.prog 60 [Dh d,AX x] (Abs.hl []) λy H'=>H'=Abs.hl []/\∃ord L,y=E4 d x (ruV d.rules n) (fiV d.finals n) (.lst 1 (ord.map e1)) (.lst 1 (lvB n ((x.length+1) * n) L))/\Topo d.rules n ord/\LivE d x n L:=by
 have pR:=BS d.rules;have pFi:=BI d.finals;have pX:AY (x.map (AV.int .i32))=true:=BK .i32 _;have pN:=IR n;have hl:∀r∈d.rules,0<=r.from_/\r.from_<n:=λr hr=>(hgo.r r hr).1;have hl2:∀r∈d.rules,(0<=r.from_/\r.from_<n)/\0<=r.to_/\r.to_<n:=λr hr=>⟨(hgo.r r hr).1,(hgo.r r hr).2.1⟩;refine Jq (Mr To (W_T ?_));unfold MF;(with_reducible repeat'(first|(simp(disch:=omega)only[push_cast,↓zz,seval,pR,pFi,hdn])|refine Aa ?_ ?_|(first|refine Ac ?_ ?_|refine Ab ?_ ?_)<;>intro hc<;>(try simp only[push_cast] at hc)|omega|intro _));refine P6 [1,2,3,4] [1,1,11,1] [none,none,none,none,some 1,none,none,some 2,none,some 3,some 4] (by simp) (by decide) ?_;(with_reducible repeat'(first|(simp(disch:=omega)only[push_cast,↓zz,seval,yy,Ag,Al,Ay,Bn,B6,Ax,B3,B2,pR,pFi,pX,hdn])|refine Aa ?_ ?_|(first|refine Ac ?_ ?_|refine Ab ?_ ?_)<;>intro hc<;>(try simp only[push_cast] at hc)|omega|intro _))
 refine Bu (Oj (srcs:=[.grp 4,.grp 3,.grp 1,.grp 2,.grp 0]) (live:=[(1,AX x),(2,.ptr 4 1 0 0),(5,.ptr 0 1 0 0),(29,F2 d.rules),(30,.int .i64 d.rules.length),(31,.int .i64 0)])
  (heap:=bgL d x (.ref 2 1 0 n) (.ref 3 1 0 n) n ⟨1,1,true,List.replicate n .nilS⟩ ⟨1,1,true,List.replicate n .nilS⟩) ?_ (NK (z1q (α:=Nat) (w:=1) (e:=e1) (n:=n) (t:=2) (by decide) (by simp[bgL]) rfl) ?_))
 ·unfold bgL rnB
  (with_reducible repeat'(first|(simp(disch:=omega)only[push_cast,↓zz,seval,pR,pFi,pX,hdn,pN])|refine Aa ?_ ?_|(first|refine Ac ?_ ?_|refine Ab ?_ ?_)<;>intro hc<;>(try simp only[push_cast] at hc)|omega|intro _))
 refine I9 (λ(q:Nat × (Nat->Nat))=>q.1<=d.rules.length) (λq=>d.rules.length-q.1)
  (λq=>Er [(1,AX x),(2,.ptr 4 1 0 0),(5,.ptr 0 1 0 0),(29,F2 d.rules),(30,.int .i64 d.rules.length),(31,.int .i64 q.1)]) (λq=>Abs.hl (bgR d x n q.1 q.2)) (0,λ_=>1) (by simp) Ent.refl ?_
 rintro⟨k,V⟩ hk;simp only at hk ⊢;rcases Am k d.rules.length with hkl|hkl
 ·have hr:=hl _ (BA hkl)
  have hsu:=λi=>OX (fr:=λ(r:Rule)=>r.from_) (l:=d.rules) (k:=k) (i:=i);generalize hre:nth d.rules k=r at *;have hgr:=AO r.guards;have hot:=Co r.out;obtain⟨i,hi⟩:∃i:Nat,r.from_=i:=⟨r.from_.toNat,by omega⟩;have hin:i<n:=by omega
  obtain⟨D,hD⟩:∃D,D=Iu (λ(r:Rule)=>r.from_) d.rules k:=⟨_,rfl⟩;have hFl:(fF 1 e1 n V D).length=n:=OR;have hTl:(fT 5 n V D).length=n:=z9v;have gI:∀G,(fF 1 e1 n V D++[G]).getD i default=gG 1 e1 (V i) (D i):=λG=>by rw[z9y hFl hin];exact z7x hin
  have gR:∀G,(fF 1 e1 n V D++[G]).getD n default=G:=λG=>by rw[Mf hFl];rfl
  have sR:∀G G',setQ (fF 1 e1 n V D++[G]) n G'=some (fF 1 e1 n V D++[G']):=λG G'=>by rw[Sm _ _ hFl];rfl
  have tI:(fT 5 n V D).getD i .any=.ref (i+5) (V i) 0 (D i).length:=zig hin;have sI:∀G G',setQ (fF 1 e1 n V D++[G]) i G'=some ((fF 1 e1 n V D).set i G'++[G]):=λG G'=>Ub (by omega);have gR2:∀G G',((fF 1 e1 n V D).set i G'++[G]).getD n default=G:=λG G'=>by rw[Mf (by rw[Ey];exact hFl)];rfl
  have hSB:∀R G,Dd 5 [i+5] (fF 1 e1 n V D++[R]) ((fF 1 e1 n V D).set i G++[R]):=λR G=>VV (by omega) (by simp;omega);have hEx:=zeb (e:=e1) (D i);have hel:(D i).length<=k:=by rw[hD];exact N6 k i
  have eT:(fT 5 n V D).set i (.ref (i+5) (V i+1) 0 ((D i).length+1))=fT 5 n (setV V i (V i+1)) (setD D i (D i++[k])):=by
   have:=z9w (o:=5) (V:=V) (D:=D) (l:=D i++[k]) hin
   rwa [Ao] at this
  have eF:(fF 1 e1 n V D).set i ⟨1,V i+1,false,(D i).map e1++[.int .i64 k]⟩=fF 1 e1 n (setV V i (V i+1)) (setD D i (D i++[k])):=by
   have:=z9x (V:=V) (D:=D) (w:=1) (e:=e1) (l:=D i++[k]) (by simp) hin;rw[A9] at this;exact this
  have hsu:=hsu i hi;rw[<-hD] at hsu;rw[za2,<-hD];unfold rnB;have hni:¬n=i:=by omega
  simp only[gG] at gI;refine W_T ?_;(with_reducible repeat'(first|(simp(disch:=omega)only[push_cast,↓zz,seval,xx,Ag,Al,Ay,Bn,B6,Ax,B3,B2,pR,pFi,pX,hdn,hre,hi,hgr,hot,hFl,hTl,gI,gR,sR,tI,sI,gR2,hEx,hni])|refine Aa ?_ ?_|(first|refine Ac ?_ ?_|refine Ab ?_ ?_)<;>intro hc<;>(try simp only[push_cast] at hc)|refine Du [i+5] ?_|omega|intro _))
  ·exact hSB _ _
  refine⟨(k+1,setV V i (V i+1)),Gp (gar:=[⟨5,1,true,[.agg [.int .i64 i,.int .i64 r.to_,Bg r.guards,.int .i64 r.eat,E5 r.out]]⟩]) _ ?_ (AI _) (XX _ _ _ _ _) ?_,by simp only;omega,by simp only;omega⟩
  ·rw[za2,hsu,<-eT,<-eF]
   unfold rnB;rw[hdn];rfl
  ·have hRv:ltV (n+5) (F2 d.rules):=Cz _ _ pR
   have hXv:ltV (n+5) (AX x):=Cz _ _ pX;rw[Uj];exact⟨rfl,hXv,rfl,(show 4<n+5 by omega),rfl,(show 0<n+5 by omega),rfl,hRv,rfl,trivial,rfl,trivial,trivial⟩
 obtain rfl:k=d.rules.length:=by omega
 have cl1:∀G∈bgL d x (ruV d.rules n) (.ref 3 1 0 n) n ⟨0,2,false,[]⟩ ⟨1,1,true,List.replicate n .nilS⟩,ltL 5 G.xs:=HV (by omega) (Cz _ _ (show AY _=true from FZ λ_=>rfl)) (show 3<5 by omega) trivial (Dc _ _ pN);refine NK ((XZ d x n V).trans (Gp (l0:=bgL d x (ruV d.rules n) (.ref 3 1 0 n) n ⟨0,2,false,[]⟩ ⟨1,1,true,List.replicate n .nilS⟩) [(1,AX x),(2,.ptr 4 1 0 0),(5,.ptr 0 1 0 0),(29,F2 d.rules),(30,.int .i64 d.rules.length),(31,.int .i64 d.rules.length)] rfl (AI _) cl1 ?_)) ?_
 ·have hRv:ltV 5 (F2 d.rules):=Cz _ _ pR
  have hXv:ltV 5 (AX x):=Cz _ _ pX;exact⟨rfl,hXv,rfl,(show 4<5 by omega),rfl,(show 0<5 by omega),rfl,hRv,rfl,trivial,rfl,trivial,trivial⟩
 clear cl1 V;unfold bgL rnB;refine W_T ?_;(with_reducible repeat'(first|(simp(disch:=omega)only[push_cast,↓zz,seval,pR,pFi,pX,hdn])|refine Aa ?_ ?_|(first|refine Ac ?_ ?_|refine Ab ?_ ?_)<;>intro hc<;>(try simp only[push_cast] at hc)|omega|intro _));have cl2:∀G∈bgL d x (ruV d.rules n) (.ref 3 1 0 n) n ⟨0,2,false,[]⟩ ⟨1,1,true,List.replicate n .nilS⟩,ltL 5 G.xs:=HV (by omega) (Cz _ _ (show AY _=true from FZ λ_=>rfl)) (show 3<5 by omega) trivial (Dc _ _ pN);refine Bu (NK ((Gp (l0:=bgL d x (ruV d.rules n) (.ref 3 1 0 n) n ⟨0,2,false,[]⟩ ⟨1,1,true,List.replicate n .nilS⟩) (gar:=[]) [(1,AX x),(2,.ptr 4 1 0 0),(5,.ptr 0 1 0 0),(56,FN d.finals),(57,.int .i64 d.finals.length),(58,.int .i64 0)] ?_ (AI _) cl2 ?_).trans (z1q (α:=Nat) (w:=1) (e:=e1) (n:=n) (t:=3) (by decide) (by simp[bgL]) rfl)) ?_)
 ·unfold bgL rnB
  rw[hdn];rfl
 ·have hFv:ltV 5 (FN d.finals):=Cz _ _ pFi
  have hXv:ltV 5 (AX x):=Cz _ _ pX;exact⟨rfl,hXv,rfl,(show 4<5 by omega),rfl,(show 0<5 by omega),rfl,hFv,rfl,trivial,rfl,trivial,trivial⟩
 clear cl2
 refine I9 (λ(q:Nat × (Nat->Nat))=>q.1<=d.finals.length) (λq=>d.finals.length-q.1)
  (λq=>Er [(1,AX x),(2,.ptr 4 1 0 0),(5,.ptr 0 1 0 0),(56,FN d.finals),(57,.int .i64 d.finals.length),(58,.int .i64 q.1)]) (λq=>Abs.hl (bgF d x n q.1 q.2)) (0,λ_=>1) (by simp) Ent.refl ?_
 rintro⟨k,V⟩ hk;simp only at hk ⊢;rcases Am k d.finals.length with hkl|hkl
 ·have hr:=hlf _ (BA hkl)
  have hsu:=λi=>OX (fr:=λ(r:FP)=>r.from_) (l:=d.finals) (k:=k) (i:=i);generalize hre:nth d.finals k=r at *;have hgr:=AO r.guards;have hot:=Co r.out;obtain⟨i,hi⟩:∃i:Nat,r.from_=i:=⟨r.from_.toNat,by omega⟩;have hin:i<n:=by omega
  obtain⟨D,hD⟩:∃D,D=Iu (λ(r:FP)=>r.from_) d.finals k:=⟨_,rfl⟩;have hFl:(fF 1 e1 n V D).length=n:=OR;have hTl:(fT 5 n V D).length=n:=z9v;have gI:∀G,(fF 1 e1 n V D++[G]).getD i default=gG 1 e1 (V i) (D i):=λG=>by rw[z9y hFl hin];exact z7x hin
  have gR:∀G,(fF 1 e1 n V D++[G]).getD n default=G:=λG=>by rw[Mf hFl];rfl
  have sR:∀G G',setQ (fF 1 e1 n V D++[G]) n G'=some (fF 1 e1 n V D++[G']):=λG G'=>by rw[Sm _ _ hFl];rfl
  have tI:(fT 5 n V D).getD i .any=.ref (i+5) (V i) 0 (D i).length:=zig hin;have sI:∀G G',setQ (fF 1 e1 n V D++[G]) i G'=some ((fF 1 e1 n V D).set i G'++[G]):=λG G'=>Ub (by omega);have gR2:∀G G',((fF 1 e1 n V D).set i G'++[G]).getD n default=G:=λG G'=>by rw[Mf (by rw[Ey];exact hFl)];rfl
  have hSB:∀R G,Dd 5 [i+5] (fF 1 e1 n V D++[R]) ((fF 1 e1 n V D).set i G++[R]):=λR G=>VV (by omega) (by simp;omega);have hEx:=zeb (e:=e1) (D i);have hel:(D i).length<=k:=by rw[hD];exact N6 k i
  have eT:(fT 5 n V D).set i (.ref (i+5) (V i+1) 0 ((D i).length+1))=fT 5 n (setV V i (V i+1)) (setD D i (D i++[k])):=by
   have:=z9w (o:=5) (V:=V) (D:=D) (l:=D i++[k]) hin
   rwa [Ao] at this
  have eF:(fF 1 e1 n V D).set i ⟨1,V i+1,false,(D i).map e1++[.int .i64 k]⟩=fF 1 e1 n (setV V i (V i+1)) (setD D i (D i++[k])):=by
   have:=z9x (V:=V) (D:=D) (w:=1) (e:=e1) (l:=D i++[k]) (by simp) hin;rw[A9] at this;exact this
  have hsu:=hsu i hi;rw[<-hD] at hsu;rw[za3,<-hD];unfold rnB;have hni:¬n=i:=by omega
  simp only[gG] at gI;refine W_T ?_;(with_reducible repeat'(first|(simp(disch:=omega)only[push_cast,↓zz,seval,xx,Ag,Al,Ay,Bn,B6,Ax,B3,B2,pR,pFi,pX,hdn,hre,hi,hgr,hot,hFl,hTl,gI,gR,sR,tI,sI,gR2,hEx,hni])|refine Aa ?_ ?_|(first|refine Ac ?_ ?_|refine Ab ?_ ?_)<;>intro hc<;>(try simp only[push_cast] at hc)|refine Du [i+5] ?_|omega|intro _))
  ·exact hSB _ _
  refine⟨(k+1,setV V i (V i+1)),Gp (gar:=[⟨3,1,true,[.agg [.int .i64 i,Bg r.guards,E5 r.out]]⟩]) _ ?_ (AI _) (XY _ _ _ _ _) ?_,by simp only;omega,by simp only;omega⟩
  ·rw[za3,hsu,<-eT,<-eF]
   unfold rnB;rw[hdn];rfl
  ·have hFv:ltV (n+5) (FN d.finals):=Cz _ _ pFi
   have hXv:ltV (n+5) (AX x):=Cz _ _ pX;rw[Uk];exact⟨rfl,hXv,rfl,(show 4<n+5 by omega),rfl,(show 0<n+5 by omega),rfl,hFv,rfl,trivial,rfl,trivial,trivial⟩
 obtain rfl:k=d.finals.length:=by omega
 have cl1:∀G∈bgL d x (ruV d.rules n) (fiV d.finals n) n ⟨0,2,false,[]⟩ ⟨0,2,false,[]⟩,ltL 5 G.xs:=HV (by omega) (Cz _ _ (show AY _=true from FZ λ_=>rfl)) (Cz _ _ (show AY _=true from FZ λ_=>rfl)) trivial trivial;refine NK ((Ya d x n V).trans (Gp (l0:=bgL d x (ruV d.rules n) (fiV d.finals n) n ⟨0,2,false,[]⟩ ⟨0,2,false,[]⟩) [(1,AX x),(2,.ptr 4 1 0 0),(5,.ptr 0 1 0 0),(56,FN d.finals),(57,.int .i64 d.finals.length),(58,.int .i64 d.finals.length)] rfl (AI _) cl1 ?_)) ?_
 ·have hFv:ltV 5 (FN d.finals):=Cz _ _ pFi
  have hXv:ltV 5 (AX x):=Cz _ _ pX;exact⟨rfl,hXv,rfl,(show 4<5 by omega),rfl,(show 0<5 by omega),rfl,hFv,rfl,trivial,rfl,trivial,trivial⟩
 clear cl1 V;unfold bgL rnB;have pB:∀on,AY (spB n on)=true:=λon=>Cf.2 λy hy=>by obtain⟨i,_,rfl⟩:=As.1 hy;rfl
 have pRU:AY (fD 1 e1 n (ruI d.rules))=true:=FZ λ_=>rfl;have pFI:AY (fD 1 e1 n (fiI d.finals))=true:=FZ λ_=>rfl;have pFIv:(fiV d.finals n).pure=true:=pFI;refine W_T ?_;(with_reducible repeat'(first|(simp(disch:=omega)only[push_cast,↓zz,seval,pR,pFi,pX,hdn])|refine Aa ?_ ?_|(first|refine Ac ?_ ?_|refine Ab ?_ ?_)<;>intro hc<;>(try simp only[push_cast] at hc)|omega|intro _))
 refine Bu (Oj (srcs:=[.grp 1,.grp 5,.virt 1,.grp 0,.grp 4]) (live:=[(1,AX x),(2,.ptr 4 1 0 0),(5,.ptr 3 1 0 0),(10,.ref 1 1 0 n),(86,.int .i64 n),(87,.int .i64 0)])
  (heap:=bgS d x n 1 (λ_=>false) []) ?_ ?_)
 ·unfold bgS srtL rnB ruV fiV gG
  (with_reducible repeat'(first|(simp(disch:=omega)only[push_cast,↓zz,seval,pR,pFi,pX,hdn,pB,zii,pRU,pFI,List.length_nil,Bw])|refine Aa ?_ ?_|(first|refine Ac ?_ ?_|refine Ab ?_ ?_)<;>intro hc<;>(try simp only[push_cast] at hc)|omega|intro _))
 refine I9 (λ(q:Nat × Nat × (Nat->Bool) × List Nat)=>q.1<=n/\Hold (OW d.rules n q.1 q.2.2.1 q.2.2.2)) (λq=>n-q.1)
  (λq=>Er [(1,AX x),(2,.ptr 4 1 0 0),(5,.ptr 3 1 0 0),(10,.ref 1 1 0 n),(86,.int .i64 n),(87,.int .i64 q.1)]) (λq=>Abs.hl (bgS d x n q.2.1 q.2.2.1 q.2.2.2)) (0,1,(λ_=>false),[]) ⟨AI _,⟨Uf _ _⟩⟩ Ent.refl ?_
 rintro⟨k,v,dn,ord⟩ ⟨hk,⟨hA⟩⟩;simp only at hk hA ⊢;have hXv:ltV 5 (AX x):=Cz _ _ pX;rcases Am k n with hkn|hkn
 ·have hS:=z82 d x hn hrl hl2 hcy (fiV d.finals n) pFIv (IQ dn n) k v dn ord (Ae _) hkn (XV hA)
  rw[bgS,srtL];refine W_T ?_;(with_reducible repeat'(first|(simp(disch:=omega)only[push_cast,↓zz,seval])|refine Aa ?_ ?_|(first|refine Ac ?_ ?_|refine Ab ?_ ?_)<;>intro hc<;>(try simp only[push_cast] at hc)|omega|intro _));refine z1u (l0:=srtL d x n (fiV d.finals n) v dn ord) (extra:=[⟨1,1,true,[.ptr 0 1 0 0]⟩,⟨6,1,true,[Dh d]⟩]) rfl hS ?_ (FC d x n _ pFIv _ _ _) ?_
  ·exact⟨(show 0<3 by omega),trivial,(show 1<3 by omega),trivial⟩
  rintro y H' ⟨v2,dn2,new,rfl,rfl,hpost⟩;refine⟨_,rfl,rfl,trivial,FC d x n _ pFIv _ _ _,?_⟩;have hA2:=Ug hA hpost;(with_reducible repeat'(first|(simp(disch:=omega)only[push_cast,↓zz,seval])|refine Aa ?_ ?_|(first|refine Ac ?_ ?_|refine Ab ?_ ?_)<;>intro hc<;>(try simp only[push_cast] at hc)|omega|intro _));refine⟨(k+1,v2,dn2,ord++new),Gp (gar:=[]) _ (AH _).symm (AI _) (Yb d x n _ _ _) ?_,⟨by omega,⟨hA2⟩⟩,by simp only;omega⟩;exact⟨rfl,hXv,rfl,(show 4<5 by omega),rfl,(show 3<5 by omega),rfl,(show 1<5 by omega),rfl,trivial,rfl,trivial,trivial⟩
 obtain rfl:k=n:=by omega
 have hT:=Uh hA
 refine NK (Yc d x k v dn ord) (Oj (srcs:=[.grp 0,.grp 3,.grp 4]) (live:=[(1,AX x),(2,.ptr 2 1 0 0),(5,.ptr 1 1 0 0),(86,.int .i64 k),(87,.int .i64 k)])
  (heap:=[⟨11,1,true,[rnB d x (ruV d.rules k) (fiV d.finals k) (.lst 1 (ord.map e1)) .nilS]⟩,⟨1,1,true,[.ptr 0 1 0 0]⟩,⟨6,1,true,[Dh d]⟩]) ?_ ?_)
 ·have pO:AY (ord.map e1)=true:=EJ (λ_=>rfl) _
  unfold rnB ruV fiV;(with_reducible repeat'(first|(simp(disch:=omega)only[push_cast,↓zz,seval,pR,pFi,pX,hdn,pRU,pFI,pO])|refine Aa ?_ ?_|(first|refine Ac ?_ ?_|refine Ab ?_ ?_)<;>intro hc<;>(try simp only[push_cast] at hc)|omega|intro _))
 have pO:AY (ord.map e1)=true:=EJ (λ_=>rfl) _;have hmx:(x.length+1) * k<=1025 * 1024:=C8 (by omega) hn;obtain⟨m,hm⟩:∃m,m=(x.length+1) * k:=⟨_,rfl⟩;have hmi:((x.length:Int)+1) * (k:Int)=(m:Int):=by rw[hm];norm_cast
 rw[<-hm] at hmx;obtain⟨s0,hs0⟩:∃s0:Nat,d.start=s0:=⟨d.start.toNat,by omega⟩
 have hsm:s0<m:=by
  have:=GQ (a:=0) (k:=x.length) (t:=s0) (n:=k) (by omega) (AI _);rw[hm];omega
 have hst:(List.replicate m (AV.bool false)).set s0 (.bool true)=lvB k m (setP (λ_ _=>false) 0 s0 true):=by
  have:=z1w (n:=k) (m:=m) (a:=0) (t:=s0) (L:=λ_ _=>false) (v:=true) (by omega) (by omega);rw[Fu,Bj,<-z83] at this;exact this
 have pLv:∀L,AY (lvB k m L)=true:=λL=>Mg;unfold rnB;refine W_T ?_;(with_reducible repeat'(first|(simp(disch:=omega)only[push_cast,↓zz,seval,pR,pFi,pX,hdn,hmi,hs0,hst,pLv,List.length_replicate])|refine Aa ?_ ?_|(first|refine Ac ?_ ?_|refine Ab ?_ ?_)<;>intro hc<;>(try simp only[push_cast] at hc)|omega|intro _));have hstn:d.start.toNat=s0:=by omega
 refine Bu (B5 (λ(q:Nat × (Nat->Nat->Bool))=>q.1<=x.length+1/\Hold (Liv d x k ord q.1 0 q.2)) (λq=>x.length+1-q.1)
  (λq=>[(1,AX x),(2,.ptr 2 1 0 0),(5,.ptr 1 1 0 0),(12,.ptr 4 1 0 0)]) (λq=>bgV d x k m ord q.1 q.2) (λenv _=>[.grp 0,.grp 1,.grp 2,.grp 3,Cc 1 (env 12)]) (0,setP (λ_ _=>false) 0 d.start.toNat true) ⟨AI _,⟨z84 hs (EW hT)⟩⟩ ?_ ?_)
 ·unfold bgV rnB ruV fiV
  (with_reducible repeat'(first|(simp(disch:=omega)only[push_cast,↓zz,seval,pR,pFi,pX,hdn,hs0,hstn,pLv,pRU,pFI,pO,Int.toNat_natCast])|refine Aa ?_ ?_|(first|refine Ac ?_ ?_|refine Ab ?_ ?_)<;>intro hc<;>(try simp only[push_cast] at hc)|omega|intro _))
 rintro⟨at_,L⟩ ⟨ha,⟨hI⟩⟩;simp only at ha hI ⊢;have hol:=EW hT;rcases Am at_ (x.length+1) with hal|hal
 ·have hB:=N5 ord (by omega)
  have hit:=z2e ord (by omega);unfold bgV rnB ruV fiV;refine W_T ?_;(with_reducible repeat'(first|(simp(disch:=omega)only[push_cast,↓zz,seval,pR,pFi,pX,hdn,pLv,pRU,pFI,pO])|refine Aa ?_ ?_|(first|refine Ac ?_ ?_|refine Ab ?_ ?_)<;>intro hc<;>(try simp only[push_cast] at hc)|refine eK hB ?_|refine eQ hB ?_|refine eG hB ?_|((first|refine cK hB ?_|refine cQ hB ?_|refine cG hB ?_);(simp(disch:=omega)only[push_cast,↓zz,seval,pR,pFi,pX,hdn,pLv,pRU,pFI,pO]);(fail_if_success change False))|omega|intro _))
  refine Px (UY (σ:=Nat->Nat->Bool) (λj L=>Hold (Liv d x k ord at_ j L)) [(1,AX x),(2,.ptr 2 1 0 0),(5,.ptr 1 1 0 0),(12,.ptr 4 1 0 0),(122,.fn 134 [.cptr (.lst 1 (ord.map e1))])] (λL=>bgV d x k m ord at_ L)
   [.grp 0,.grp 1,.grp 2,.grp 3,.grp 4] 5 L hit ?_ (λ_=>rfl) rfl ?_ rfl rfl (XW _) (z2d _) (by simp) ⟨hI⟩ ?_ ?_)
  ·unfold bgV rnB ruV fiV
   (with_reducible repeat'(first|(simp(disch:=omega)only[push_cast,↓zz,seval,pR,pFi,pX,hdn,pLv,pRU,pFI,pO])|refine Aa ?_ ?_|(first|refine Ac ?_ ?_|refine Ab ?_ ?_)<;>intro hc<;>(try simp only[push_cast] at hc)|omega|intro _))
  ·(with_reducible repeat'(first|(simp(disch:=omega)only[push_cast,↓zz,seval,pO])|refine Aa ?_ ?_|(first|refine Ac ?_ ?_|refine Ab ?_ ?_)<;>intro hc<;>(try simp only[push_cast] at hc)|omega|intro _))
  ·rintro j row L hrow ⟨hI⟩
   obtain⟨hj,rfl⟩:=z2c hrow;clear hrow hit;have hjk:j<k:=by omega
   obtain⟨s,hse⟩:∃s,s=nth ord (k-1-j):=⟨_,rfl⟩;have hsn:s<k:=(hT.all _).1 (by rw[hse];exact BA (by omega));rw[hol,<-hse,show e1 s=AV.int .i64 ((s:Nat):Int) from rfl];have hat:at_<=x.length:=by omega
   have hpm:=GQ hsn hat;rw[<-hm] at hpm;have aL:∀L,(lvB k m L).getD (at_ * k+s) .any=.bool (L at_ s):=λL=>za1 hsn hpm;have lL:∀L,(lvB k m L).length=m:=λL=>JS;have hmul:(at_:Int) * (k:Int)=((at_ * k:Nat):Int):=by norm_cast
   have hmulb:at_ * k<=1024 * 1024:=C8 (by omega) hn
   have hset:∀L e t,at_+e<=x.length->t<k->(lvB k m L).set ((at_+e) * k+t) (.bool true)=lvB k m (setP L (at_+e) t true)/\(at_+e) * k+t<m:=λL e t he htk=>by
    have:=GQ htk he;rw[<-hm] at this;exact⟨z1w htk this,this⟩
   generalize hpe:at_ * k+s=p at *;generalize at_ * k=an at *;have hpi:(an:Int)+(s:Int)=(p:Int):=by omega
   have aLv:=aL L;have aR:(fD 1 e1 k (ruI d.rules)).getD s .any=.lst 1 ((ruI d.rules s).map e1):=z7y hsn;have aR2:(fD 1 e1 k (ruI d.rules))[s]? = some (.lst 1 ((ruI d.rules s).map e1)):=VT hsn;have lRU:(fD 1 e1 k (ruI d.rules)).length=k:=VS;have pRI:AY ((ruI d.rules s).map e1)=true:=EJ (λ_=>rfl) _;refine W_T ?_;(with_reducible repeat'(first|(simp(disch:=omega)only[push_cast,↓zz,seval])|refine Aa ?_ ?_|(first|refine Ac ?_ ?_|refine Ab ?_ ?_)<;>intro hc<;>(try simp only[push_cast] at hc)|omega|intro _));unfold bgV rnB ruV fiV;refine W_T ?_;cases hLs:L at_ s with
   |false =>
    rw[hLs] at aLv;(with_reducible repeat'(first|(simp(disch:=omega)only[push_cast,↓zz,seval,pR,pFi,pX,hdn,pLv,lL,pRU,pFI,pO,hmul,hpi,aLv,aR,aR2,lRU,pRI])|refine Aa ?_ ?_|(first|refine Ac ?_ ?_|refine Ab ?_ ?_)<;>intro hc<;>(try simp only[push_cast] at hc)|omega|intro _));exact⟨L,BY _ _,⟨z87 hI hT hjk hse hLs⟩⟩
   |true =>
    rw[hLs] at aLv;(with_reducible repeat'(first|(simp(disch:=omega)only[push_cast,↓zz,seval,pR,pFi,pX,hdn,pLv,lL,pRU,pFI,pO,hmul,hpi,aLv,aR,aR2,lRU,pRI])|refine Aa ?_ ?_|(first|refine Ac ?_ ?_|refine Ab ?_ ?_)<;>intro hc<;>(try simp only[push_cast] at hc)|omega|intro _))
    refine Bu (B5 (λ(q:Nat × (Nat->Nat->Bool))=>q.1<=(ruI d.rules s).length/\Hold (LivS d x k ord at_ j s q.1 q.2)) (λq=>(ruI d.rules s).length-q.1)
     (λq=>[(1,AX x),(2,.ptr 2 1 0 0),(5,.ptr 1 1 0 0),(12,.ptr 4 1 0 0),(144,.lst 1 ((ruI d.rules s).map e1)),(145,.int .i64 (ruI d.rules s).length),(146,.int .i64 q.1)]) (λq=>bgV d x k m ord at_ q.2) (λ_ _=>[]) (0,L) ⟨AI _,⟨z1x hI hLs⟩⟩ ?_ ?_)
    ·unfold bgV rnB ruV fiV
     (with_reducible repeat'(first|(simp(disch:=omega)only[push_cast,↓zz,seval,pR,pFi,pX,hdn,pLv,pRU,pFI,pO,pRI])|refine Aa ?_ ?_|(first|refine Ac ?_ ?_|refine Ab ?_ ?_)<;>intro hc<;>(try simp only[push_cast] at hc)|omega|intro _))
    rintro⟨i0,L2⟩ ⟨hi0,⟨hI2⟩⟩;simp only at hi0 hI2 ⊢;unfold bgV rnB ruV fiV;have hIl:=Uc d.rules s;rcases Am i0 (ruI d.rules s).length with hil|hil
    ·obtain⟨i,hi⟩:∃i,i=nth (ruI d.rules s) i0:=⟨_,rfl⟩
     have him:i∈ruI d.rules s:=by rw[hi];exact BA hil
     obtain⟨i1,i2⟩:=H5.1 him;have aI:((ruI d.rules s).map e1).getD i0 .any=.int .i64 i:=by rw[hi];simp[nth,List.getD,hil]
     have hr:=BA i1;obtain⟨hg1,hg2⟩:=hgb _ hr;obtain⟨_,htt,_,_⟩:=hgo.r _ hr;have hF:=Qm d x (.lst 1 (fD 1 e1 k (ruI d.rules))) (.lst 1 (fD 1 e1 k (fiI d.finals))) (.lst 1 (ord.map e1)) (.lst 1 (lvB k m L2)) (nth d.rules i).guards at_ pRU pFI pO (pLv L2) (by omega) h32 hg1.2 hg1.1 (by omega);simp only[E4,hdn] at hF;have hyes:=λhg=>z85 hI2 hgo hT hjk hse hil hg;have hno:=λhg=>zeg hI2 (k:=i0) hg;rw[<-hi] at hyes hno;have tL:List.take m (lvB k m L2)=lvB k m L2:=Ap (by rw[JS];exact Ae _);generalize hre:nth d.rules i=r at *;have hgr:=AO r.guards;have hot:=Co r.out;obtain⟨e,he⟩:∃e:Nat,r.eat=e:=⟨r.eat.toNat,by omega⟩;obtain⟨t,htq⟩:∃t:Nat,r.to_=t:=⟨r.to_.toNat,by omega⟩;have het:r.eat.toNat=e:=by omega
     have htt2:r.to_.toNat=t:=by omega
     rw[het,htt2] at hyes;cases hb:goB x r.guards at_ with
     |false =>
      rw[hb] at hF;have hno:=hno hb;refine W_T ?_;(with_reducible repeat'(first|(simp(disch:=omega)only[push_cast,↓zz,seval,pR,pFi,pX,hdn,pLv,lL,pRU,pFI,pO,pRI,aI,hre,hgr,hot,tL])|refine Aa ?_ ?_|(first|refine Ac ?_ ?_|refine Ab ?_ ?_)<;>intro hc<;>(try simp only[push_cast] at hc)|refine eK hF ?_|refine eQ hF ?_|refine eG hF ?_|((first|refine cK hF ?_|refine cQ hF ?_|refine cG hF ?_);(simp(disch:=omega)only[push_cast,↓zz,seval,pR,pFi,pX,hdn,pLv,lL,pRU,pFI,pO,pRI,aI,hre,hgr,hot,tL]);(fail_if_success change False))|omega|intro _));exact⟨(i0+1,L2),⟨by simp,BY _ _⟩,⟨by omega,⟨hno⟩⟩,by simp only;omega⟩
     |true =>
      rw[hb] at hF;have hyes:=hyes hb;have hle:=K3 hb;have hge:=(hgo.r _ hr).2.2.1;rw[het] at hge;obtain⟨hs1,hs2⟩:=hset L2 e t (by omega) (by omega);have hae:(at_:Int)+(e:Int)=((at_+e:Nat):Int):=by norm_cast
      have hmul2:((at_+e:Nat):Int) * (k:Int)=(((at_+e) * k:Nat):Int):=by norm_cast
      have hmulb2:(at_+e) * k<=1024 * 1024:=C8 (by omega) hn;generalize hpe2:(at_+e) * k+t=p2 at *;generalize (at_+e) * k=an2 at *;have hpi2:(an2:Int)+(t:Int)=(p2:Int):=by omega
      generalize hbe:at_+e=b2 at *;refine W_T ?_;(with_reducible repeat'(first|(simp(disch:=omega)only[push_cast,↓zz,seval,pR,pFi,pX,hdn,pLv,lL,pRU,pFI,pO,pRI,aI,hre,hgr,hot,tL,he,htq,hae,hmul2,hpi2,hs1])|refine Aa ?_ ?_|(first|refine Ac ?_ ?_|refine Ab ?_ ?_)<;>intro hc<;>(try simp only[push_cast] at hc)|refine eK hF ?_|refine eQ hF ?_|refine eG hF ?_|((first|refine cK hF ?_|refine cQ hF ?_|refine cG hF ?_);(simp(disch:=omega)only[push_cast,↓zz,seval,pR,pFi,pX,hdn,pLv,lL,pRU,pFI,pO,pRI,aI,hre,hgr,hot,tL,he,htq,hae,hmul2,hpi2,hs1]);(fail_if_success change False))|omega|intro _));exact⟨(i0+1,setP L2 b2 t true),⟨by simp,BY _ _⟩,⟨by omega,⟨hyes⟩⟩,by simp only;omega⟩
    ·obtain rfl:i0=(ruI d.rules s).length:=by omega
     have hend:=z86 hI2 hT hjk hse;refine W_T ?_;(with_reducible repeat'(first|(simp(disch:=omega)only[push_cast,↓zz,seval,pR,pFi,pX,hdn,pLv,lL,pRU,pFI,pO,pRI])|refine Aa ?_ ?_|(first|refine Ac ?_ ?_|refine Ab ?_ ?_)<;>intro hc<;>(try simp only[push_cast] at hc)|omega|intro _));exact⟨L2,BY _ _,⟨hend⟩⟩
  ·rintro L ⟨hI⟩
   rw[N4,hol] at hI;have hI2:=zeh hI hT;unfold bgV rnB ruV fiV;(with_reducible repeat'(first|(simp(disch:=omega)only[push_cast,↓zz,seval,pR,pFi,pX,hdn,pLv,pRU,pFI,pO])|refine Aa ?_ ?_|(first|refine Ac ?_ ?_|refine Ab ?_ ?_)<;>intro hc<;>(try simp only[push_cast] at hc)|omega|intro _));refine⟨(at_+1,L),⟨BY _ _,by simp⟩,⟨by omega,⟨hI2⟩⟩,by simp only;omega⟩
 ·obtain rfl:at_=x.length+1:=by omega
  have hE:=zei hI;have tL:∀L,List.take m (lvB k m L)=lvB k m L:=λL=>Ap (by rw[JS];exact Ae _);unfold bgV rnB ruV fiV;refine W_T ?_;(with_reducible repeat'(first|(simp(disch:=omega)only[push_cast,↓zz,seval,pR,pFi,pX,hdn,pLv,pRU,pFI,pO])|refine Aa ?_ ?_|(first|refine Ac ?_ ?_|refine Ab ?_ ?_)<;>intro hc<;>(try simp only[push_cast] at hc)|omega|intro _));refine⟨_,_,z8e 4 [0,3] (z:=E4 d x (ruV d.rules k) (fiV d.finals k) (.lst 1 (ord.map e1)) (.lst 1 (lvB k m L))) ?_ ?_ ?_,rfl,ord,L,?_,hT,hE⟩
  ·(simp(disch:=omega)only[push_cast,↓zz,seval,pR,pFi,pX,pLv,pRU,pFI,pO,JS,tL])
  ·(simp(disch:=omega)only[push_cast,↓zz,seval,pR,pFi,pX,pLv,pRU,pFI,pO,JS,tL])
   have e:(k:Int)=d.states:=hdn.symm;rw[e];rfl
  ·simp[AV.pure,AY,pR,pFi,pX,pLv,pRU,pFI,pO,ruV,fiV]
  ·rw[hm];rfl
set_option maxRecDepth 100000
def Et:List Int->List Int->Nat
 |[],_=>0
 |_,[]=>0
 |a::l,b::m=>if a=b then Et l m+1 else 0
def cmpL:List Int->List Int->Int
 |[],[]=>0
 |[],_::_=>-1
 |_::_,[]=>1
 |a::l,b::m=>if a<b then -1 else if b<a then 1 else cmpL l m
theorem Wb:∀a b:List Int,Et a b<=a.length/\Et a b<=b.length
 |[],_=>by simp[Et]
 |_::_,[]=>by simp[Et]
 |a::l,b::m=>by
  have:=Wb l m;simp only[Et];split<;>simp<;>omega
theorem Yd{a b:List Int}{k:Nat}(h1:k<a.length)(h2:k<b.length)(he:nth a k=nth b k):Et (a.drop k) (b.drop k)=Et (a.drop (k+1)) (b.drop (k+1))+1:=by
 rw[drop_at h1,drop_at h2,Et,Ai he]
theorem Ye{a b:List Int}{k:Nat}(h:¬(k<a.length/\k<b.length/\nth a k=nth b k)):Et (a.drop k) (b.drop k)=0:=by
 by_cases h1:k<a.length
 ·by_cases h2:k<b.length
  ·rw[drop_at h1,drop_at h2,Et,Ah λe=>h ⟨h1,h2,e⟩]
  ·rw[Az (l:=b) (by omega)]
   cases a.drop k<;>rfl
 ·rw[Az (l:=a) (by omega)];rfl
theorem Sv:∀a b:List Int,cmpL a b=if Et a b=a.length/\Et a b=b.length then 0 else if Et a b=a.length then -1 else if Et a b=b.length then 1 else if nth a (Et a b)<nth b (Et a b) then -1 else if nth b (Et a b)<nth a (Et a b) then 1 else 0
 |[],[]=>rfl
 |[],_::_=>by simp[cmpL,Et]
 |_::_,[]=>by simp[cmpL,Et]
 |a::l,b::m=>by
  by_cases e:a=b
  ·subst e
   have h1:Et (a::l) (a::m)=Et l m+1:=by rw[Et,Ai rfl]
   have h2:cmpL (a::l) (a::m)=cmpL l m:=by rw[cmpL,Ah (Int.lt_irrefl _),Ah (Int.lt_irrefl _)]
   rw[h1,h2,Sv l m];simp only[List.length_cons,Nat.add_right_cancel_iff,z5b];rfl
  ·have h1:Et (a::l) (b::m)=0:=by rw[Et,Ah e]
   have n1:¬(0=l.length+1):=by omega
   have n2:¬(0=m.length+1):=by omega
   rw[h1,cmpL];rw[List.length_cons,List.length_cons,Ah (show ¬(0=l.length+1/\0=m.length+1) from λh=>n1 h.1),Ah n1,Ah n2];by_cases h2:a<b
   ·rw[Ai h2,Ai (show nth (a::l) 0<nth (b::m) 0 from h2)]
   ·have h3:b<a:=by omega
    rw[Ah h2,Ah (show ¬nth (a::l) 0<nth (b::m) 0 from h2),Ai h3,Ai (show nth (b::m) 0<nth (a::l) 0 from h3)]
theorem Yf(a b:List Int)(hl:a.length<=1000000000):PC Tryz.prog 114 [AX a,AX b] (.int .i64 (Et a b)):=by
 have pa:AY (a.map (AV.int .i32))=true:=BK .i32 _;have pb:AY (b.map (AV.int .i32))=true:=BK .i32 _;refine BH R7 ?_;unfold Lu;(with_reducible repeat'(first|(simp(disch:=omega)only[push_cast,↓zz,seval])|refine Aa ?_ ?_|(first|refine Ac ?_ ?_|refine Ab ?_ ?_)<;>intro hc<;>(try simp only[push_cast] at hc)|omega|intro _))
 refine Bu (B5 (λ(k:Nat)=>k<=a.length/\Et a b=k+Et (a.drop k) (b.drop k)) (λk=>a.length-k)
  (λk=>[(0,AX a),(1,AX b),(5,.int .i64 k)]) (λs=>[]) (λenv _=>[]) 0 (by simp) ?_ ?_)
 ·(with_reducible repeat'(first|(simp(disch:=omega)only[push_cast,↓zz,seval,pa,pb])|refine Aa ?_ ?_|(first|refine Ac ?_ ?_|refine Ab ?_ ?_)<;>intro hc<;>(try simp only[push_cast] at hc)|omega|intro _))
 rintro k ⟨hk,hr⟩;refine W_T ?_;by_cases h:k<a.length/\k<b.length/\nth a k=nth b k
 ·obtain⟨h1,h2,h3⟩:=h
  have hs:=Yd h1 h2 h3;(with_reducible repeat'(first|(simp(disch:=omega)only[push_cast,↓zz,seval,pa,pb,h3])|refine Aa ?_ ?_|(first|refine Ac ?_ ?_|refine Ab ?_ ?_)<;>intro hc<;>(try simp only[push_cast] at hc)|omega|intro _))
  all_goals
   refine⟨k+1,?_⟩;(with_reducible repeat'(first|(simp(disch:=omega)only[push_cast,↓zz,seval,pa,pb])|refine Aa ?_ ?_|(first|refine Ac ?_ ?_|refine Ab ?_ ?_)<;>intro hc<;>(try simp only[push_cast] at hc)|omega|intro _))
 ·have hs:=Ye h
  rw[hs] at hr;by_cases h1:k<a.length
  ·by_cases h2:k<b.length
   ·have h3:¬nth a k=nth b k:=λe=>h ⟨h1,h2,e⟩
    (with_reducible repeat'(first|(simp(disch:=omega)only[push_cast,↓zz,seval,pa,pb,h3])|refine Aa ?_ ?_|(first|refine Ac ?_ ?_|refine Ab ?_ ?_)<;>intro hc<;>(try simp only[push_cast] at hc)|omega|intro _))
    all_goals first|omega|trace_state
   ·(with_reducible repeat'(first|(simp(disch:=omega)only[push_cast,↓zz,seval,pa,pb])|refine Aa ?_ ?_|(first|refine Ac ?_ ?_|refine Ab ?_ ?_)<;>intro hc<;>(try simp only[push_cast] at hc)|omega|intro _))
    all_goals first|omega|trace_state
  ·(with_reducible repeat'(first|(simp(disch:=omega)only[push_cast,↓zz,seval,pa,pb])|refine Aa ?_ ?_|(first|refine Ac ?_ ?_|refine Ab ?_ ?_)<;>intro hc<;>(try simp only[push_cast] at hc)|omega|intro _))
   all_goals first|omega|trace_state
theorem Sw(x:Int):PC Tryz.prog 144 [.int .i32 x] (.bool false):=by
 refine BH LO ?_;unfold Iw;(with_reducible repeat'(first|(simp(disch:=omega)only[push_cast,↓zz,seval])|refine Aa ?_ ?_|(first|refine Ac ?_ ?_|refine Ab ?_ ?_)<;>intro hc<;>(try simp only[push_cast] at hc)|omega|intro _))
 all_goals trace_state
theorem z8f(x y:Int):PC Tryz.prog 115 [.int .i32 x,.int .i32 y] (.int .i64 (if x<y then -1 else if y<x then 1 else 0)):=by
 have hx:=Sw x;have hy:=Sw y;refine BH Km ?_;unfold Hr;by_cases h1:x<y
 ·rw[Ai h1]
  (with_reducible repeat'(first|(simp(disch:=omega)only[push_cast,↓zz,seval,h1])|refine Aa ?_ ?_|(first|refine Ac ?_ ?_|refine Ab ?_ ?_)<;>intro hc<;>(try simp only[push_cast] at hc)|refine eK hx ?_|refine eQ hx ?_|refine eG hx ?_|refine eK hy ?_|refine eQ hy ?_|refine eG hy ?_|((first|refine cK hx ?_|refine cQ hx ?_|refine cG hx ?_|refine cK hy ?_|refine cQ hy ?_|refine cG hy ?_);(simp(disch:=omega)only[push_cast,↓zz,seval,h1]);(fail_if_success change False))|omega|intro _))
 ·rw[Ah h1]
  by_cases h2:y<x
  ·rw[Ai h2]
   (with_reducible repeat'(first|(simp(disch:=omega)only[push_cast,↓zz,seval,h1,h2])|refine Aa ?_ ?_|(first|refine Ac ?_ ?_|refine Ab ?_ ?_)<;>intro hc<;>(try simp only[push_cast] at hc)|refine eK hx ?_|refine eQ hx ?_|refine eG hx ?_|refine eK hy ?_|refine eQ hy ?_|refine eG hy ?_|((first|refine cK hx ?_|refine cQ hx ?_|refine cG hx ?_|refine cK hy ?_|refine cQ hy ?_|refine cG hy ?_);(simp(disch:=omega)only[push_cast,↓zz,seval,h1,h2]);(fail_if_success change False))|omega|intro _))
  ·rw[Ah h2]
   (with_reducible repeat'(first|(simp(disch:=omega)only[push_cast,↓zz,seval,h1,h2])|refine Aa ?_ ?_|(first|refine Ac ?_ ?_|refine Ab ?_ ?_)<;>intro hc<;>(try simp only[push_cast] at hc)|refine eK hx ?_|refine eQ hx ?_|refine eG hx ?_|refine eK hy ?_|refine eQ hy ?_|refine eG hy ?_|((first|refine cK hx ?_|refine cQ hx ?_|refine cG hx ?_|refine cK hy ?_|refine cQ hy ?_|refine cG hy ?_);(simp(disch:=omega)only[push_cast,↓zz,seval,h1,h2]);(fail_if_success change False))|omega|intro _))
   all_goals trace_state
theorem LI(a b:List Int)(ha:a.length<=1000000000)(hb:b.length<=1000000000):PC Tryz.prog 77 [AX a,AX b] (.int .i64 (cmpL a b)):=by
 have pa:AY (a.map (AV.int .i32))=true:=BK .i32 _;have pb:AY (b.map (AV.int .i32))=true:=BK .i32 _;have hF:=Yf a b ha;have hfl:=Wb a b;have hC:=z8f (nth a (Et a b)) (nth b (Et a b));rw[Sv];generalize hf:Et a b=f at *;refine BH NL ?_;unfold Jy;by_cases h1:f=a.length
 ·by_cases h2:f=b.length
  ·rw[Ai ⟨h1,h2⟩]
   (with_reducible repeat'(first|(simp(disch:=omega)only[push_cast,↓zz,seval,pa,pb])|refine Aa ?_ ?_|(first|refine Ac ?_ ?_|refine Ab ?_ ?_)<;>intro hc<;>(try simp only[push_cast] at hc)|refine eK hF ?_|refine eQ hF ?_|refine eG hF ?_|((first|refine cK hF ?_|refine cQ hF ?_|refine cG hF ?_);(simp(disch:=omega)only[push_cast,↓zz,seval,pa,pb]);(fail_if_success change False))|omega|intro _))
   all_goals first|omega|trace_state
  ·rw[Ah (λh=>h2 h.2),Ai h1]
   (with_reducible repeat'(first|(simp(disch:=omega)only[push_cast,↓zz,seval,pa,pb])|refine Aa ?_ ?_|(first|refine Ac ?_ ?_|refine Ab ?_ ?_)<;>intro hc<;>(try simp only[push_cast] at hc)|refine eK hF ?_|refine eQ hF ?_|refine eG hF ?_|((first|refine cK hF ?_|refine cQ hF ?_|refine cG hF ?_);(simp(disch:=omega)only[push_cast,↓zz,seval,pa,pb]);(fail_if_success change False))|omega|intro _))
   all_goals first|omega|trace_state
 ·rw[Ah (λh=>h1 h.1),Ah h1]
  by_cases h2:f=b.length
  ·rw[Ai h2]
   (with_reducible repeat'(first|(simp(disch:=omega)only[push_cast,↓zz,seval,pa,pb])|refine Aa ?_ ?_|(first|refine Ac ?_ ?_|refine Ab ?_ ?_)<;>intro hc<;>(try simp only[push_cast] at hc)|refine eK hF ?_|refine eQ hF ?_|refine eG hF ?_|((first|refine cK hF ?_|refine cQ hF ?_|refine cG hF ?_);(simp(disch:=omega)only[push_cast,↓zz,seval,pa,pb]);(fail_if_success change False))|omega|intro _))
   all_goals first|omega|trace_state
  ·rw[Ah h2]
   (with_reducible repeat'(first|(simp(disch:=omega)only[push_cast,↓zz,seval,pa,pb])|refine Aa ?_ ?_|(first|refine Ac ?_ ?_|refine Ab ?_ ?_)<;>intro hc<;>(try simp only[push_cast] at hc)|refine eK hF ?_|refine eQ hF ?_|refine eG hF ?_|refine eK hC ?_|refine eQ hC ?_|refine eG hC ?_|((first|refine cK hF ?_|refine cQ hF ?_|refine cG hF ?_|refine cK hC ?_|refine cQ hC ?_|refine cG hC ?_);(simp(disch:=omega)only[push_cast,↓zz,seval,pa,pb]);(fail_if_success change False))|omega|intro _))
   all_goals first|omega|trace_state
set_option maxRecDepth 100000
theorem Wc:∀a b:List Int,cmpL a b=0↔a=b
 |[],[]=>by simp[cmpL]
 |[],_::_=>by simp[cmpL]
 |_::_,[]=>by simp[cmpL]
 |a::l,b::m=>by
  simp only[cmpL,Fi];by_cases h1:a<b
  ·rw[Ai h1];constructor
   ·intro h;cases h
   ·intro h;omega
  ·rw[Ah h1]
   by_cases h2:b<a
   ·rw[Ai h2];constructor
    ·intro h;cases h
    ·intro h;omega
   ·rw[Ah h2,Wc l m]
    have:a=b:=by omega
    simp[this]
theorem z2g:∀a b:List Int,cmpL a b<0↔ltW a b=true
 |[],[]=>by simp[cmpL,ltW]
 |[],_::_=>by simp[cmpL,ltW]
 |_::_,[]=>by simp[cmpL,ltW]
 |a::l,b::m=>by
  simp only[cmpL,ltW];by_cases h1:a<b
  ·rw[Ai h1,Ai h1];simp
  ·rw[Ah h1,Ah h1]
   by_cases h2:b<a
   ·rw[Ai h2,Ai h2];simp
   ·rw[Ah h2,Ah h2];exact z2g l m
theorem z2h(a b:List Int)(ha:a.length<=1000000000)(hb:b.length<=1000000000):PC Tryz.prog 109 [AX a,AX b] (.bool (decide (a=b))):=by
 have hC:=LI a b ha hb;have hz:decide (cmpL a b=0)=decide (a=b):=Ep.2 (Wc a b);refine BH PK ?_;unfold Kl;rw[<-hz];generalize cmpL a b=c at *;(with_reducible repeat'(first|(simp(disch:=omega)only[push_cast,↓zz,seval])|refine Aa ?_ ?_|(first|refine Ac ?_ ?_|refine Ab ?_ ?_)<;>intro hc<;>(try simp only[push_cast] at hc)|refine eK hC ?_|refine eQ hC ?_|refine eG hC ?_|((first|refine cK hC ?_|refine cQ hC ?_|refine cG hC ?_);(simp(disch:=omega)only[push_cast,↓zz,seval]);(fail_if_success change False))|omega|intro _))
 all_goals trace_state
def C5(l:List (List Int)):Nat->List (List Int)
 |0=>[]
 |k+1=>if 0<k/\nth l k=nth l (k-1) then C5 l k else C5 l k++[nth l k]
theorem N7{l:List (List Int)}:∀(k:Nat),k<=l.length->∀w,w∈C5 l k↔w∈l.take k
 |0,_,w=>by simp[C5]
 |k+1,hk,w=>by
  have ih:=N7 (l:=l) k (by omega) w;rw[take_at (by omega),C5];split
  ·rename_i h
   rw[ih,Au,Av];constructor
   ·exact .inl
   ·rintro (h1|rfl)
    ·exact h1
    ·rw[h.2]
     have e:l.take k=l.take (k-1)++[nth l (k-1)]:=by
      have:=take_at (l:=l) (i:=k-1) (by omega)
      rwa [show k-1+1=k by omega] at this
     rw[e];simp
  ·rw[Au,ih,Au]
theorem Sx{l:List (List Int)}{k:Nat}(hk:k<=l.length){w:List Int}(h:w∈l.take k):∃i,i<k/\w=nth l i:=by
 obtain⟨i,hi,rfl⟩:=B8 h;rw[CQ] at hi;refine⟨i,by omega,?_⟩;rw[GF (by omega),List.getElem_take]
theorem OY{l:List (List Int)}(hs:l.Pairwise λa b=>ltW b a=false):∀(k:Nat),k<=l.length->NQ (C5 l k)
 |0,_=>List.Pairwise.nil
 |k+1,hk=>by
  have ih:=OY hs k (by omega)
  have hle:∀i j,i<j->j<l.length->ltW (nth l j) (nth l i)=false:=λi j hij hj=>by
   rw[GF hj,GF (by omega)];exact Ef.1 hs i j (by omega) hj hij
  rw[C5];split
  ·exact ih
  ·rename_i hne
   refine DX.2 ⟨ih,Ez _ _,λa ha b hb=>?_⟩;rw[Av.1 hb];obtain⟨i,hi,rfl⟩:=Sx (by omega) ((N7 k (by omega) a).1 ha);cases hlt:ltW (nth l i) (nth l k) with
   |true=>rfl
   |false =>
    exfalso;have e:=IN _ _ hlt (hle i k hi (by omega));refine hne ⟨by omega,?_⟩;by_cases h1:i=k-1
    ·rw[<-e,h1]
    ·have h2:=hle i (k-1) (by omega) (by omega)
     have h3:=hle (k-1) k (by omega) (by omega);rw[<-e] at h3 ⊢;exact IN _ _ h3 h2
theorem Sy(l:List (List Int)):∀k,(C5 l k).length<=k
 |0=>by simp[C5]
 |k+1=>by
  have:=Sy l k;rw[C5];split
  ·omega
  ·simp;omega
theorem Yg{l m:List (List Int)}(h:m.Pairwise λa b=>ltW b a=false)(hp:m.Perm l):Jv l=C5 m m.length:=VN (OY h _ (Ae _)) λw=>by
 rw[N7 _ (Ae _),AZ];exact hp.mem_iff
theorem z2i{α:Type}[Inhabited α](a b:List α)(k:Nat):nth (a++b) (a.length+k)=nth b k:=by
 simp[nth,List.getD,AD]
theorem We{α:Type}[Inhabited α](l:List α)(i k:Nat):nth (l.drop i) k=nth l (i+k):=by
 simp[nth,List.getD]
theorem set_mid{α:Type}(C J D:List α)(h v:α):(C++(h::J)++D).set C.length v=(C++[v])++J++D:=by simp
theorem K6(ex:Bool)(l:List (List Int))(hl:l.length<=1000000000)(hw:∀w∈l,w.length<=1000000000):BN Tryz.prog 108 [.ref 0 1 0 l.length,.fn 109 []] (Abs.hl [⟨1,1,ex,l.map AX⟩]) λy H' =>
 y=.ref 0 1 0 (C5 l l.length).length/\∃z,AY z=true/\H'=Abs.hl [⟨1,1,ex,(C5 l l.length).map AX++z⟩]:=by
 have pL:=CE l;have hc1:=Sy l l.length;refine Va (b:=1) Gs rfl ?_;unfold ES;by_cases h2:l.length<2
 ·have hce:C5 l l.length=l:=by
   match l,h2 with
   |[],_=>rfl
   |[a],_=>rfl
  (with_reducible repeat'(first|(simp(disch:=omega)only[push_cast,↓zz,seval,pL])|refine Aa ?_ ?_|(first|refine Ac ?_ ?_|refine Ab ?_ ?_)<;>intro hc<;>(try simp only[push_cast] at hc)|omega|intro _))
  all_goals
   refine Rj [] (.ref 0 1 0 (C5 l l.length).length) [⟨1,1,ex,(C5 l l.length).map AX++[]⟩] ?_ ⟨rfl,[],rfl,rfl⟩;rw[hce,AH];(with_reducible repeat'(first|(simp(disch:=omega)only[push_cast,↓zz,seval,pL])|refine Aa ?_ ?_|(first|refine Ac ?_ ?_|refine Ab ?_ ?_)<;>intro hc<;>(try simp only[push_cast] at hc)|omega|intro _))
 ·have hcl:∀i,(∀j,1<=j->j<i->nth l j≠nth l (j-1))->i<=l.length->C5 l i=l.take i:=λi=>by
   induction i with
   |zero=>intro _ _;simp[C5]
   |succ i ih =>
    intro hj hi;rw[C5,ih (λj h1 h2=>hj j h1 (by omega)) (by omega),take_at (by omega)];by_cases h0:0<i
    ·rw[Ah λh=>hj i (by omega) (by omega) h.2]
    ·rw[Ah λh=>h0 h.1]
  have hfn:∀a∈l,∀b∈l,PC Tryz.prog 109 [AX a,AX b] (.bool (decide (a=b))):=λa ha b hb=>z2h a b (hw a ha) (hw b hb);(with_reducible repeat'(first|(simp(disch:=omega)only[push_cast,↓zz,seval,pL])|refine Aa ?_ ?_|(first|refine Ac ?_ ?_|refine Ab ?_ ?_)<;>intro hc<;>(try simp only[push_cast] at hc)|omega|intro _))
  refine Bu (B5 (λ(i:Nat)=>(1<=i/\i<=l.length)/\Hold (∀j,1<=j->j<i->nth l j≠nth l (j-1))) (λi=>l.length-i)
   (λi=>[(0,.ref 0 1 0 l.length),(1,.fn 109 []),(5,.int .i64 i)]) (λ_=>[⟨1,1,ex,l.map AX⟩]) (λ_ _=>[]) 1 ⟨by omega,⟨λj h1 h2=>by omega⟩⟩ ?_ ?_)
  ·(with_reducible repeat'(first|(simp(disch:=omega)only[push_cast,↓zz,seval,pL])|refine Aa ?_ ?_|(first|refine Ac ?_ ?_|refine Ab ?_ ?_)<;>intro hc<;>(try simp only[push_cast] at hc)|omega|intro _))
  rintro i ⟨⟨hi1,hi⟩,⟨hno⟩⟩;rcases Am i l.length with hil|hil
  ·have m1:nth l i∈l:=BA hil
   have m2:nth l (i-1)∈l:=BA (by omega);have hF:=hfn _ m1 _ m2;have a1:((l.map AX).getD i .any)=AX (nth l i):=by simp[nth,List.getD,hil]
   have a2:((l.map AX).getD (i-1) .any)=AX (nth l (i-1)):=by
    have:i-1<l.length:=by omega
    simp[nth,List.getD,this]
   have hci:=hcl i hno (by omega);have hi0:((i:Int)-1).toNat=i-1:=by omega
   generalize hu:nth l i=u at *;generalize hv:nth l (i-1)=v at *;have pu:AY (u.map (AV.int .i32))=true:=BK .i32 _;have pv:AY (v.map (AV.int .i32))=true:=BK .i32 _;refine W_T ?_;by_cases he:u=v
   ·rw[BC he] at hF
    (with_reducible repeat'(first|(simp(disch:=omega)only[push_cast,↓zz,seval,pL,hu,hv,pu,pv,hi0,a1,a2])|refine Aa ?_ ?_|(first|refine Ac ?_ ?_|refine Ab ?_ ?_)<;>intro hc<;>(try simp only[push_cast] at hc)|refine eK hF ?_|refine eQ hF ?_|refine eG hF ?_|((first|refine cK hF ?_|refine cQ hF ?_|refine cG hF ?_);(simp(disch:=omega)only[push_cast,↓zz,seval,pL,hu,hv,pu,pv,hi0,a1,a2]);(fail_if_success change False))|omega|intro _));have hst:C5 l (i+1)=l.take i:=by rw[C5,Ai ⟨by omega,by rw[hu,hv];exact he⟩,hci]
    have hstep:∀k,C5 l (i+k+1)=if nth l (i+k)=nth l (i+k-1) then C5 l (i+k) else C5 l (i+k)++[nth l (i+k)]:=λk=>by
     rw[C5];by_cases h:nth l (i+k)=nth l (i+k-1)
     ·rw[Ai ⟨by omega,h⟩,Ai h]
     ·rw[Ah λhh=>h hh.2,Ah h]
    clear hno hcl hF a1 a2 pu pv
    refine Bu (B5 (λ(q:Nat × List (List Int))=>(1<=q.1/\i+q.1<=l.length)/\(C5 l (i+q.1)).length+q.2.length=i+q.1-1) (λq=>l.length-q.1)
     (λq=>[(0,.ref 0 1 0 l.length),(1,.fn 109 []),(5,.int .i64 (C5 l (i+q.1)).length),(6,.ref 0 1 i (l.length-i)),(7,.int .i64 q.1)])
     (λq=>[⟨1,1,ex,(C5 l (i+q.1)++q.2++l.drop (i+q.1-1)).map AX⟩]) (λ_ _=>[]) (1,[]) ⟨by omega,by simp only[hst];simp;omega⟩ ?_ ?_)
    ·have hX:C5 l (i+1)++[]++l.drop (i+1-1)=l:=by rw[hst,AH,Nat.add_sub_cancel,DJ]
     have hCl:(C5 l (i+1)).length=i:=by rw[hst,CQ];omega
     simp only[hX,hCl];(with_reducible repeat'(first|(simp(disch:=omega)only[push_cast,↓zz,seval,pL])|refine Aa ?_ ?_|(first|refine Ac ?_ ?_|refine Ab ?_ ?_)<;>intro hc<;>(try simp only[push_cast] at hc)|omega|intro _))
    rintro⟨k,J⟩ ⟨⟨hk1,hk⟩,hJ⟩;simp only at hk1 hk hJ ⊢;have hXl:(C5 l (i+k)++J++l.drop (i+k-1)).length=l.length:=by simp only[Ao,List.length_drop];omega
    have hCJ:(C5 l (i+k)++J).length=i+k-1:=by rw[Ao];exact hJ
    rcases Am (i+k) l.length with hkl|hkl
    ·have n1:nth (C5 l (i+k)++J++l.drop (i+k-1)) (i+k)=nth l (i+k):=by
      have:=z2i (C5 l (i+k)++J) (l.drop (i+k-1)) 1;rw[hCJ,We] at this
      rwa [show i+k-1+1=i+k by omega] at this
     have n2:nth (C5 l (i+k)++J++l.drop (i+k-1)) (i+k-1)=nth l (i+k-1):=by
      have:=z2i (C5 l (i+k)++J) (l.drop (i+k-1)) 0;rw[hCJ,We,Nat.add_zero] at this;exact this
     have m1:nth l (i+k)∈l:=BA hkl;have m2:nth l (i+k-1)∈l:=BA (by omega);have hF:=hfn _ m1 _ m2;have hs:=hstep k
     have hdr:l.drop (i+k-1)=nth l (i+k-1)::l.drop (i+k):=by
      have:=drop_at (l:=l) (i:=i+k-1) (by omega)
      rwa [show i+k-1+1=i+k by omega] at this
     obtain⟨h,J',hJ'⟩:∃h J',J++[nth l (i+k-1)]=h::J':=by
      cases J with
      |nil=>exact⟨_,[],rfl⟩
      |cons a J=>exact⟨a,J++[_],rfl⟩
     have hJl:J'.length=J.length:=by have:=EE List.length hJ';simp at this;omega
     have hXe:C5 l (i+k)++J++l.drop (i+k-1)=C5 l (i+k)++(h::J')++l.drop (i+k):=by
      rw[hdr,<-hJ'];simp
     have hset:(C5 l (i+k)++J++l.drop (i+k-1)).set (C5 l (i+k)).length (nth l (i+k))=C5 l (i+k)++[nth l (i+k)]++J'++l.drop (i+k):=by rw[hXe,set_mid]
     have hsame:C5 l (i+k)++J++l.drop (i+k-1)=C5 l (i+k)++(J++[nth l (i+k-1)])++l.drop (i+k):=by rw[hdr];simp
     have pX:=CE (C5 l (i+k)++J++l.drop (i+k-1));have hmset:((C5 l (i+k)++J++l.drop (i+k-1)).map AX).set (C5 l (i+k)).length (AX (nth l (i+k)))=(C5 l (i+k)++[nth l (i+k)]++J'++l.drop (i+k)).map AX:=by rw[<-List.map_set,hset]
     have hidx:(i:Int)+k=((i+k:Nat):Int):=by omega
     have e1':i+(k-1)=i+k-1:=by omega
     have hk0:((k:Int)-1).toNat=k-1:=by omega
     have hcl2:(C5 l (i+k)).length<l.length:=by omega
     generalize hX:C5 l (i+k)++J++l.drop (i+k-1)=X at *;generalize hu2:nth l (i+k)=u2 at *;generalize hv2:nth l (i+k-1)=v2 at *;have pu:AY (u2.map (AV.int .i32))=true:=BK .i32 _;have pv:AY (v2.map (AV.int .i32))=true:=BK .i32 _;refine W_T ?_;by_cases he2:u2=v2
     ·rw[BC he2] at hF
      rw[Ai he2] at hs;(with_reducible repeat'(first|(simp(disch:=omega)only[push_cast,↓zz,seval,pX,hXl,n1,n2,pu,pv,hk0,e1'])|refine Aa ?_ ?_|(first|refine Ac ?_ ?_|refine Ab ?_ ?_)<;>intro hc<;>(try simp only[push_cast] at hc)|refine eK hF ?_|refine eQ hF ?_|refine eG hF ?_|((first|refine cK hF ?_|refine cQ hF ?_|refine cG hF ?_);(simp(disch:=omega)only[push_cast,↓zz,seval,pX,hXl,n1,n2,pu,pv,hk0,e1']);(fail_if_success change False))|omega|intro _))
      all_goals
       refine⟨(k+1,J++[v2]),?_⟩;have e2:i+(k+1)-1=i+k:=by omega
       have hsm:(C5 l (i+k)).map AX++(J.map AX++AX v2::(l.drop (i+k)).map AX)=X.map AX:=by rw[hsame];simp
       simp only[<-Bp,hs,e2];(with_reducible repeat'(first|(simp(disch:=omega)only[push_cast,↓zz,seval,pX,hsm])|refine Aa ?_ ?_|(first|refine Ac ?_ ?_|refine Ab ?_ ?_)<;>intro hc<;>(try simp only[push_cast] at hc)|omega|intro _))
     ·rw[Cb he2] at hF
      rw[Ah he2] at hs;have pX1:=CE (C5 l (i+k)++[u2]++J'++l.drop (i+k));(with_reducible repeat'(first|(simp(disch:=omega)only[push_cast,↓zz,seval,pX,hXl,n1,n2,pu,pv,hk0,e1',hmset])|refine Aa ?_ ?_|(first|refine Ac ?_ ?_|refine Ab ?_ ?_)<;>intro hc<;>(try simp only[push_cast] at hc)|refine eK hF ?_|refine eQ hF ?_|refine eG hF ?_|((first|refine cK hF ?_|refine cQ hF ?_|refine cG hF ?_);(simp(disch:=omega)only[push_cast,↓zz,seval,pX,hXl,n1,n2,pu,pv,hk0,e1',hmset]);(fail_if_success change False))|omega|intro _))
      all_goals
       refine⟨(k+1,J'),?_⟩;have e2:i+(k+1)-1=i+k:=by omega
       simp only[<-Bp,hs,e2];(with_reducible repeat'(first|(simp(disch:=omega)only[push_cast,↓zz,seval,pX1,Ao,List.length_cons,List.length_nil])|refine Aa ?_ ?_|(first|refine Ac ?_ ?_|refine Ab ?_ ?_)<;>intro hc<;>(try simp only[push_cast] at hc)|omega|intro _))
    ·have hkn:i+k=l.length:=by omega
     rw[hkn] at hXl hCJ hJ ⊢;have hm:(C5 l l.length++J++l.drop (l.length-1)).map AX=(C5 l l.length).map AX++(J++l.drop (l.length-1)).map AX:=by rw[AA,A9]
     have hmt:((C5 l l.length++J++l.drop (l.length-1)).map AX).take (C5 l l.length).length=(C5 l l.length).map AX:=by rw[hm];exact E0 (by simp)
     have hmd:((C5 l l.length++J++l.drop (l.length-1)).map AX).drop l.length=[]:=Az (by rw[Br,hXl];exact Ae _);have pX:=CE (C5 l l.length++J++l.drop (l.length-1));have pC:=CE (C5 l l.length);have pN:=IR (l.length-(C5 l l.length).length);generalize C5 l l.length++J++l.drop (l.length-1)=X at *;generalize C5 l l.length=C at *;have hcn:C.length+(l.length-C.length)=l.length:=by omega
     refine W_T ?_;(with_reducible repeat'(first|(simp(disch:=omega)only[push_cast,↓zz,seval,pX,hXl,hmt,hmd,hcn,AH])|refine Aa ?_ ?_|(first|refine Ac ?_ ?_|refine Ab ?_ ?_)<;>intro hc<;>(try simp only[push_cast] at hc)|omega|intro _))
     all_goals
      refine Rj [] (.ref 0 1 0 C.length) [⟨1,1,ex,C.map AX++List.replicate (l.length-C.length) .nilS⟩] ?_ ⟨rfl,_,pN,rfl⟩;(with_reducible repeat'(first|(simp(disch:=omega)only[push_cast,↓zz,seval,pX,pC,pN])|refine Aa ?_ ?_|(first|refine Ac ?_ ?_|refine Ab ?_ ?_)<;>intro hc<;>(try simp only[push_cast] at hc)|omega|intro _))
   ·rw[Cb he] at hF
    have hnx:Hold (∀j,1<=j->j<i+1->nth l j≠nth l (j-1)):=⟨λj h1 h2=>by
     by_cases e:j=i
     ·subst e;rw[hu,hv];exact he
     ·exact hno j h1 (by omega)⟩
    clear hno hcl;(with_reducible repeat'(first|(simp(disch:=omega)only[push_cast,↓zz,seval,pL,hu,hv,pu,pv,hi0,a1,a2])|refine Aa ?_ ?_|(first|refine Ac ?_ ?_|refine Ab ?_ ?_)<;>intro hc<;>(try simp only[push_cast] at hc)|refine eK hF ?_|refine eQ hF ?_|refine eG hF ?_|((first|refine cK hF ?_|refine cQ hF ?_|refine cG hF ?_);(simp(disch:=omega)only[push_cast,↓zz,seval,pL,hu,hv,pu,pv,hi0,a1,a2]);(fail_if_success change False))|omega|intro _))
    all_goals
     refine⟨i+1,?_⟩;(with_reducible repeat'(first|(simp(disch:=omega)only[push_cast,↓zz,seval,pL])|refine Aa ?_ ?_|(first|refine Ac ?_ ?_|refine Ab ?_ ?_)<;>intro hc<;>(try simp only[push_cast] at hc)|omega|intro _))
     all_goals first|exact⟨by omega,hnx⟩|exact hnx|trace_state
  ·obtain rfl:i=l.length:=by omega
   have hce:=hcl l.length hno (Ae _);rw[AZ] at hce;clear hno hcl;refine W_T ?_;(with_reducible repeat'(first|(simp(disch:=omega)only[push_cast,↓zz,seval,pL])|refine Aa ?_ ?_|(first|refine Ac ?_ ?_|refine Ab ?_ ?_)<;>intro hc<;>(try simp only[push_cast] at hc)|omega|intro _))
   all_goals
    refine Rj [] (.ref 0 1 0 (C5 l l.length).length) [⟨1,1,ex,(C5 l l.length).map AX++[]⟩] ?_ ⟨rfl,[],rfl,rfl⟩;rw[hce,AH];(with_reducible repeat'(first|(simp(disch:=omega)only[push_cast,↓zz,seval,pL])|refine Aa ?_ ?_|(first|refine Ac ?_ ?_|refine Ab ?_ ?_)<;>intro hc<;>(try simp only[push_cast] at hc)|omega|intro _))
   all_goals trace_state
theorem Ul{l:List FP}{s i:Nat}:i∈fiI l s↔i<l.length/\(nth l i).from_=s:=by simp[fiI,Iu]
theorem zel(l:List FP)(s:Nat):(fiI l s).length<=l.length:=N6 _ _
section
variable (d:Desc)(x:List Int)(S:Nat->Nat->List (List Int))(at_ s:Nat)
def finW(k:Nat):List (List Int):=((fiI d.finals s).take k).flatMap λi=>if (nth d.finals i).guards.length+at_=x.length/\goB x (nth d.finals i).guards at_=true then [GK x (nth d.finals i).out (nth d.finals i).guards at_] else []
def toW(i:Nat):List (List Int):=S (at_+(nth d.rules i).eat.toNat) (nth d.rules i).to_.toNat
def rulW(k:Nat):List (List Int):=((ruI d.rules s).take k).flatMap λi=>if goB x (nth d.rules i).guards at_=true then (toW d S at_ i).map (GK x (nth d.rules i).out (nth d.rules i).guards at_++·) else []
def allW:List (List Int):=finW d x at_ s (fiI d.finals s).length++rulW d x S at_ s (ruI d.rules s).length
variable {d x S at_ s}{k:Nat}
theorem z2j:finW d x at_ s 0=[]:=rfl
theorem z2k:rulW d x S at_ s 0=[]:=rfl
theorem z8g(hk:k<(fiI d.finals s).length){f:FP}(hf:nth d.finals (nth (fiI d.finals s) k)=f)(h:(decide (f.guards.length+at_=x.length)&&goB x f.guards at_)=true):finW d x at_ s (k+1)=finW d x at_ s k++[GK x f.out f.guards at_]:=by
 simp only[Ad,Ak] at h;rw[finW,take_at hk,Dl,CP,hf,Ai h];rfl
theorem zem(hk:k<(fiI d.finals s).length){f:FP}(hf:nth d.finals (nth (fiI d.finals s) k)=f)(h:(decide (f.guards.length+at_=x.length)&&goB x f.guards at_)=false):finW d x at_ s (k+1)=finW d x at_ s k:=by
 rw[finW,take_at hk,Dl,CP,hf,Ah,AH]
 ·rfl
 rintro⟨h1,h2⟩;rw[h2,BC h1] at h;cases h
theorem Wg(hk:k<(ruI d.rules s).length){r:Rule}(hf:nth d.rules (nth (ruI d.rules s) k)=r)(h:goB x r.guards at_=true):rulW d x S at_ s (k+1)=rulW d x S at_ s k++(S (at_+r.eat.toNat) r.to_.toNat).map (GK x r.out r.guards at_++·):=by
 rw[rulW,take_at hk,Dl,CP,hf,Ai h,toW,hf];rfl
theorem z2l(hk:k<(ruI d.rules s).length){r:Rule}(hf:nth d.rules (nth (ruI d.rules s) k)=r)(h:goB x r.guards at_=false):rulW d x S at_ s (k+1)=rulW d x S at_ s k:=by
 rw[rulW,take_at hk,Dl,CP,hf,Ah (by rw[h];simp),AH];rfl
theorem Wh:(finW d x at_ s k).length<=k:=by
 induction k with
 |zero=>simp[finW]
 |succ k ih =>
  rcases Am k (fiI d.finals s).length with h|h
  ·rw[finW,take_at h,Dl,Ao,CP]
   rw[finW] at ih;split
   ·rw[List.length_singleton];omega
   ·rw[List.length_nil];omega
  ·rw[finW,Ap (by omega)]
   rw[finW,Ap h] at ih;omega
theorem z8h{w:List Int}:w∈finW d x at_ s (fiI d.finals s).length↔∃f∈d.finals,f.from_=(s:Nat)/\(f.guards.length+at_=x.length/\goB x f.guards at_=true)/\w=GK x f.out f.guards at_:=by
 rw[finW,AZ,En];constructor
 ·rintro⟨i,hi,hw⟩
  obtain⟨i1,i2⟩:=Ul.1 hi;split at hw
  ·rename_i h
   exact⟨_,BA i1,i2,h,by simpa using hw⟩
  ·cases hw
 ·rintro⟨f,hf,h1,h2,rfl⟩
  obtain⟨i,hi,rfl⟩:=B8 hf;have e:nth d.finals i=d.finals[i]:=GF hi;exact⟨i,Ul.2 ⟨hi,by rw[e];exact h1⟩,by rw[e,Ai h2];simp⟩
theorem z8i{w:List Int}:w∈rulW d x S at_ s (ruI d.rules s).length↔∃r∈d.rules,r.from_=(s:Nat)/\goB x r.guards at_=true/\∃v∈S (at_+r.eat.toNat) r.to_.toNat,w=GK x r.out r.guards at_++v:=by
 rw[rulW,AZ,En];constructor
 ·rintro⟨i,hi,hw⟩
  obtain⟨i1,i2⟩:=H5.1 hi;split at hw
  ·rename_i h
   obtain⟨v,hv,rfl⟩:=As.1 hw;exact⟨_,BA i1,i2,h,v,hv,rfl⟩
  ·cases hw
 ·rintro⟨r,hr,h1,h2,v,hv,rfl⟩
  obtain⟨i,hi,rfl⟩:=B8 hr;have e:nth d.rules i=d.rules[i]:=GF hi;refine⟨i,H5.2 ⟨hi,by rw[e];exact h1⟩,?_⟩;rw[e,Ai h2,toW,e];exact As.2 ⟨v,hv,rfl⟩
theorem z2m:Jv (allW d x S at_ s)=Jv (outL d x (λa t=>S a t.toNat) at_ (s:Nat)):=by
 refine (VN (Jp _) λw=>?_);rw[IP,allW,Au,z8h,z8i,outL,Au,As,En];constructor
 ·rintro (⟨f,hf,rfl⟩|⟨r,hr,hw⟩)
  ·obtain⟨h1,h2⟩:=Bi.1 hf
   simp only[Ad,Ak] at h2;exact .inl ⟨f,h1,h2.1,h2.2,rfl⟩
  ·obtain⟨h1,h2⟩:=Bi.1 hr
   simp only[Ad,Ak] at h2;obtain⟨v,hv,rfl⟩:=As.1 hw;exact .inr ⟨r,h1,h2.1,h2.2,v,hv,rfl⟩
 ·rintro (⟨f,h1,h2,h3,rfl⟩|⟨r,h1,h2,h3,v,hv,rfl⟩)
  ·exact .inl ⟨f,Bi.2 ⟨h1,by simp[h2,h3.1,h3.2]⟩,rfl⟩
  ·exact .inr ⟨r,Bi.2 ⟨h1,by simp[h2,h3]⟩,As.2 ⟨v,hv,rfl⟩⟩
end
def I6(o:Option (List Int))(w:List Int):Option (List Int):=match o with
 |none=>some w
 |some m=>if cmpL w m<0 then some w else some m
structure LeastI(C:List (List Int))(o:Option (List Int)):Prop where
 no:o=none->C=[]
 yes:∀m,o=some m->m∈C/\∀c∈C,ltW c m=false
section
variable {d:Desc}{x:List Int}{n:Nat}{ord:List Nat}{L:Nat->Nat->Bool}{at_ j:Nat}
structure LeaI(d:Desc)(x:List Int)(L:Nat->Nat->Bool)(ord:List Nat)(at_ j:Nat)(B:Nat->Nat->Option (List Int)):Prop where
 past:∀a t,a<=x.length->L a t=true->Past ord at_ j a t->B a t=(outW d x a t).head?
 rest:∀a t,¬Past ord at_ j a t->B a t=none
variable {B:Nat->Nat->Option (List Int)}
variable {y:List Int}{M:Nat->Nat->Nat->Bool}
end
set_option maxRecDepth 100000
theorem z8j{σ:Type}(d:Desc)(x:List Int){n:Nat}{ord:List Nat}{L:Nat->Nat->Bool}(RU FI:AV)(hRU:RU.pure=true)(hFI:FI.pure=true)(hdn:d.states=n)(hn:n<=1024)(hx:x.length<=1024)(ht:Topo d.rules n ord)
 (f:Nat) (caps:List AV) (N:Nat) (heap:σ->List Grp) (hN:∀s,(heap s).length=N) (hcl:∀s,∀G∈heap s,ltL N G.xs) (hcaps:ltL N caps)
 (Inv:Nat->Nat->σ->Prop) (s0:σ) (h0:Inv x.length 0 s0)
 (call:∀a j s,a<=x.length->j<n->Inv a j s->L a (nth ord j)=true->BN Tryz.prog f (.int .i64 a::.int .i64 (nth ord j:Nat)::caps) (Abs.hl (heap s)) λy H'=>y=.tup []/\∃s',H'=Abs.hl (heap s')/\Inv a (j+1) s')
 (skip:∀a j s,a<=x.length->j<n->Inv a j s->L a (nth ord j)=false->Inv a (j+1) s)
 (row:∀a s,a+1<=x.length->Inv (a+1) n s->Inv a 0 s) :
 BN Tryz.prog 61 [E4 d x RU FI (.lst 1 (ord.map e1)) (.lst 1 (lvB n ((x.length+1) * n) L)),.fn f caps] (Abs.hl (heap s0)) λy H'=>y=.tup []/\∃s,H'=Abs.hl (heap s)/\Inv 0 n s:=by
 have pR:=BS d.rules;have pFi:=BI d.finals;have pX:AY (x.map (AV.int .i32))=true:=BK .i32 _;have pO:AY (ord.map e1)=true:=EJ (λ_=>rfl) _;have hol:=EW ht;have lL:(lvB n ((x.length+1) * n) L).length=(x.length+1) * n:=JS;have pL:AY (lvB n ((x.length+1) * n) L)=true:=Mg;have hmx:(x.length+1) * n<=1025 * 1024:=C8 (by omega) hn;have pN:(E4 d x RU FI (.lst 1 (ord.map e1)) (.lst 1 (lvB n ((x.length+1) * n) L))).pure=true:=by simp[AV.pure,AY,pR,pFi,pX,pO,pL,hRU,hFI]
 have aL:∀a t,a<=x.length->t<n->(lvB n ((x.length+1) * n) L).getD (a * n+t) .any=.bool (L a t):=λa t ha htn=>za1 htn (GQ htn ha);have pl:∀a t,a<=x.length->t<n->a * n+t<(x.length+1) * n:=λa t ha htn=>GQ htn ha;generalize hm:(x.length+1) * n=m at *;generalize hLV:lvB n m L=LV at *;refine Jq (Mr KP (W_T ?_));unfold HE;(with_reducible repeat'(first|(simp(disch:=omega)only[push_cast,↓zz,seval,pR,pFi,pX,pO,pL,hRU,hFI])|refine Aa ?_ ?_|(first|refine Ac ?_ ?_|refine Ab ?_ ?_)<;>intro hc<;>(try simp only[push_cast] at hc)|omega|intro _))
 refine Bu (I9 (λ(q:Nat × σ)=>q.1<=x.length+1/\Hold ((q.1=0->Inv 0 n q.2)/\∀a,q.1=a+1->Inv a 0 q.2)) (λq=>q.1)
  (λq=>Er [(0,E4 d x RU FI (.lst 1 (ord.map e1)) (.lst 1 LV)),(1,.fn f caps),(4,.int .i64 ((q.1:Int)-1))]) (λq=>Abs.hl (heap q.2)) (x.length+1,s0) ⟨Ae _,⟨⟨λh=>(by cases h),λa h=>?_⟩⟩⟩ ?_ ?_)
 ·obtain rfl:x.length=a:=by simpa using h
  exact h0
 ·refine Gp (gar:=[]) _ (AH _).symm (Eg ((hN _).trans (hN _).symm)) (by rw[hN];exact hcl _) ?_
  rw[hN];refine⟨rfl,trivial,rfl,hcaps,?_,trivial,trivial⟩;show AV.int _ _=_;congr 1;simp only;omega
 rintro⟨k,s⟩ ⟨hk,⟨⟨hI0,hI⟩⟩⟩;simp only at hk hI0 hI ⊢;rcases Nat.eq_zero_or_pos k with rfl|hk0
 ·have hI0:=hI0 rfl
  refine W_T ?_;(with_reducible repeat'(first|(simp(disch:=omega)only[push_cast,↓zz,seval,pR,pFi,pX,pO,pL,hRU,hFI])|refine Aa ?_ ?_|(first|refine Ac ?_ ?_|refine Ab ?_ ?_)<;>intro hc<;>(try simp only[push_cast] at hc)|omega|intro _))
  all_goals exact⟨_,_,Ent.refl,rfl,s,rfl,hI0⟩
 ·obtain⟨a,rfl⟩:∃a,k=a+1:=⟨k-1,by omega⟩
  have hIa:=hI a rfl;clear hI0 hI;have ha:a<=x.length:=by omega
  refine W_T ?_;(with_reducible repeat'(first|(simp(disch:=omega)only[push_cast,↓zz,seval,pR,pFi,pX,pO,pL,hRU,hFI])|refine Aa ?_ ?_|(first|refine Ac ?_ ?_|refine Ab ?_ ?_)<;>intro hc<;>(try simp only[push_cast] at hc)|omega|intro _))
  refine Bu (I9 (λ(q:Nat × σ)=>q.1<=n/\Hold (Inv a q.1 q.2)) (λq=>n-q.1)
   (λq=>Er [(0,E4 d x RU FI (.lst 1 (ord.map e1)) (.lst 1 LV)),(1,.fn f caps),(4,.int .i64 a),(19,.lst 1 (ord.map e1)),(20,.int .i64 n),(21,.int .i64 q.1)]) (λq=>Abs.hl (heap q.2)) (0,s) ⟨AI _,⟨hIa⟩⟩ ?_ ?_)
  ·refine Gp (gar:=[]) _ (AH _).symm (Eg ((hN _).trans (hN _).symm)) (by rw[hN];exact hcl _) ?_
   rw[hN];have hO:ltV N (.lst 1 (ord.map e1)):=Cz _ _ pO;refine⟨rfl,trivial,rfl,hcaps,?_,trivial,rfl,hO,?_,trivial,rfl,trivial,trivial⟩
   ·show AV.int _ _=_
    congr 1;omega
   ·show AV.int _ _=_
    congr 1;omega
  rintro⟨j,s1⟩ ⟨hj,⟨hI⟩⟩;simp only at hj hI ⊢;have hO:ltV N (.lst 1 (ord.map e1)):=Cz _ _ pO;rcases Am j n with hjn|hjn
  ·have aO:(ord.map e1).getD j .any=.int .i64 (nth ord j:Nat):=by simp[nth,List.getD,hol,hjn]
   have htn:nth ord j<n:=(ht.all _).1 (BA (by omega));have hcall:=call a j s1 ha hjn hI;have hskip:=skip a j s1 ha hjn hI;have aK:=aL a _ ha htn;have hpm:=pl a _ ha htn;generalize nth ord j=t at *;have hmul:((a:Int) * (n:Int))=((a * n:Nat):Int):=by norm_cast
   generalize hpe:a * n+t=p at *;generalize a * n=an at *;have hpi:(an:Int)+(t:Int)=(p:Int):=by omega
   cases hL:L a t with
   |true =>
    rw[hL] at aK;refine W_T ?_;(with_reducible repeat'(first|(simp(disch:=omega)only[push_cast,↓zz,seval,pR,pFi,pX,pO,pL,hRU,hFI,aO,hdn,hmul,hpi,aK])|refine Aa ?_ ?_|(first|refine Ac ?_ ?_|refine Ab ?_ ?_)<;>intro hc<;>(try simp only[push_cast] at hc)|omega|intro _));refine z1u (extra:=[]) (AH _).symm (hcall hL) ?_ (by rw[hN];exact hcl _) ?_
    ·rw[hN];exact⟨trivial,trivial,hcaps⟩
    rintro y H' ⟨rfl,s2,rfl,hI2⟩;refine⟨_,rfl,by rw[hN,hN],trivial,by rw[hN];exact hcl _,?_⟩;rw[AH];(with_reducible repeat'(first|(simp(disch:=omega)only[push_cast,↓zz,seval])|refine Aa ?_ ?_|(first|refine Ac ?_ ?_|refine Ab ?_ ?_)<;>intro hc<;>(try simp only[push_cast] at hc)|omega|intro _));refine⟨(j+1,s2),Gp (gar:=[]) _ (AH _).symm (Eg ((hN _).trans (hN _).symm)) (by rw[hN];exact hcl _) ?_,⟨by omega,⟨hI2⟩⟩,by simp only;omega⟩;rw[hN];exact⟨rfl,trivial,rfl,hcaps,rfl,trivial,rfl,hO,rfl,trivial,rfl,trivial,trivial⟩
   |false =>
    rw[hL] at aK;refine W_T ?_;(with_reducible repeat'(first|(simp(disch:=omega)only[push_cast,↓zz,seval,pR,pFi,pX,pO,pL,hRU,hFI,aO,hdn,hmul,hpi,aK])|refine Aa ?_ ?_|(first|refine Ac ?_ ?_|refine Ab ?_ ?_)<;>intro hc<;>(try simp only[push_cast] at hc)|omega|intro _));refine⟨(j+1,s1),Gp (gar:=[]) _ (AH _).symm (Eg ((hN _).trans (hN _).symm)) (by rw[hN];exact hcl _) ?_,⟨by omega,⟨hskip hL⟩⟩,by simp only;omega⟩;rw[hN];exact⟨rfl,trivial,rfl,hcaps,rfl,trivial,rfl,hO,rfl,trivial,rfl,trivial,trivial⟩
  ·obtain rfl:j=n:=by omega
   refine W_T ?_;(with_reducible repeat'(first|(simp(disch:=omega)only[push_cast,↓zz,seval,pR,pFi,pX,pO,pL,hRU,hFI])|refine Aa ?_ ?_|(first|refine Ac ?_ ?_|refine Ab ?_ ?_)<;>intro hc<;>(try simp only[push_cast] at hc)|omega|intro _));refine⟨(a,s1),Gp (gar:=[]) _ (AH _).symm (Eg ((hN _).trans (hN _).symm)) (by rw[hN];exact hcl _) ?_,⟨by omega,⟨⟨λh=>?_,λa' h=>?_⟩⟩⟩,by simp only;omega⟩
   ·rw[hN]
    exact⟨rfl,trivial,rfl,hcaps,rfl,trivial,trivial⟩
   ·have h:a=0:=h
    subst h;exact hI
   ·have h:a=a'+1:=h
    subst h;exact row a' s1 (by omega) hI
end Go.Proofs.YtbcjoeadpjfcfaaGreat
namespace Go.Proofs
open Go.Shelf
def Tryz.sortWd_ren:Go.Shelf.Ren:=⟨fun|6=>107|15=>139|14=>138|28=>162|29=>163|20=>154|21=>155|22=>156|23=>157|24=>158|25=>159|26=>160|27=>161|46=>176|47=>177|48=>178|49=>179|50=>180|57=>189|n=>n,fun|22=>42|24=>39|25=>130|3=>3|39=>187|0=>0|53=>205|55=>207|4=>4|46=>199|45=>198|50=>32|5=>5|9=>9|66=>216|70=>220|76=>224|77=>84|n=>n,fun|n=>n⟩
theorem Tryz.sortWd:Go.Proofs.SlLaysF.n6 Tryz.prog Tryz.sortWd_ren:={
 mixed:=by kernel_rfl
 f6:=⟨Tryz.f107.name,by decide,Tryz.func107.trans (congrArg some (by kernel_rfl))⟩
 f14:=⟨Tryz.f138.name,by decide,Tryz.func138.trans (congrArg some (by kernel_rfl))⟩
 f15:=Tryz.func139.trans (congrArg some (by kernel_rfl))
 f20:=⟨Tryz.f154.name,by decide,Tryz.func154.trans (congrArg some (by kernel_rfl))⟩
 f21:=⟨Tryz.f155.name,by decide,Tryz.func155.trans (congrArg some (by kernel_rfl))⟩
 f22:=⟨Tryz.f156.name,by decide,Tryz.func156.trans (congrArg some (by kernel_rfl))⟩
 f23:=⟨Tryz.f157.name,by decide,Tryz.func157.trans (congrArg some (by kernel_rfl))⟩
 f24:=⟨Tryz.f158.name,by decide,Tryz.func158.trans (congrArg some (by kernel_rfl))⟩
 f25:=⟨Tryz.f159.name,by decide,Tryz.func159.trans (congrArg some (by kernel_rfl))⟩
 f26:=⟨Tryz.f160.name,by decide,Tryz.func160.trans (congrArg some (by kernel_rfl))⟩
 f27:=⟨Tryz.f161.name,by decide,Tryz.func161.trans (congrArg some (by kernel_rfl))⟩
 f28:=Tryz.func162.trans (congrArg some (by kernel_rfl))
 f29:=Tryz.func163.trans (congrArg some (by kernel_rfl))
 f46:=⟨Tryz.f176.name,by decide,Tryz.func176.trans (congrArg some (by kernel_rfl))⟩
 f47:=Tryz.func177.trans (congrArg some (by kernel_rfl))
 f48:=Tryz.func178.trans (congrArg some (by kernel_rfl))
 f49:=⟨Tryz.f179.name,by decide,Tryz.func179.trans (congrArg some (by kernel_rfl))⟩
 f50:=⟨Tryz.f180.name,by decide,Tryz.func180.trans (congrArg some (by kernel_rfl))⟩
 f57:=⟨Tryz.f189.name,by decide,Tryz.func189.trans (congrArg some (by kernel_rfl))⟩
 t0:=Tryz.underlying0
 a0:=Tryz.isAgg0
 z0:=Tryz.sizeOf0
 v0:=Tryz.zeroValue0
 t3:=Tryz.underlying3
 a3:=Tryz.isAgg3
 z3:=Tryz.sizeOf3
 v3:=Tryz.zeroValue3
 t4:=Tryz.underlying4
 a4:=Tryz.isAgg4
 z4:=Tryz.sizeOf4
 v4:=Tryz.zeroValue4
 t5:=Tryz.underlying5
 a5:=Tryz.isAgg5
 z5:=Tryz.sizeOf5
 v5:=Tryz.zeroValue5
 t9:=Tryz.underlying9
 a9:=Tryz.isAgg9
 z9:=Tryz.sizeOf9
 v9:=Tryz.zeroValue9
 t22:=Tryz.underlying42
 a22:=Tryz.isAgg42
 z22:=Tryz.sizeOf42
 v22:=Tryz.zeroValue42
 a24:=Tryz.isAgg39
 z24:=Tryz.sizeOf39
 t25:=Tryz.underlying130
 a25:=Tryz.isAgg130
 z25:=Tryz.sizeOf130
 v25:=Tryz.zeroValue130
 t39:=Tryz.underlying187
 a39:=Tryz.isAgg187
 z39:=Tryz.sizeOf187
 v39:=Tryz.zeroValue187
 t45:=Tryz.underlying198
 a45:=Tryz.isAgg198
 z45:=Tryz.sizeOf198
 v45:=Tryz.zeroValue198
 t46:=Tryz.underlying199
 a46:=Tryz.isAgg199
 z46:=Tryz.sizeOf199
 v46:=Tryz.zeroValue199
 t50:=Tryz.underlying32
 a50:=Tryz.isAgg32
 z50:=Tryz.sizeOf32
 v50:=Tryz.zeroValue32
 t53:=Tryz.underlying205
 a53:=Tryz.isAgg205
 z53:=Tryz.sizeOf205
 v53:=Tryz.zeroValue205
 t55:=Tryz.underlying207
 a55:=Tryz.isAgg207
 z55:=Tryz.sizeOf207
 v55:=Tryz.zeroValue207
 t66:=Tryz.underlying216
 a66:=Tryz.isAgg216
 z66:=Tryz.sizeOf216
 v66:=Tryz.zeroValue216
 t70:=Tryz.underlying220
 a70:=Tryz.isAgg220
 z70:=Tryz.sizeOf220
 v70:=Tryz.zeroValue220
 t76:=Tryz.underlying224
 a76:=Tryz.isAgg224
 z76:=Tryz.sizeOf224
 v76:=Tryz.zeroValue224
 t77:=Tryz.underlying84
 a77:=Tryz.isAgg84
 z77:=Tryz.sizeOf84
 v77:=Tryz.zeroValue84 }
end Go.Proofs
set_option maxRecDepth 100000
namespace Go.Proofs.YtbcjoeadpjfcfaaGreat
open Abs Go.Shelf Go.RowKit Go.Lib Go.Sort
def WV(S:MS):Type:={ p:List Int × Value // VRel S (AX p.1) p.2/\p.1.length<=1000000000 }
instance (S:MS):Inhabited (WV S):=⟨⟨([],.slice none 0 0),⟨rfl,Nat.one_pos,none,0,[],rfl,⟨Ae _,λ_=>rfl⟩,rfl,λh=>absurd rfl h⟩,AI _⟩⟩
def encW(S:MS)(p:WV S):Value:=p.val.2
def cfW(S:MS)(p q:WV S):Int:=cmpL p.val.1 q.val.1
theorem ltCW(S:MS)(p q:WV S):ltOf (cfW S) p q=ltW p.val.1 q.val.1:=by
 unfold ltOf cfW;cases h:ltW p.val.1 q.val.1 with
 |true=>exact BC ((z2g _ _).2 h)
 |false=>exact Cb λhh=>by rw[(z2g _ _).1 hh] at h;cases h
theorem Yh(a b c:List Int)(h1:ltW a b=false)(h2:ltW b c=false):ltW a c=false:=by
 cases h:ltW a c with
 |false=>rfl
 |true =>
  exfalso;cases hba:ltW b a with
  |true=>have:=IM b a c hba h;rw[h2] at this;cases this
  |false =>
   have e:=IN a b h1 hba;subst e;rw[h2] at h;cases h
theorem swoW(S:MS):SWO (ltOf (cfW S)) where
 irrefl x:=by rw[ltCW];exact GY _
 trans x y z h1 h2:=by rw[ltCW] at *;exact IM _ _ _ h1 h2
 ntrans x y z h1 h2:=by rw[ltCW] at *;exact Yh _ _ _ h1 h2
theorem z2n:∀{a b:World},a.heap=b.heap->a.tape=b.tape->a.drawn=b.drawn->a.os=b.os->a.output=b.output->a=b
 |⟨_,_,_,_,_⟩,⟨_,_,_,_,_⟩,rfl,rfl,rfl,rfl,rfl=>rfl
theorem J6{α:Type}[Inhabited α](enc:α->Value)(w:World)(b m:Nat)(d:Array α)(os:Array Obj):w.heap.size<=(sortWorld enc w b 0 m d os).heap.size:=by
 show _<=((w.heap.modify _ _)++os).size;rw[F4,CZ];omega
theorem IS{α:Type}[Inhabited α](enc:α->Value)(w:World)(b m:Nat)(d:Array α)(os:Array Obj){k:Nat}(hk:k<w.heap.size)(hb:b≠k):(sortWorld enc w b 0 m d os).heap[k]? = w.heap[k]? := by
 show ((w.heap.modify _ _)++os)[k]? = _;rw[BE (by rw[CZ];exact hk),DF,Ah hb]
theorem Yi(S:MS){H:Aw}(hS:SRel S H){blk:Nat}(hni:¬(S.im blk\/S.keep blk))(size:Nat):CmpLays1 Tryz.prog 77 #[] (encW S) (cfW S) blk 0 size S.w:=by
 intro m os dk _ x y;obtain⟨W,hW⟩:∃W,W=sortWorld (encW S) S.w blk 0 m dk os:=⟨_,rfl⟩;rw[<-hW];have hsz:S.w.heap.size<=W.heap.size:=by rw[hW];exact J6 ..
 have hkept:∀b,S.im b->W.heap[b]? = S.w.heap[b]? := λb hb=>by rw[hW];exact IS _ _ _ _ _ _ (hS.im b (.inl hb)) λe=>hni (e ▸ .inl hb)
 have ev1:Evi S { S with w:=W }:=⟨hkept,λ_ h=>h,Ae _,λ_ _=>Ae _,λ_ _ _=>⟨rfl,rfl,rfl⟩⟩
 let S2:MS:=⟨W,S.im,λb=>b<W.heap.size,0,λ_=>0,λ_=>0,λ_=>0,λ_=>0,0⟩
 have down:∀p:WV S,VRel S2 (AX p.val.1) p.val.2:=λp=>by
  have h:=VRel.moni ev1 _ p.property.1;rw[<-P7 (AX p.val.1)] at h;exact Py (A:=S2) (B:={ S with w:=W }) (σ:=λg=>g) (m:=0) rfl (λb hb=>hb) (λg hg=>absurd hg (Ba _)) (AX p.val.1) trivial h
 have hS2:SRel S2 Aw.nil:=⟨rfl,λg hg=>absurd hg (Ba _),λg _ hg=>absurd hg (Ba _),λb hb=>hb.elim (λh=>AT (hS.im b (.inl h)) hsz) id⟩;refine ((LI x.val.1 y.val.1 x.property.2 y.property.2).2 S2 [encW S x,encW S y] hS2 ⟨_,_,rfl,down x,_,_,rfl,down y,rfl⟩).mono λe w' hh=>?_;obtain⟨v,S',z,H',rfl,rfl,ev,_,hv,rfl,_⟩:=hh;have hv':v=.int .i64 (cmpL x.val.1 y.val.1):=hv;subst hv';have hsz2:W.heap.size<=S'.w.heap.size:=ev.size;refine⟨rfl,S'.w.drawn-W.drawn,S'.w.heap.extract W.heap.size S'.w.heap.size,z2n ?_ ev.tape.1 ?_ ev.os ev.output⟩
 ·show S'.w.heap=W.heap++_
  refine Array.ext_getElem? λi=>?_;rcases Am i W.heap.size with hi|hi
  ·rw[BE hi]
   exact ev.kept i (.inr hi)
  ·rw[Array.getElem?_append_right hi,Array.getElem?_extract]
   rcases Am i S'.w.heap.size with h2|h2
   ·rw[Ai (by omega)];congr 1;omega
   ·rw[Ah (by omega),CO (by omega)]
 ·show S'.w.drawn=W.drawn+(S'.w.drawn-W.drawn)
  have:=ev.tape.2;have h2:W.drawn<=S'.w.drawn:=this;omega
theorem OZ{S:MS}:∀{l:List (List Int)}{vs:List Value},(∀w∈l,w.length<=1000000000)->AF S (l.map AX) vs->∃pl:List (WV S),pl.map (λp=>p.val.1)=l/\pl.map (encW S)=vs
 |[],vs,_,h=>⟨[],rfl,h.symm⟩
 |x::l,vs,hl,⟨v,r,hv,h1,h2⟩=>by
  obtain⟨pl,a,b⟩:=OZ (λw hw=>hl w (by simp[hw])) h2;exact⟨⟨(x,v),h1,hl x (by simp)⟩::pl,by show x::pl.map _=x::l;rw[a],by rw[hv,<-b];rfl⟩
theorem Sz{S:MS}(p:WV S):∃a n c,encW S p=.slice a n c:=by
 obtain⟨_,_,a,cap,vs,hv,_⟩:=p.property.1;exact⟨a,_,cap,hv⟩
theorem oneW(S:MS):OneCell (encW S):=λp=>by
 obtain⟨a,n,c,h⟩:=Sz p;rw[h];rfl
theorem Wi{S:MS}(p:WV S):(encW S p).cells=#[encW S p]:=by
 obtain⟨a,n,c,h⟩:=Sz p;rw[h];rfl
theorem z8k{S:MS}{b:Nat}{cells:Array Value}{T:TypeId}{pl:List (WV S)}(hb:S.w.heap[b]? = some (.cells cells T (0,0)))(hf:Gx cells 1 (pl.map (encW S))):Holds (encW S) S.w b 0 pl.toArray:=by
 intro j hj;have hi:j<pl.length:=by simpa using hj
 have he:(pl.map (encW S))[j]? = some (encW S pl[j]):=by simp[hi]
 obtain⟨_,_,h3⟩:=hf _ _ he;have h4:=h3 0 Nat.one_pos;rw[Nat.mul_one,Nat.add_zero,Wi] at h4;have hg:pl.toArray[j]! = pl[j]:=by simp[hi]
 refine⟨?_,?_⟩
 ·rw[hg]
  simp only[World.cell?,hb,Bj,Option.isSome_none,A7,Bo,h4,id];rfl
 ·simp[World.frozen?,hb]
theorem zen{S:MS}{b n:Nat}{cells:Array Value}{T:TypeId}{d:Array (WV S)}{os:Array Obj}(hb:S.w.heap[b]? = some (.cells cells T (0,0)))(hsz:d.size<=cells.size):
 ∃cells',(sortWorld (encW S) S.w b 0 n d os).heap[b]? = some (.cells cells' T (0,0))/\cells'.size=cells.size/\Gx cells' 1 (d.toList.map (encW S)):=by
 have hlt:b<S.w.heap.size:=(Bh.1 hb).1;refine⟨putCells (encW S) 0 d cells,?_,by simp[putCells],λi v hv=>?_⟩
 ·show ((S.w.heap.modify b _)++os)[b]? = _
  rw[BE (by rw[CZ];exact hlt),DF,Ai rfl,hb];rfl
 ·rw[DN] at hv
  obtain⟨x,hx,rfl⟩:=Af.1 hv;have hi:i<d.size:=by have:=(Be.1 hx).1;simpa using this
  refine⟨by rw[Wi];rfl,λc hc=>?_,λj hj=>?_⟩
  ·rw[Wi] at hc
   obtain rfl:c=encW S x:=by simpa using hc
   exact oneW S x
  ·obtain rfl:j=0:=by omega
   have hlt2:i<cells.size:=by omega
   have hd:d[i]! = x:=by
    rw[EM] at hx;rw[getElem!_pos d i hi];exact (Bh.1 hx).2
   rw[Nat.mul_one,Nat.add_zero,putCells,EL,Ec hlt2];simp only[Option.map_some,AI,EF,Bj,Nat.sub_zero];rw[Ai hi,hd,Wi];rfl
def Um(l:List (List Int)):Prop:=l.Pairwise λa b=>ltW b a=false
theorem z2o{S:MS}{d:Array (WV S)}(h:SortedIn (ltOf (cfW S)) 0 d.size d):Um (d.toList.map λp=>p.val.1):=by
 rw[Um,F5,Ef];intro i j hi hj hij;have hi':i<d.size:=by simpa using hi
 have hj':j<d.size:=by simpa using hj
 have:=h i j (AI _) hij hj';rw[ltCW,getElem!_pos d j hj',getElem!_pos d i hi'] at this;simpa using this
theorem z2p{S:MS}:∀(pl:List (WV S)),AF S (pl.map λp=>AX p.val.1) (pl.map (encW S))
 |[]=>rfl
 |p::pl=>⟨_,_,rfl,p.property.1,z2p pl⟩
theorem zeo{H:Aw}{g ver:Nat}{ex:Bool}{l:List (List Int)}(hg:g<H.n)(hG:H.at_ g=⟨1,ver,ex,l.map AX⟩)(h1:l≠[])(hl:l.length<4611686018427387904)(hw:∀w∈l,w.length<=1000000000):
 BN Tryz.prog 107 [.ref g ver 0 l.length,.fn 77 []] H λy H'=>y=.tup []/\∃l':List (List Int),l'.Perm l/\Um l'/\H'=H.set g ⟨1,ver,ex,l'.map AX⟩:=by
 have eg:∀args w,(callFunc 77 args).run Tryz.prog w=.ok (.enter 77 args) w:=enters_of Tryz.func77 (by kernel_rfl) rfl;refine⟨enters_of Tryz.func107 (by kernel_rfl) rfl,λS cargs hS hx=>?_⟩;obtain⟨v1,r1,rfl,⟨_,hgn,_,hv1⟩,v2,r2,rfl,⟨lb,rfl,rfl⟩,rfl⟩:=hx;have hgr:=hS.grp g hg;rw[hG] at hgr;obtain⟨a,cap',rfl,hcase⟩:=hv1 hgr.ver;have hpos:0<l.length:=by cases l;exact absurd rfl h1;simp
 obtain⟨rfl,rfl,hcap⟩:=hcase.resolve_right (λh=>by omega);have hlen:l.length<=S.cap g:=by have:=hgr.len (show 0<1 by decide);simpa using this
 obtain⟨⟨cells,T,vs,b1,b2,b3,b4⟩,hni⟩:=hgr.live (show 0<1 by decide) (by omega);obtain⟨pl,e1,rfl⟩:=OZ hw b3;have b2':cells.size=S.cap g * 1:=b2;have hpl:pl.length=l.length:=by rw[<-e1,Br]
 have hblk:S.place g<S.w.heap.size:=(Bh.1 b1).1;have hcon:=Any.slices_SortFunc Tryz.sortWd (encW S) (oneW S) (cfW S) (swoW S) 77 #[] (S.place g) 0 (S.cap g-0) pl.toArray S.w eg (Yi S hS hni _) (z8k b1 b4) hblk (by simp;omega);change Calls Tryz.prog 107 _ _ _ at hcon;rw[BV,hpl] at hcon;rw[Fu];refine hcon.mono λe w' ⟨he,d',n,os,hp,hs,hw'⟩=>?_;subst he hw';obtain⟨q1,q2,q3⟩:=hp;have q1:d'.size=l.length:=by simpa [hpl] using q1
 have hperm:(d'.toList.map λp=>p.val.1).Perm l:=by
  rw[DU,DU] at q3;have q4:d'.toList.Perm pl:=by simpa [List.extract,q1,hpl,Ap (show d'.toList.length<=l.length by simp[q1]),Ap (show pl.length<=l.length by omega)] using q3
  rw[<-e1];exact q4.map _
 rw[<-q1] at hs;obtain⟨cells',c1,c2,c3⟩:=zen (n:=n) (d:=d') (os:=os) b1 (by omega);have hoth:∀b,b≠S.place g->b<S.w.heap.size->(sortWorld (encW S) S.w (S.place g) 0 n d' os).heap[b]? = S.w.heap[b]? := λb hb hlt=>IS _ _ _ _ _ _ hlt (Aj hb);have ev1:Evi S { S with w:=sortWorld (encW S) S.w (S.place g) 0 n d' os }:=⟨λb hb=>hoth b (λe=>hni (e ▸ .inl hb)) (hS.im b (.inl hb)),λ_ h=>h,Ae _,λ_ _=>Ae _,λ_ _ _=>⟨rfl,rfl,rfl⟩⟩;have hmm:(d'.toList.map λp=>p.val.1).map AX=d'.toList.map λp=>AX p.val.1:=by rw[CM];rfl
 have hh:=hS.moved hg (by rw[hG];exact (show 0<1 by decide)) (sortWorld (encW S) S.w (S.place g) 0 n d' os) (S.place g) (S.cap g) ⟨1,ver,ex,(d'.toList.map λp=>p.val.1).map AX⟩ rfl ⟨rfl,EU _ _⟩ rfl
  (J6 ..)
  (λb hb hlt=>hoth b (λe=>hb ⟨by omega,e⟩) hlt)
  (.inl ⟨by omega,rfl⟩) (λ_=>⟨cells',T,_,c1,by rw[c2];exact b2',by rw[hmm];exact z2p _,c3⟩) (by simp[q1];exact hlen)
  (λhx=>by have:=hgr.full (show 0<1 by decide) hx;simp at this;simp[q1];exact this) (show 0<1 by decide) (by rw[hgr.ver];exact Ae _) (λ_=>⟨rfl,rfl,by rw[hgr.wid]⟩)
 exact⟨_,_,.tup [],_,rfl,rfl,hh.1,hh.2,⟨[],rfl,rfl⟩,rfl,_,hperm,z2o hs,rfl⟩
set_option maxRecDepth 100000
theorem z8l(l:List (List Int)):BN Tryz.prog 154 [.ref 0 1 0 0,.int .i64 0,.int .i64 0,.fn 77 []] (Abs.hl [⟨1,1,true,l.map AX⟩]) λy H'=>y=.tup []/\H'=Abs.hl [⟨1,1,true,l.map AX⟩]:=by
 refine G5 (b:=1) Ge rfl ?_;unfold E6;(with_reducible repeat'(first|(simp(disch:=omega)only[push_cast,↓zz,seval])|refine Aa ?_ ?_|(first|refine Ac ?_ ?_|refine Ab ?_ ?_)<;>intro hc<;>(try simp only[push_cast] at hc)|omega|intro _))
 refine Bu (B5 (λ(_:Unit)=>True) (λ_=>0) (λ_=>[(0,.ref 0 1 0 0),(1,.int .i64 0),(2,.int .i64 0),(3,.fn 77 []),(8,.int .i64 1)])
  (λ_=>[⟨1,1,true,l.map AX⟩]) (λ_ _=>[]) () trivial ?_ ?_)
 ·(with_reducible repeat'(first|(simp(disch:=omega)only[push_cast,↓zz,seval])|refine Aa ?_ ?_|(first|refine Ac ?_ ?_|refine Ab ?_ ?_)<;>intro hc<;>(try simp only[push_cast] at hc)|omega|intro _))
 rintro _ _;refine W_T ?_;(with_reducible repeat'(first|(simp(disch:=omega)only[push_cast,↓zz,seval])|refine Aa ?_ ?_|(first|refine Ac ?_ ?_|refine Ab ?_ ?_)<;>intro hc<;>(try simp only[push_cast] at hc)|omega|intro _))
 all_goals trace_state
theorem pdqW0(l:List (List Int)):BN Tryz.prog 138 [.ref 0 1 0 0,.int .i64 0,.int .i64 0,.int .i64 0,.fn 77 []] (Abs.hl [⟨1,1,true,l.map AX⟩]) λy H'=>y=.tup []/\H'=Abs.hl [⟨1,1,true,l.map AX⟩]:=by
 refine G5 (b:=1) GO rfl ?_;unfold F3;(with_reducible repeat'(first|(simp(disch:=omega)only[push_cast,↓zz,seval])|refine Aa ?_ ?_|(first|refine Ac ?_ ?_|refine Ab ?_ ?_)<;>intro hc<;>(try simp only[push_cast] at hc)|omega|intro _))
 refine Bu (B5 (λ(_:Unit)=>True) (λ_=>0) (λ_=>[(0,.ref 0 1 0 0),(1,.int .i64 0),(2,.int .i64 0),(3,.int .i64 0),(4,.fn 77 []),(10,.bool true),(11,.bool true)])
  (λ_=>[⟨1,1,true,l.map AX⟩]) (λ_ _=>[]) () trivial ?_ ?_)
 ·(with_reducible repeat'(first|(simp(disch:=omega)only[push_cast,↓zz,seval])|refine Aa ?_ ?_|(first|refine Ac ?_ ?_|refine Ab ?_ ?_)<;>intro hc<;>(try simp only[push_cast] at hc)|omega|intro _))
 rintro _ _;refine W_T ?_;(with_reducible repeat'(first|(simp(disch:=omega)only[push_cast,↓zz,seval])|refine Aa ?_ ?_|(first|refine Ac ?_ ?_|refine Ab ?_ ?_)<;>intro hc<;>(try simp only[push_cast] at hc)|omega|intro _));refine BN.mono (z8l l) ?_;rintro y H' ⟨rfl,rfl⟩;(with_reducible repeat'(first|(simp(disch:=omega)only[push_cast,↓zz,seval])|refine Aa ?_ ?_|(first|refine Ac ?_ ?_|refine Ab ?_ ?_)<;>intro hc<;>(try simp only[push_cast] at hc)|omega|intro _))
 all_goals trace_state
theorem zij(l:List (List Int)):BN Tryz.prog 107 [.ref 0 1 0 0,.fn 77 []] (Abs.hl [⟨1,1,true,l.map AX⟩]) λy H'=>y=.tup []/\H'=Abs.hl [⟨1,1,true,l.map AX⟩]:=by
 refine G5 (b:=1) GG rfl ?_;unfold Fw;(with_reducible repeat'(first|(simp(disch:=omega)only[push_cast,↓zz,seval])|refine Aa ?_ ?_|(first|refine Ac ?_ ?_|refine Ab ?_ ?_)<;>intro hc<;>(try simp only[push_cast] at hc)|refine eK LP ?_|refine eQ LP ?_|refine eG LP ?_|((first|refine cK LP ?_|refine cQ LP ?_|refine cG LP ?_);(simp(disch:=omega)only[push_cast,↓zz,seval]);(fail_if_success change False))|omega|intro _));refine BN.mono (pdqW0 l) ?_;rintro y H' ⟨rfl,rfl⟩;(with_reducible repeat'(first|(simp(disch:=omega)only[push_cast,↓zz,seval])|refine Aa ?_ ?_|(first|refine Ac ?_ ?_|refine Ab ?_ ?_)<;>intro hc<;>(try simp only[push_cast] at hc)|omega|intro _))
 all_goals trace_state
theorem Un(l:List Int)(hl:l.length<=1000000000000):PC Tryz.prog 106 [AX l] (AX l):=by
 have hp:AY (l.map (AV.int .i32))=true:=BK .i32 _;cases l with
 |nil =>
  refine Rc ?_ ?_
  ·refine BH Fc ?_
   unfold DZ;(with_reducible repeat'(first|(simp(disch:=omega)only[push_cast,↓zz,seval])|refine Aa ?_ ?_|(first|refine Ac ?_ ?_|refine Ab ?_ ?_)<;>intro hc<;>(try simp only[push_cast] at hc)|omega|intro _))
  ·refine BH Fc ?_
   unfold DZ;(with_reducible repeat'(first|(simp(disch:=omega)only[push_cast,↓zz,seval])|refine Aa ?_ ?_|(first|refine Ac ?_ ?_|refine Ab ?_ ?_)<;>intro hc<;>(try simp only[push_cast] at hc)|omega|intro _))
 |cons a l =>
  have hne:((a::l).map (AV.int .i32)).isEmpty=false:=rfl;have hm0:¬(a::l)=[]:=by simp
  generalize (a::l)=m at *;refine BH Fc ?_;unfold DZ;(with_reducible repeat'(first|(simp(disch:=omega)only[push_cast,↓zz,seval,hne,hp,hm0])|refine Aa ?_ ?_|(first|refine Ac ?_ ?_|refine Ab ?_ ?_)<;>intro hc<;>(try simp only[push_cast] at hc)|omega|intro _))
  all_goals trace_state
theorem z2q(l:List (List Int))(hl:l.length<=1000000000)(hw:∀w∈l,w.length<=1000000000):PC Tryz.prog 67 [Hg l] (Hg (Jv l)):=by
 have pW:=CE l;refine BH Tp ?_;unfold MH;(with_reducible repeat'(first|(simp(disch:=omega)only[push_cast,↓zz,seval,pW])|refine Aa ?_ ?_|(first|refine Ac ?_ ?_|refine Ab ?_ ?_)<;>intro hc<;>(try simp only[push_cast] at hc)|omega|intro _))
 refine Bu (B5 (λ(k:Nat)=>k<=l.length) (λk=>l.length-k)
  (λk=>[(3,.ref 0 1 0 l.length),(9,Hg l),(10,.int .i64 l.length),(11,.int .i64 k)]) (λk=>[⟨1,1,true,(l.take k).map AX++List.replicate (l.length-k) .nilS⟩]) (λenv _=>[Cc 1 (env 3)]) 0 (by simp) ?_ ?_)
 ·(with_reducible repeat'(first|(simp(disch:=omega)only[push_cast,↓zz,seval,pW,IR,List.take_zero,Bw,List.nil_append,Nat.sub_zero])|refine Aa ?_ ?_|(first|refine Ac ?_ ?_|refine Ab ?_ ?_)<;>intro hc<;>(try simp only[push_cast] at hc)|omega|intro _))
 intro k hk;rcases Am k l.length with hkl|hkl
 ·have hC:=Un (nth l k) (by have:=hw _ (BA hkl);omega)
  have lT:((l.take k).map AX++List.replicate (l.length-k) AV.nilS).length=l.length:=by simp;omega
  have sT:((l.take k).map AX++List.replicate (l.length-k) AV.nilS).set k (AX (nth l k))=(l.take (k+1)).map AX++List.replicate (l.length-(k+1)) AV.nilS:=by
   have e1:List.replicate (l.length-k) AV.nilS=AV.nilS::List.replicate (l.length-(k+1)) AV.nilS:=by rw[<-List.replicate_succ];congr 1;omega
   have e2:((l.take k).map AX).length=k:=by simp;omega
   rw[e1,EO _ _ (by omega),e2,Nat.sub_self,List.set_cons_zero,take_at hkl,A9,AA];rfl
  have pK:AY ((nth l k).map (AV.int .i32))=true:=BK .i32 _;have pT:∀k,AY ((l.take k).map AX++List.replicate (l.length-k) AV.nilS)=true:=λk=>by rw[M3,CE (l.take k),IR];rfl
  generalize hwk:nth l k=w at *;generalize hLk:(l.take k).map AX++List.replicate (l.length-k) AV.nilS=T0 at *;have hp0:=pT k;have hp1:=pT (k+1);rw[hLk] at hp0;generalize hLk1:(l.take (k+1)).map AX++List.replicate (l.length-(k+1)) AV.nilS=T1 at *;refine W_T ?_;(with_reducible repeat'(first|(simp(disch:=omega)only[push_cast,↓zz,seval,pW,hwk,lT,sT,pK,hp0])|refine Aa ?_ ?_|(first|refine Ac ?_ ?_|refine Ab ?_ ?_)<;>intro hc<;>(try simp only[push_cast] at hc)|refine eK hC ?_|refine eQ hC ?_|refine eG hC ?_|((first|refine cK hC ?_|refine cQ hC ?_|refine cG hC ?_);(simp(disch:=omega)only[push_cast,↓zz,seval,pW,hwk,lT,sT,pK,hp0]);(fail_if_success change False))|omega|intro _))
  all_goals
   refine⟨k+1,?_⟩;(with_reducible repeat'(first|(simp(disch:=omega)only[push_cast,↓zz,seval,pW,hLk1,hp1])|refine Aa ?_ ?_|(first|refine Ac ?_ ?_|refine Ab ?_ ?_)<;>intro hc<;>(try simp only[push_cast] at hc)|omega|intro _))
 ·obtain rfl:k=l.length:=by omega
  have e1:(l.take l.length).map AX++List.replicate (l.length-l.length) AV.nilS=l.map AX:=by simp
  rw[e1];refine W_T ?_;(with_reducible repeat'(first|(simp(disch:=omega)only[push_cast,↓zz,seval,pW])|refine Aa ?_ ?_|(first|refine Ac ?_ ?_|refine Ab ?_ ?_)<;>intro hc<;>(try simp only[push_cast] at hc)|omega|intro _));by_cases h0:l=[]
  ·subst h0
   refine BN.mono (zij []) ?_;rintro y H' ⟨rfl,rfl⟩;have hC:=K6 true [] (by simp) (λw hw'=>by cases hw');(with_reducible repeat'(first|(simp(disch:=omega)only[push_cast,↓zz,seval])|refine Aa ?_ ?_|(first|refine Ac ?_ ?_|refine Ab ?_ ?_)<;>intro hc<;>(try simp only[push_cast] at hc)|omega|intro _));refine BN.mono hC ?_;rintro y H' ⟨rfl,z,pz,rfl⟩;have e0:C5 [] 0=[]:=rfl;have e1:Jv []=[]:=rfl;(with_reducible repeat'(first|(simp(disch:=omega)only[push_cast,↓zz,seval,pz,e0,e1,List.length_nil,Bw,List.nil_append,List.take_zero])|refine Aa ?_ ?_|(first|refine Ac ?_ ?_|refine Ab ?_ ?_)<;>intro hc<;>(try simp only[push_cast] at hc)|omega|intro _))
  have hS:=zeo (H:=Abs.hl [⟨1,1,true,l.map AX⟩]) (g:=0) (ver:=1) (ex:=true) (l:=l) (by show 0<1;omega) rfl h0 (by omega) hw;refine BN.mono hS ?_;rintro y H' ⟨rfl,l',hp,hs,rfl⟩;have hl':l'.length=l.length:=hp.length_eq;have hC:=K6 true l' (by omega) λw hw'=>hw w (hp.mem_iff.1 hw');have hsw:=Yg hs hp;rw[hl'] at hC hsw;rw[hsw];(with_reducible repeat'(first|(simp(disch:=omega)only[push_cast,↓zz,seval])|refine Aa ?_ ?_|(first|refine Ac ?_ ?_|refine Ab ?_ ?_)<;>intro hc<;>(try simp only[push_cast] at hc)|omega|intro _));refine BN.mono hC ?_;rintro y H' ⟨rfl,z,pz,rfl⟩;generalize C5 l' l.length=M at *;have pM:=CE M;have tM:∀z,List.take M.length (M.map AX++z)=M.map AX:=λz=>E0 (by simp);(with_reducible repeat'(first|(simp(disch:=omega)only[push_cast,↓zz,seval,pz,pM,tM])|refine Aa ?_ ?_|(first|refine Ac ?_ ?_|refine Ab ?_ ?_)<;>intro hc<;>(try simp only[push_cast] at hc)|omega|intro _))
  all_goals trace_state
theorem Yj(n:Nat)(h0:0<n)(hn:n<=1000000000):BN Tryz.prog 105 [.nilS,.int .i64 n] (Abs.hl []) λy H'=>y=.ref 0 1 0 0/\H'=Abs.hl [⟨1,1,false,List.replicate n (AV.int .i32 0)⟩]:=by
 refine G5 (b:=0) Gj rfl ?_;unfold Ft;have e0:((n:Int)-0).toNat=n:=by omega
 (with_reducible repeat'(first|(simp(disch:=omega)only[push_cast,↓zz,seval,e0])|refine Aa ?_ ?_|(first|refine Ac ?_ ?_|refine Ab ?_ ?_)<;>intro hc<;>(try simp only[push_cast] at hc)|omega|intro _))
 all_goals trace_state
theorem Uo:PC Tryz.prog 105 [.nilS,.int .i64 0] .nilS:=by
 refine BH Gj ?_;unfold Ft;(with_reducible repeat'(first|(simp(disch:=omega)only[push_cast,↓zz,seval])|refine Aa ?_ ?_|(first|refine Ac ?_ ?_|refine Ab ?_ ?_)<;>intro hc<;>(try simp only[push_cast] at hc)|omega|intro _))
 all_goals trace_state
theorem HW(l:List Int):AY (l.map (AV.int .i32))=true:=BK .i32 _
def GD(ws:List (List Int))(k:Nat):List AV:=(ws.take k).flatten.map (AV.int .i32)++List.replicate (ws.flatten.length-(ws.take k).flatten.length) (AV.int .i32 0)
theorem Pa{α:Type}(ws:List (List α)){k:Nat}(h:k<ws.length):(ws.take (k+1)).flatten=(ws.take k).flatten++ws[k]:=by
 rw[List.take_succ_eq_append_getElem h,List.flatten_append];simp only[List.flatten_cons,List.flatten_nil,AH]
theorem Qt{α:Type}(ws:List (List α))(k:Nat):(ws.take k).flatten.length<=ws.flatten.length:=by
 have:ws.flatten=(ws.take k).flatten++(ws.drop k).flatten:=by rw[<-List.flatten_append,DJ]
 rw[this];simp
theorem S6(ws:List (List Int))(hk:ws.length<=1000000000)(h0:0<ws.flatten.length)(hl:ws.flatten.length<=1000000000):PC Tryz.prog 66 [.lst 1 (ws.map AX)] (AX ws.flatten):=by
 have pW:AY (ws.map AX)=true:=Cf.2 λx hx=>by
  obtain⟨l,_,rfl⟩:=As.1 hx;exact HW l
 have aW:∀k,k<ws.length->(ws.map AX).getD k .any=AX (nth ws k):=λk hk=>by simp[nth,List.getD,hk]
 have hG:=Yj ws.flatten.length h0 hl;refine BH FQ ?_;unfold EP;(with_reducible repeat'(first|(simp(disch:=omega)only[push_cast,↓zz,seval,pW])|refine Aa ?_ ?_|(first|refine Ac ?_ ?_|refine Ab ?_ ?_)<;>intro hc<;>(try simp only[push_cast] at hc)|omega|intro _))
 refine Bu (B5 (λ(k:Nat)=>k<=ws.length) (λk=>ws.length-k)
  (λk=>[(0,.lst 1 (ws.map AX)),(3,.int .i64 (ws.take k).flatten.length),(9,.lst 1 (ws.map AX)),(10,.int .i64 ws.length),(11,.int .i64 k)]) (λ_=>[]) (λ_ _=>[]) 0 (by simp) ?_ ?_)
 ·(with_reducible repeat'(first|(simp(disch:=omega)only[push_cast,↓zz,seval,pW,List.flatten_nil,List.length_nil])|refine Aa ?_ ?_|(first|refine Ac ?_ ?_|refine Ab ?_ ?_)<;>intro hc<;>(try simp only[push_cast] at hc)|omega|intro _))
 intro k hkw;rcases Am k ws.length with hkl|hkl
 ·have hn:nth ws k=ws[k]:=by simp[nth,hkl]
  have hf:=Pa ws hkl;rw[<-hn] at hf;have h1:=Qt ws (k+1);have h2:(ws.take (k+1)).flatten.length=(ws.take k).flatten.length+(nth ws k).length:=by rw[hf];simp
  have aK:=aW k hkl;generalize (ws.take k).flatten.length=m at *;refine W_T ?_;(with_reducible repeat'(first|(simp(disch:=omega)only[push_cast,↓zz,seval,pW,aK])|refine Aa ?_ ?_|(first|refine Ac ?_ ?_|refine Ab ?_ ?_)<;>intro hc<;>(try simp only[push_cast] at hc)|omega|intro _))
  all_goals
   refine⟨k+1,?_⟩;(with_reducible repeat'(first|(simp(disch:=omega)only[push_cast,↓zz,seval,pW,h2])|refine Aa ?_ ?_|(first|refine Ac ?_ ?_|refine Ab ?_ ?_)<;>intro hc<;>(try simp only[push_cast] at hc)|omega|intro _))
 ·obtain rfl:k=ws.length:=by omega
  rw[Ap (Ae _)];have hzz:(ws.flatten.length:Int)≠0:=by omega
  refine W_T ?_;(with_reducible repeat'(first|(simp(disch:=omega)only[push_cast,↓zz,seval,pW])|refine Aa ?_ ?_|(first|refine Ac ?_ ?_|refine Ab ?_ ?_)<;>intro hc<;>(try simp only[push_cast] at hc)|omega|intro _))
  (refine Ig [] (hG) (by decide) (by simp) (by (simp(disch:=omega)only[push_cast,↓zz,seval])) (by (simp(disch:=omega)only[push_cast,↓zz,seval])) (by (simp(disch:=omega)only[push_cast,↓zz,seval])) (by (simp(disch:=omega)only[push_cast,↓zz,seval,Ag,Al,Ay,Ce,CV,Cs])) ?_)
  rintro y H' ⟨rfl,rfl⟩;refine⟨_,rfl,by simp,?_⟩;(with_reducible repeat'(first|(simp(disch:=omega)only[push_cast,↓zz,seval,pW])|refine Aa ?_ ?_|(first|refine Ac ?_ ?_|refine Ab ?_ ?_)<;>intro hc<;>(try simp only[push_cast] at hc)|omega|intro _))
  refine Bu (B5 (λ(k:Nat)=>k<=ws.length) (λk=>ws.length-k)
   (λk=>[(6,.ref 0 1 0 (ws.take k).flatten.length),(25,.lst 1 (ws.map AX)),(26,.int .i64 ws.length),(27,.int .i64 k)]) (λk=>[⟨1,1,false,GD ws k⟩]) (λenv _=>[Cc 1 (env 6)]) 0 (by simp) ?_ ?_)
  ·have r0:GD ws 0=List.replicate ws.flatten.length (AV.int .i32 0):=by simp[GD]
   have pZ:∀n,AY (List.replicate n (AV.int .i32 0))=true:=λn=>Cf.2 λx hx=>by rw[Db hx];rfl
   (with_reducible repeat'(first|(simp(disch:=omega)only[push_cast,↓zz,seval,pW,pZ,r0,List.flatten_nil,List.length_nil])|refine Aa ?_ ?_|(first|refine Ac ?_ ?_|refine Ab ?_ ?_)<;>intro hc<;>(try simp only[push_cast] at hc)|omega|intro _))
  intro k hkw
  have pL:∀k,AY (GD ws k)=true:=λk=>by
   rw[GD,M3,HW,A6];exact Cf.2 λx hx=>by rw[Db hx];rfl
  have h1:=Qt ws k;have lR:(GD ws k).length=ws.flatten.length:=by simp only[GD,Ao,Br,List.length_replicate];omega
  rcases Am k ws.length with hkl|hkl
  ·have hn:nth ws k=ws[k]:=by simp[nth,hkl]
   have hf:=Pa ws hkl;rw[<-hn] at hf;have h1':=Qt ws (k+1);have h2:(ws.take (k+1)).flatten.length=(ws.take k).flatten.length+(nth ws k).length:=by rw[hf];simp
   have aK:=aW k hkl;have pw:=HW (nth ws k)
   have hR:(GD ws k).take (ws.take k).flatten.length++(nth ws k).map (AV.int .i32)++(GD ws k).drop ((ws.take k).flatten.length+(nth ws k).length)=GD ws (k+1):=by
    have e1:(GD ws k).take (ws.take k).flatten.length=(ws.take k).flatten.map (AV.int .i32):=by
     rw[GD];exact E0 (by rw[Br])
    have e2:(GD ws k).drop ((ws.take k).flatten.length+(nth ws k).length)=List.replicate (ws.flatten.length-(ws.take (k+1)).flatten.length) (AV.int .i32 0):=by
     rw[<-List.drop_drop,GD,List.drop_left' (by rw[Br]),List.drop_replicate,h2];congr 1;omega
    rw[e1,e2,GD,hf,A9,AA]
   rw[AA] at hR
   have hQ:(GD ws k).length<=(ws.take k).flatten.length->GD ws k++(nth ws k).map (AV.int .i32)=GD ws (k+1):=λh=>by
    have h0:nth ws k=[]:=AE (by omega);rw[GD,GD,hf,h0,AH,Bw,AH]
   have pT:AY ((GD ws k).take (ws.take k).flatten.length)=true:=Cf.2 λx hx=>Cf.1 (pL k) x (BJ hx);have pD:AY ((GD ws k).drop ((ws.take k).flatten.length+(nth ws k).length))=true:=Cf.2 λx hx=>Cf.1 (pL k) x (BX hx);have hpk:=pL k;have hpk1:=pL (k+1);generalize (ws.take k).flatten.length=m at *;generalize hRk:GD ws k=R at *;generalize hRk1:GD ws (k+1)=R1 at *;refine W_T ?_;(with_reducible repeat'(first|(simp(disch:=omega)only[push_cast,↓zz,seval,pW,aK,pw,hpk])|refine Aa ?_ ?_|(first|refine Ac ?_ ?_|refine Ab ?_ ?_)<;>intro hc<;>(try simp only[push_cast] at hc)|omega|intro _))
   all_goals
    refine⟨k+1,?_⟩;(with_reducible repeat'(first|(simp(disch:=omega)only[push_cast,↓zz,seval,pW,h2,hRk1,hpk1,pw,hpk,pT,pD,hR,hQ])|refine Aa ?_ ?_|(first|refine Ac ?_ ?_|refine Ab ?_ ?_)<;>intro hc<;>(try simp only[push_cast] at hc)|omega|intro _))
  ·obtain rfl:k=ws.length:=by omega
   have rE:GD ws ws.length=ws.flatten.map (AV.int .i32):=by simp[GD]
   rw[rE,AZ] at *;refine W_T ?_;(with_reducible repeat'(first|(simp(disch:=omega)only[push_cast,↓zz,seval,pW,HW])|refine Aa ?_ ?_|(first|refine Ac ?_ ?_|refine Ab ?_ ?_)<;>intro hc<;>(try simp only[push_cast] at hc)|omega|intro _))
   all_goals trace_state
theorem Qu(ws:List (List Int))(hk:ws.length<=1000000000)(h0:ws.flatten.length=0):PC Tryz.prog 66 [.lst 1 (ws.map AX)] (AX ws.flatten):=by
 have pW:AY (ws.map AX)=true:=Cf.2 λx hx=>by
  obtain⟨l,_,rfl⟩:=As.1 hx;exact HW l
 have hE:ws.flatten=[]:=AE h0
 have aW:∀k,k<ws.length->(ws.map AX).getD k .any=.lst 1 []:=λk hk=>by
  have:ws[k]=[]:=by
   have:=List.flatten_eq_nil_iff.1 hE _ (Cd hk);exact this
  simp[List.getD,hk,this,AX]
 have hG:=Uo;rw[hE];refine BH FQ ?_;unfold EP;(with_reducible repeat'(first|(simp(disch:=omega)only[push_cast,↓zz,seval,pW])|refine Aa ?_ ?_|(first|refine Ac ?_ ?_|refine Ab ?_ ?_)<;>intro hc<;>(try simp only[push_cast] at hc)|omega|intro _))
 refine Bu (B5 (λ(k:Nat)=>k<=ws.length) (λk=>ws.length-k)
  (λk=>[(0,.lst 1 (ws.map AX)),(3,.int .i64 0),(9,.lst 1 (ws.map AX)),(10,.int .i64 ws.length),(11,.int .i64 k)]) (λ_=>[]) (λ_ _=>[]) 0 (by simp) ?_ ?_)
 ·(with_reducible repeat'(first|(simp(disch:=omega)only[push_cast,↓zz,seval,pW])|refine Aa ?_ ?_|(first|refine Ac ?_ ?_|refine Ab ?_ ?_)<;>intro hc<;>(try simp only[push_cast] at hc)|omega|intro _))
 intro k hkw;rcases Am k ws.length with hkl|hkl
 ·have aK:=aW k hkl
  refine W_T ?_;(with_reducible repeat'(first|(simp(disch:=omega)only[push_cast,↓zz,seval,pW,aK])|refine Aa ?_ ?_|(first|refine Ac ?_ ?_|refine Ab ?_ ?_)<;>intro hc<;>(try simp only[push_cast] at hc)|omega|intro _))
  all_goals
   refine⟨k+1,?_⟩;(with_reducible repeat'(first|(simp(disch:=omega)only[push_cast,↓zz,seval,pW])|refine Aa ?_ ?_|(first|refine Ac ?_ ?_|refine Ab ?_ ?_)<;>intro hc<;>(try simp only[push_cast] at hc)|omega|intro _))
 ·obtain rfl:k=ws.length:=by omega
  refine W_T ?_;(with_reducible repeat'(first|(simp(disch:=omega)only[push_cast,↓zz,seval,pW])|refine Aa ?_ ?_|(first|refine Ac ?_ ?_|refine Ab ?_ ?_)<;>intro hc<;>(try simp only[push_cast] at hc)|refine eK hG ?_|refine eQ hG ?_|refine eG hG ?_|((first|refine cK hG ?_|refine cQ hG ?_|refine cG hG ?_);(simp(disch:=omega)only[push_cast,↓zz,seval,pW]);(fail_if_success change False))|omega|intro _))
  refine Bu (B5 (λ(k:Nat)=>k<=ws.length) (λk=>ws.length-k)
   (λk=>[(6,.ref 0 1 0 0),(25,.lst 1 (ws.map AX)),(26,.int .i64 ws.length),(27,.int .i64 k)]) (λk=>[⟨1,1,false,[]⟩]) (λenv _=>[Cc 1 (env 6)]) 0 (by simp) ?_ ?_)
  ·(with_reducible repeat'(first|(simp(disch:=omega)only[push_cast,↓zz,seval,pW])|refine Aa ?_ ?_|(first|refine Ac ?_ ?_|refine Ab ?_ ?_)<;>intro hc<;>(try simp only[push_cast] at hc)|omega|intro _))
  intro k hkw;rcases Am k ws.length with hkl|hkl
  ·have aK:=aW k hkl
   refine W_T ?_;(with_reducible repeat'(first|(simp(disch:=omega)only[push_cast,↓zz,seval,pW,aK])|refine Aa ?_ ?_|(first|refine Ac ?_ ?_|refine Ab ?_ ?_)<;>intro hc<;>(try simp only[push_cast] at hc)|omega|intro _))
   all_goals
    refine⟨k+1,?_⟩;(with_reducible repeat'(first|(simp(disch:=omega)only[push_cast,↓zz,seval,pW])|refine Aa ?_ ?_|(first|refine Ac ?_ ?_|refine Ab ?_ ?_)<;>intro hc<;>(try simp only[push_cast] at hc)|omega|intro _))
  ·obtain rfl:k=ws.length:=by omega
   refine W_T ?_;(with_reducible repeat'(first|(simp(disch:=omega)only[push_cast,↓zz,seval,pW])|refine Aa ?_ ?_|(first|refine Ac ?_ ?_|refine Ab ?_ ?_)<;>intro hc<;>(try simp only[push_cast] at hc)|omega|intro _))
   all_goals trace_state
theorem Qv(a b:List Int)(hl:a.length+b.length<=1000000000):PC Tryz.prog 66 [.lst 1 [AX a,AX b]] (AX (a++b)):=by
 have e:[a,b].flatten=a++b:=by simp
 have el:[a,b].flatten.length=a.length+b.length:=by rw[e,Ao]
 rw[<-e];rcases Nat.eq_zero_or_pos [a,b].flatten.length with h|h
 ·exact Qu [a,b] (by simp) h
 ·exact S6 [a,b] (by simp) h (by omega)
set_option maxRecDepth 100000
structure Up(d:Desc)(x:List Int)(n:Nat):Prop where
 st:d.states=n
 n1:n<=1024
 start:0<=d.start/\d.start<n
 rl:d.rules.length<=4096
 fl:d.finals.length<=4096
 xl:x.length<=1024
 x32:∀v∈x,-2147483648<=v/\v<=2147483647
 goes:Goes d n
 ff:∀f∈d.finals,0<=f.from_/\f.from_<n
 rb:∀r∈d.rules,(r.guards.length<=1000000/\∀g∈r.guards,g.length<=1000000)/\(r.out.length<=64/\∀t∈r.out,t.parts.length<=1000000)/\0<=r.eat/\r.eat<=1000000
 fb:∀f∈d.finals,(f.guards.length<=1000000/\∀g∈f.guards,g.length<=1000000)/\(f.out.length<=64/\∀t∈f.out,t.parts.length<=1000000)
 cyc:¬cycP d.rules n
def setT(n m:Nat)(S:Nat->Nat->List (List Int)):List AV:=(List.range m).map λp=>Hg (S (p / n) (p % n))
section
variable {n m a t:Nat}{S:Nat->Nat->List (List Int)}
theorem Wj:(setT n m S).length=m:=by simp[setT]
theorem N8:AY (setT n m S)=true:=Cf.2 λx hx=>by
 obtain⟨i,_,rfl⟩:=As.1 hx;exact CE _
theorem z2r{z:AV}(ht:t<n)(hp:a * n+t<m):(setT n m S).getD (a * n+t) z=Hg (S a t):=by
 rw[setT,Ct hp,K4 ht,K5 ht]
theorem z8m{v:List (List Int)}(ht:t<n)(hp:a * n+t<m):(setT n m S).set (a * n+t) (Hg v)=setT n m (setP S a t v):=by
 rw[setT,DK hp,setT];refine AB λp _=>?_;simp only[setP];by_cases e:p=a * n+t
 ·subst e;rw[Ai rfl,K4 ht,K5 ht,Ai ⟨rfl,rfl⟩]
 ·rw[Ah e,Ah λh=>e (VY ht h)]
theorem z2s{l:List Grp}:leSL l (List.replicate m .nilS) (setT n m λ_ _=>[]):=by
 have key:∀(f:Nat->Nat)(q:List Nat),leSL l (List.replicate q.length .nilS) (q.map λ_=>Hg []):=λ_ q=>by
  induction q with
  |nil=>exact rfl
  |cons a q ih=>exact⟨⟨Nat.one_pos,rfl⟩,ih⟩
 have:=key id (List.range m)
 rwa [CJ] at this
end
def outH(d:Desc)(R:AV)(mo n m:Nat)(S:Nat->Nat->List (List Int))(many:Bool):List Grp:=[⟨6,1,true,[Dh d]⟩,⟨1,1,true,[.int .i64 mo]⟩,⟨1,1,true,[R]⟩,⟨1,1,true,setT n m S⟩,⟨1,1,true,[.ref 3 1 0 m]⟩,⟨1,1,true,[.bool many]⟩]
theorem N9{d:Desc}{R:AV}(hR:R.pure=true){mo n m:Nat}{S:Nat->Nat->List (List Int)}{many:Bool}:∀G∈outH d R mo n m S many,ltL 6 G.xs:=λG hG=>by
 simp only[outH,Ag,Al,Ay] at hG;rcases hG with rfl|rfl|rfl|rfl|rfl|rfl
 ·exact Dc _ _ (by simp[AY,HS])
 ·exact⟨trivial,trivial⟩
 ·exact Dc _ _ (by simp[AY,hR])
 ·exact Dc _ _ N8
 ·exact⟨(show 3<6 by omega),trivial⟩
 ·exact⟨trivial,trivial⟩
theorem Wk{d:Desc}{x:List Int}{S:Nat->Nat->List (List Int)}{at_ s B:Nat}(hB:∀r∈d.rules,r.from_=(s:Nat)->goB x r.guards at_=true->(S (at_+r.eat.toNat) r.to_.toNat).length<=B):∀k,k<=(ruI d.rules s).length->(rulW d x S at_ s k).length<=k * B
 |0,_=>by simp[rulW]
 |k+1,hk=>by
  have ih:=Wk hB k (by omega);obtain⟨i1,i2⟩:=H5.1 (BA (show k<(ruI d.rules s).length by omega));have e:(k+1) * B=k * B+B:=FT k B;cases hg:goB x (nth d.rules (nth (ruI d.rules s) k)).guards at_ with
  |true =>
   rw[Wg (by omega) rfl hg,Ao,Br];have:=hB _ (BA i1) i2 hg;omega
  |false =>
   rw[z2l (by omega) rfl hg];omega
def putW(d:Desc)(x:List Int)(S:Nat->Nat->List (List Int))(at_ s k:Nat):List (List Int):=finW d x at_ s (fiI d.finals s).length++rulW d x S at_ s k
def putQ(A:List (List Int))(h:List Int)(W:List (List Int))(q:Nat):List (List Int):=A++(W.take q).map (h++·)
theorem z2t{A:List (List Int)}{h:List Int}{W:List (List Int)}:putQ A h W 0=A:=by simp[putQ]
theorem z2u{A:List (List Int)}{h:List Int}{W:List (List Int)}{q:Nat}(hq:q<W.length):putQ A h W (q+1)=putQ A h W q++[h++nth W q]:=by
 rw[putQ,putQ,take_at hq,A9,AA];rfl
theorem z8n{A:List (List Int)}{h:List Int}{W:List (List Int)}{q:Nat}:(putQ A h W q).length<=A.length+W.length:=by
 simp[putQ];omega
theorem z8o{d:Desc}{x:List Int}{n:Nat}{ord:List Nat}{L:Nat->Nat->Bool}{mo a j:Nat}{S:Nat->Nat->List (List Int)}(hI:OutI d x L ord mo a j S false)(hl:LivE d x n L)(hg:Goes d n)(ht:Topo d.rules n ord)(hj:j<n)(ha:a<=x.length)(hlv:L a (nth ord j)=true)
 {r:Rule} (hr:r∈d.rules) (hf:r.from_=(nth ord j:Nat)) (hgo:goB x r.guards a=true):S (a+r.eat.toNat) r.to_.toNat=outW d x (a+r.eat.toNat) (r.to_.toNat:Nat)/\(S (a+r.eat.toNat) r.to_.toNat).length<=mo/\L (a+r.eat.toNat) r.to_.toNat=true/\a+r.eat.toNat<=x.length/\r.to_.toNat<n:=by
 obtain⟨_,htt,e1,e2⟩:=hg.r r hr;have hle:=K3 hgo;have hlt:=hl.clos _ _ hlv r hr hf hgo;have h1:=hI.no rfl (a+r.eat.toNat) r.to_.toNat (by omega) hlt (Ui hg ht hj hr hf);exact⟨h1.1,h1.2,hlt,by omega,by omega⟩
theorem z2v(d:Desc)(x:List Int){n:Nat}(hk:Up d x n){ord:List Nat}{L:Nat->Nat->Bool}(ht:Topo d.rules n ord)(hl:LivE d x n L)(mo:Nat)(hmo:mo<=9000000000000000000)(hB:Nat.min mo (outW d x 0 d.start).length<=200000)
 (a j:Nat) (S:Nat->Nat->List (List Int)) (many:Bool) (ha:a<=x.length) (hj:j<n) (hI:OutI d x L ord mo a j S many) (hlv:L a (nth ord j)=true) :
 BN Tryz.prog 62 [.int .i64 a,.int .i64 (nth ord j:Nat),.ptr 5 1 0 0,.ptr 2 1 0 0,.ptr 0 1 0 0,.ptr 4 1 0 0,.ptr 1 1 0 0]
  (Abs.hl (outH d (E4 d x (ruV d.rules n) (fiV d.finals n) (.lst 1 (ord.map e1)) (.lst 1 (lvB n ((x.length+1) * n) L))) mo n ((x.length+1) * n) S many)) λy H'=>y=.tup []/\∃(s':(Nat->Nat->List (List Int)) × Bool),
   H'=Abs.hl (outH d (E4 d x (ruV d.rules n) (fiV d.finals n) (.lst 1 (ord.map e1)) (.lst 1 (lvB n ((x.length+1) * n) L))) mo n ((x.length+1) * n) s'.1 s'.2)/\OutI d x L ord mo a (j+1) s'.1 s'.2:=by
 have pR:=BS d.rules;have pFi:=BI d.finals;have pX:AY (x.map (AV.int .i32))=true:=BK .i32 _;have pO:AY (ord.map e1)=true:=EJ (λ_=>rfl) _;have pL:AY (lvB n ((x.length+1) * n) L)=true:=Mg;have pRU:AY (fD 1 e1 n (ruI d.rules))=true:=FZ λ_=>rfl;have pFI:AY (fD 1 e1 n (fiI d.finals))=true:=FZ λ_=>rfl;have lRU:(fD 1 e1 n (ruI d.rules)).length=n:=VS;have lFI:(fD 1 e1 n (fiI d.finals)).length=n:=VS;have hdn:=hk.st;have hn:=hk.n1;have hx:=hk.xl;have hol:=EW ht;have htn:nth ord j<n:=(ht.all _).1 (BA (by omega));have hgoes:=hk.goes;have hmx:(x.length+1) * n<=1025 * 1024:=C8 (by omega) hn;have hpm:=GQ htn ha;unfold ruV fiV;refine Jq (Mr MG (W_T ?_));unfold IB;cases many with
 |true =>
  generalize fD 1 e1 n (ruI d.rules)=RU at *;generalize fD 1 e1 n (fiI d.finals)=FI at *;unfold outH;(with_reducible repeat'(first|(simp(disch:=omega)only[push_cast,↓zz,seval])|refine Aa ?_ ?_|(first|refine Ac ?_ ?_|refine Ab ?_ ?_)<;>intro hc<;>(try simp only[push_cast] at hc)|omega|intro _))
  all_goals exact⟨_,_,Ent.refl,rfl,(S,true),rfl,z1z hI _ _⟩
 |false =>
  have hto:=λr hr hf hgo=>z8o hI hl hgoes ht hj ha hlv (r:=r) hr hf hgo
  have hSB:∀r∈d.rules,r.from_=(nth ord j:Nat)->goB x r.guards a=true->(S (a+r.eat.toNat) r.to_.toNat).length<=200000:=λr hr hf hgo=>by
   obtain⟨h1,h2,h3,h4,h5⟩:=hto r hr hf hgo;have h6:=z8b hl hgoes ht hk.start h3;rw[<-h1] at h6;exact By (Nat.le_min.2 ⟨h2,h6⟩) hB
  have hwl:∀r∈d.rules,r.from_=(nth ord j:Nat)->goB x r.guards a=true->∀w∈S (a+r.eat.toNat) r.to_.toNat,w.length<=100000000:=λr hr hf hgo w hw=>by
   obtain⟨h1,h2,h3,h4,h5⟩:=hto r hr hf hgo;rw[h1] at hw;exact Qs hgoes ht ⟨λr hr=>(hk.rb r hr).2.1.1,λf hf=>(hk.fb f hf).2.1⟩ hn hx h4 h5 (((LH hgoes ht h4 h5).2 w).1 hw)
  have hMeq:=zek hI hl hgoes ht hj ha hlv;rw[<-z2m] at hMeq;have hnext:=z2b hI hl hgoes ht hj ha hlv (M:=Jv (allW d x S a (nth ord j))) hMeq;have hRL:=Wk (d:=d) (x:=x) (S:=S) (at_:=a) (s:=nth ord j) hSB;have aR:(fD 1 e1 n (ruI d.rules)).getD (nth ord j) .any=.lst 1 ((ruI d.rules (nth ord j)).map e1):=z7y htn;have aR2:(fD 1 e1 n (ruI d.rules))[nth ord j]? = some (.lst 1 ((ruI d.rules (nth ord j)).map e1)):=VT htn;have aF:(fD 1 e1 n (fiI d.finals)).getD (nth ord j) .any=.lst 1 ((fiI d.finals (nth ord j)).map e1):=z7y htn;have aF2:(fD 1 e1 n (fiI d.finals))[nth ord j]? = some (.lst 1 ((fiI d.finals (nth ord j)).map e1)):=VT htn;have pRI:AY ((ruI d.rules (nth ord j)).map e1)=true:=EJ (λ_=>rfl) _;have pFJ:AY ((fiI d.finals (nth ord j)).map e1)=true:=EJ (λ_=>rfl) _;have hrI:=Uc d.rules (nth ord j);have hfI:=zel d.finals (nth ord j);have hrl:=hk.rl;have hfl:=hk.fl;have pST:AY (setT n ((x.length+1) * n) S)=true:=N8;have lST:(setT n ((x.length+1) * n) S).length=(x.length+1) * n:=Wj;have aST:∀b t,b<=x.length->t<n->(setT n ((x.length+1) * n) S).getD (b * n+t) .any=Hg (S b t):=λb t hb htn=>z2r htn (GQ htn hb);have sST:=λv=>z8m (v:=v) (S:=S) htn hpm;have pl:∀b t,b<=x.length->t<n->b * n+t<(x.length+1) * n:=λb t hb htn=>GQ htn hb;generalize hRUe:fD 1 e1 n (ruI d.rules)=RU at *;generalize hFIe:fD 1 e1 n (fiI d.finals)=FI at *;generalize hme:(x.length+1) * n=m at *;generalize hLVe:lvB n m L=LV at *;generalize hODe:ord.map e1=OD at *;have hEnds:=λ(f:FP) (hf:f∈d.finals)=>z7t d x (.lst 1 RU) (.lst 1 FI) (.lst 1 OD) (.lst 1 LV) f a pRU pFI pO pL (by omega) hk.x32 (hk.fb f hf).1.2 (hk.fb f hf).1.1 (by omega);have hWf:=λ(f:FP) (hf:f∈d.finals) (hgo:goB x f.guards a=true)=>OQ d x (.lst 1 RU) (.lst 1 FI) (.lst 1 OD) (.lst 1 LV) f.out a f.guards.length pRU pFI pO pL (by omega) hk.x32 (by have:=(hk.fb f hf).2.1;omega) (hk.fb f hf).2.2 (by have:=K3 hgo;omega);have hFits:=λ(r:Rule) (hr:r∈d.rules)=>Qm d x (.lst 1 RU) (.lst 1 FI) (.lst 1 OD) (.lst 1 LV) r.guards a pRU pFI pO pL (by omega) hk.x32 (hk.rb r hr).1.2 (hk.rb r hr).1.1 (by omega);have hWr:=λ(r:Rule) (hr:r∈d.rules) (hgo:goB x r.guards a=true)=>OQ d x (.lst 1 RU) (.lst 1 FI) (.lst 1 OD) (.lst 1 LV) r.out a r.guards.length pRU pFI pO pL (by omega) hk.x32 (by have:=(hk.rb r hr).2.1.1;omega) (hk.rb r hr).2.1.2 (by have:=K3 hgo;omega);have pRn:(E4 d x (.lst 1 RU) (.lst 1 FI) (.lst 1 OD) (.lst 1 LV)).pure=true:=by simp[AV.pure,AY,pR,pFi,pX,pO,pL,pRU,pFI]
  have hcl:=λS many=>N9 (d:=d) (R:=E4 d x (.lst 1 RU) (.lst 1 FI) (.lst 1 OD) (.lst 1 LV)) pRn (mo:=mo) (n:=n) (m:=m) (S:=S) (many:=many);generalize nth ord j=s at *;obtain⟨F,hF⟩:∃F,F=finW d x a s (fiI d.finals s).length:=⟨_,rfl⟩;have hFlen:F.length<=4096:=by rw[hF];have:=Wh (d:=d) (x:=x) (at_:=a) (s:=s) (k:=(fiI d.finals s).length);omega
  unfold outH;generalize hSTe:setT n m S=ST at *;(with_reducible repeat'(first|(simp(disch:=omega)only[push_cast,↓zz,seval,pR,pFi,pX,pO,pL,pRU,pFI,aF,aF2,lFI,pST,lST])|refine Aa ?_ ?_|(first|refine Ac ?_ ?_|refine Ab ?_ ?_)<;>intro hc<;>(try simp only[push_cast] at hc)|omega|intro _))
  refine Bu (B5 (λ(k:Nat)=>k<=(fiI d.finals s).length) (λk=>(fiI d.finals s).length-k)
   (λk=>[(0,.int .i64 a),(1,.int .i64 s),(2,.ptr 5 1 0 0),(3,.ptr 2 1 0 0),(4,.ptr 0 1 0 0),(5,.ptr 4 1 0 0),(6,.ptr 1 1 0 0),(9,.ref 6 1 0 (finW d x a s k).length),(26,.lst 1 ((fiI d.finals s).map e1)),(27,.int .i64 (fiI d.finals s).length),(28,.int .i64 k)])
   (λk=>[⟨6,1,true,[Dh d]⟩,⟨1,1,true,[.int .i64 mo]⟩,⟨1,1,true,[E4 d x (.lst 1 RU) (.lst 1 FI) (.lst 1 OD) (.lst 1 LV)]⟩,⟨1,1,true,ST⟩,⟨1,1,true,[.ref 3 1 0 m]⟩,⟨1,1,true,[.bool false]⟩,⟨1,1,false,(finW d x a s k).map AX⟩]) (λenv _=>[Cc 1 (env 9)]) 0 (AI _) ?_ ?_)
  ·(with_reducible repeat'(first|(simp(disch:=omega)only[push_cast,↓zz,seval,pR,pFi,pX,pO,pL,pRU,pFI,pST,pFJ,z2j,List.length_nil,Bw])|refine Aa ?_ ?_|(first|refine Ac ?_ ?_|refine Ab ?_ ?_)<;>intro hc<;>(try simp only[push_cast] at hc)|omega|intro _))
  intro k hkk;rcases Am k (fiI d.finals s).length with hkl|hkl
  ·obtain⟨i,hi⟩:∃i,i=nth (fiI d.finals s) k:=⟨_,rfl⟩
   have him:i∈fiI d.finals s:=by rw[hi];exact BA hkl
   obtain⟨i1,i2⟩:=Ul.1 him;have aI:((fiI d.finals s).map e1).getD k .any=.int .i64 i:=by rw[hi];simp[nth,List.getD,hkl]
   have hE:=hEnds _ (BA i1);have hW:=hWf _ (BA i1);have hyes:=λf hf h=>z8g (d:=d) (x:=x) (at_:=a) (s:=s) hkl (f:=f) hf h;have hno:=λf hf h=>zem (d:=d) (x:=x) (at_:=a) (s:=s) hkl (f:=f) hf h;rw[<-hi] at hyes hno;have hyes:=hyes _ rfl;have hno:=hno _ rfl;have hlen:=Wh (d:=d) (x:=x) (at_:=a) (s:=s) (k:=k);generalize hfe:nth d.finals i=f at *;have hgr:=AO f.guards;have hot:=Co f.out;generalize finW d x a s k=A at *;have pA:=CE A;cases hb:(decide (f.guards.length+a=x.length)&&goB x f.guards a) with
   |true =>
    rw[hb] at hE;have hyes:=hyes hb;have hgo:goB x f.guards a=true:=by simp only[Ad] at hb;exact hb.2
    have hW:=hW hgo;have pw:AY ((GK x f.out f.guards a).map (AV.int .i32))=true:=BK .i32 _;rw[show Gn f.out ((x.drop a).take f.guards.length)=GK x f.out f.guards a from rfl] at hW;generalize GK x f.out f.guards a=w at *;refine W_T ?_;(with_reducible repeat'(first|(simp(disch:=omega)only[push_cast,↓zz,seval,pR,pFi,pX,pO,pL,pRU,pFI,pST,pFJ,aI,hfe,hgr,hot,pA,pw])|refine Aa ?_ ?_|(first|refine Ac ?_ ?_|refine Ab ?_ ?_)<;>intro hc<;>(try simp only[push_cast] at hc)|refine eK hE ?_|refine eQ hE ?_|refine eG hE ?_|refine eK hW ?_|refine eQ hW ?_|refine eG hW ?_|((first|refine cK hE ?_|refine cQ hE ?_|refine cG hE ?_|refine cK hW ?_|refine cQ hW ?_|refine cG hW ?_);(simp(disch:=omega)only[push_cast,↓zz,seval,pR,pFi,pX,pO,pL,pRU,pFI,pST,pFJ,aI,hfe,hgr,hot,pA,pw]);(fail_if_success change False))|omega|intro _))
    all_goals
     refine⟨k+1,?_⟩;(with_reducible repeat'(first|(simp(disch:=omega)only[push_cast,↓zz,seval,pR,pFi,pX,pO,pL,pRU,pFI,pST,pFJ,hyes,pA,pw])|refine Aa ?_ ?_|(first|refine Ac ?_ ?_|refine Ab ?_ ?_)<;>intro hc<;>(try simp only[push_cast] at hc)|omega|intro _))
   |false =>
    rw[hb] at hE;have hno:=hno hb;refine W_T ?_;(with_reducible repeat'(first|(simp(disch:=omega)only[push_cast,↓zz,seval,pR,pFi,pX,pO,pL,pRU,pFI,pST,pFJ,aI,hfe,hgr,hot,pA])|refine Aa ?_ ?_|(first|refine Ac ?_ ?_|refine Ab ?_ ?_)<;>intro hc<;>(try simp only[push_cast] at hc)|refine eK hE ?_|refine eQ hE ?_|refine eG hE ?_|((first|refine cK hE ?_|refine cQ hE ?_|refine cG hE ?_);(simp(disch:=omega)only[push_cast,↓zz,seval,pR,pFi,pX,pO,pL,pRU,pFI,pST,pFJ,aI,hfe,hgr,hot,pA]);(fail_if_success change False))|omega|intro _))
    all_goals
     refine⟨k+1,?_⟩;(with_reducible repeat'(first|(simp(disch:=omega)only[push_cast,↓zz,seval,pR,pFi,pX,pO,pL,pRU,pFI,pST,pFJ,hno,pA])|refine Aa ?_ ?_|(first|refine Ac ?_ ?_|refine Ab ?_ ?_)<;>intro hc<;>(try simp only[push_cast] at hc)|omega|intro _))
  obtain rfl:k=(fiI d.finals s).length:=by omega
  rw[<-hF];have pF:=CE F;have hP0:putW d x S a s 0=F:=by rw[putW,z2k,AH,hF]
  refine W_T ?_;(with_reducible repeat'(first|(simp(disch:=omega)only[push_cast,↓zz,seval,pR,pFi,pX,pO,pL,pRU,pFI,pST,pFJ,aR,aR2,lRU,pF])|refine Aa ?_ ?_|(first|refine Ac ?_ ?_|refine Ab ?_ ?_)<;>intro hc<;>(try simp only[push_cast] at hc)|omega|intro _))
  refine Bu (B5 (λ(k:Nat)=>k<=(ruI d.rules s).length) (λk=>(ruI d.rules s).length-k)
   (λk=>[(0,.int .i64 a),(1,.int .i64 s),(2,.ptr 5 1 0 0),(3,.ptr 2 1 0 0),(4,.ptr 0 1 0 0),(5,.ptr 4 1 0 0),(6,.ptr 1 1 0 0),(9,.ref 6 1 0 (putW d x S a s k).length),(59,.lst 1 ((ruI d.rules s).map e1)),(60,.int .i64 (ruI d.rules s).length),(61,.int .i64 k)])
   (λk=>[⟨6,1,true,[Dh d]⟩,⟨1,1,true,[.int .i64 mo]⟩,⟨1,1,true,[E4 d x (.lst 1 RU) (.lst 1 FI) (.lst 1 OD) (.lst 1 LV)]⟩,⟨1,1,true,ST⟩,⟨1,1,true,[.ref 3 1 0 m]⟩,⟨1,1,true,[.bool false]⟩,⟨1,1,false,(putW d x S a s k).map AX⟩]) (λenv _=>[Cc 1 (env 9)]) 0 (AI _) ?_ ?_)
  ·(with_reducible repeat'(first|(simp(disch:=omega)only[push_cast,↓zz,seval,pR,pFi,pX,pO,pL,pRU,pFI,pST,pRI,pF,hP0])|refine Aa ?_ ?_|(first|refine Ac ?_ ?_|refine Ab ?_ ?_)<;>intro hc<;>(try simp only[push_cast] at hc)|omega|intro _))
  intro k hkk;have hRk:=hRL k hkk
  have hlk:(putW d x S a s k).length<=900000000:=by
   rw[putW,Ao,<-hF];have:k * 200000<=4096 * 200000:=AQ _ (by omega);omega
  rcases Am k (ruI d.rules s).length with hkl|hkl
  ·obtain⟨i,hi⟩:∃i,i=nth (ruI d.rules s) k:=⟨_,rfl⟩
   have him:i∈ruI d.rules s:=by rw[hi];exact BA hkl
   obtain⟨i1,i2⟩:=H5.1 him;have aI:((ruI d.rules s).map e1).getD k .any=.int .i64 i:=by rw[hi];simp[nth,List.getD,hkl]
   have hr:=BA i1;have hE:=hFits _ hr;have hW:=hWr _ hr;have hyes:=λr hf h=>Wg (d:=d) (x:=x) (S:=S) (at_:=a) (s:=s) hkl (r:=r) hf h;have hno:=λr hf h=>z2l (d:=d) (x:=x) (S:=S) (at_:=a) (s:=s) hkl (r:=r) hf h;rw[<-hi] at hyes hno;have hyes:=hyes _ rfl;have hno:=hno _ rfl;have hto:=hto _ hr i2;have hSB:=hSB _ hr i2;have hwl:=hwl _ hr i2;obtain⟨_,htt,e1',e2'⟩:=hgoes.r _ hr;have heb:=(hk.rb _ hr).2.2;have hol:=(hk.rb _ hr).2.1.1;generalize hre:nth d.rules i=r at *;have hgr:=AO r.guards;have hot:=Co r.out;obtain⟨e,he⟩:∃e:Nat,r.eat=e:=⟨r.eat.toNat,by omega⟩;obtain⟨t,htq⟩:∃t:Nat,r.to_=t:=⟨r.to_.toNat,by omega⟩;have het:r.eat.toNat=e:=by omega
   have htt2:r.to_.toNat=t:=by omega
   rw[het,htt2] at hyes hto hSB hwl;generalize hAe:putW d x S a s k=A at *;have pA:=CE A;cases hb:goB x r.guards a with
   |false =>
    rw[hb] at hE;have hno:putW d x S a s (k+1)=A:=by rw[putW,hno hb];exact hAe
    refine W_T ?_;(with_reducible repeat'(first|(simp(disch:=omega)only[push_cast,↓zz,seval,pR,pFi,pX,pO,pL,pRU,pFI,pST,pRI,aI,hre,hgr,hot,pA])|refine Aa ?_ ?_|(first|refine Ac ?_ ?_|refine Ab ?_ ?_)<;>intro hc<;>(try simp only[push_cast] at hc)|refine eK hE ?_|refine eQ hE ?_|refine eG hE ?_|((first|refine cK hE ?_|refine cQ hE ?_|refine cG hE ?_);(simp(disch:=omega)only[push_cast,↓zz,seval,pR,pFi,pX,pO,pL,pRU,pFI,pST,pRI,aI,hre,hgr,hot,pA]);(fail_if_success change False))|omega|intro _))
    all_goals
     refine⟨k+1,?_⟩;(with_reducible repeat'(first|(simp(disch:=omega)only[push_cast,↓zz,seval,pR,pFi,pX,pO,pL,pRU,pFI,pST,pRI,hno,pA])|refine Aa ?_ ?_|(first|refine Ac ?_ ?_|refine Ab ?_ ?_)<;>intro hc<;>(try simp only[push_cast] at hc)|omega|intro _))
   |true =>
    rw[hb] at hE;have hyes:=hyes hb;have hW:=hW hb;obtain⟨h1,h2,h3,h4,h5⟩:=hto hb;have hSB:=hSB hb;have hwl:=hwl hb;have hle:=K3 hb;have pw:AY ((GK x r.out r.guards a).map (AV.int .i32))=true:=BK .i32 _;have hhl:(GK x r.out r.guards a).length<=64:=by simp[GK,Gn];omega
    rw[show Gn r.out ((x.drop a).take r.guards.length)=GK x r.out r.guards a from rfl] at hW;have hAn:putW d x S a s (k+1)=putQ A (GK x r.out r.guards a) (S (a+e) t) (S (a+e) t).length:=by rw[putW,hyes,<-AA,putQ,AZ,<-hAe];rfl
    have aT:=aST (a+e) t h4 h5;have hpl:=pl (a+e) t h4 h5;have hae:(a:Int)+(e:Int)=((a+e:Nat):Int):=by norm_cast
    have hmul:((a+e:Nat):Int) * (n:Int)=(((a+e) * n:Nat):Int):=by norm_cast
    have hmulb:(a+e) * n<=1024 * 1024:=C8 (by omega) hn;generalize GK x r.out r.guards a=h at *;generalize S (a+e) t=Wd at *;generalize hpe:(a+e) * n+t=p at *;generalize (a+e) * n=an at *;have hpi:(an:Int)+(t:Int)=(p:Int):=by omega
    generalize hbe:a+e=b at *;have pWd:=CE Wd;refine W_T ?_;(with_reducible repeat'(first|(simp(disch:=omega)only[push_cast,↓zz,seval,pR,pFi,pX,pO,pL,pRU,pFI,pST,lST,pRI,aI,hre,hgr,hot,pA,pw,he,htq,hae,hdn,hmul,hpi,aT,pWd])|refine Aa ?_ ?_|(first|refine Ac ?_ ?_|refine Ab ?_ ?_)<;>intro hc<;>(try simp only[push_cast] at hc)|refine eK hE ?_|refine eQ hE ?_|refine eG hE ?_|refine eK hW ?_|refine eQ hW ?_|refine eG hW ?_|((first|refine cK hE ?_|refine cQ hE ?_|refine cG hE ?_|refine cK hW ?_|refine cQ hW ?_|refine cG hW ?_);(simp(disch:=omega)only[push_cast,↓zz,seval,pR,pFi,pX,pO,pL,pRU,pFI,pST,lST,pRI,aI,hre,hgr,hot,pA,pw,he,htq,hae,hdn,hmul,hpi,aT,pWd]);(fail_if_success change False))|omega|intro _))
    refine Bu (B5 (λ(q:Nat)=>q<=Wd.length) (λq=>Wd.length-q)
     (λq=>[(0,.int .i64 a),(1,.int .i64 s),(2,.ptr 5 1 0 0),(3,.ptr 2 1 0 0),(4,.ptr 0 1 0 0),(5,.ptr 4 1 0 0),(6,.ptr 1 1 0 0),(9,.ref 6 1 0 (putQ A h Wd q).length),(16,AX h),(59,.lst 1 ((ruI d.rules s).map e1)),(60,.int .i64 (ruI d.rules s).length),(61,.int .i64 k),(96,Hg Wd),(97,.int .i64 Wd.length),(98,.int .i64 q)])
     (λq=>[⟨6,1,true,[Dh d]⟩,⟨1,1,true,[.int .i64 mo]⟩,⟨1,1,true,[E4 d x (.lst 1 RU) (.lst 1 FI) (.lst 1 OD) (.lst 1 LV)]⟩,⟨1,1,true,ST⟩,⟨1,1,true,[.ref 3 1 0 m]⟩,⟨1,1,true,[.bool false]⟩,⟨1,1,false,(putQ A h Wd q).map AX⟩]) (λenv _=>[Cc 1 (env 9)]) 0 (AI _) ?_ ?_)
    ·(with_reducible repeat'(first|(simp(disch:=omega)only[push_cast,↓zz,seval,pR,pFi,pX,pO,pL,pRU,pFI,pST,pRI,pA,pw,pWd,z2t])|refine Aa ?_ ?_|(first|refine Ac ?_ ?_|refine Ab ?_ ?_)<;>intro hc<;>(try simp only[push_cast] at hc)|omega|intro _))
    intro q hq;have hAq:(putQ A h Wd q).length<=901000000:=by have:=z8n (A:=A) (h:=h) (W:=Wd) (q:=q);omega
    rcases Am q Wd.length with hql|hql
    ·have hC:=Qv h (nth Wd q) (by have:=hwl _ (BA hql);omega)
     have hnx:=z2u (A:=A) (h:=h) hql;have pv:AY ((h++nth Wd q).map (AV.int .i32))=true:=BK .i32 _;have pv2:AY ((nth Wd q).map (AV.int .i32))=true:=BK .i32 _;generalize hwe:nth Wd q=w at *;generalize hAqe:putQ A h Wd q=A2 at *;have pA2:=CE A2;generalize hve:h++w=v at *;refine W_T ?_;(with_reducible repeat'(first|(simp(disch:=omega)only[push_cast,↓zz,seval,pR,pFi,pX,pO,pL,pRU,pFI,pST,pRI,pA2,pw,pWd,hwe,pv,pv2])|refine Aa ?_ ?_|(first|refine Ac ?_ ?_|refine Ab ?_ ?_)<;>intro hc<;>(try simp only[push_cast] at hc)|refine eK hC ?_|refine eQ hC ?_|refine eG hC ?_|((first|refine cK hC ?_|refine cQ hC ?_|refine cG hC ?_);(simp(disch:=omega)only[push_cast,↓zz,seval,pR,pFi,pX,pO,pL,pRU,pFI,pST,pRI,pA2,pw,pWd,hwe,pv,pv2]);(fail_if_success change False))|omega|intro _))
     all_goals
      refine⟨q+1,?_⟩;(with_reducible repeat'(first|(simp(disch:=omega)only[push_cast,↓zz,seval,pR,pFi,pX,pO,pL,pRU,pFI,pST,pRI,pA2,pw,pWd,hnx,pv])|refine Aa ?_ ?_|(first|refine Ac ?_ ?_|refine Ab ?_ ?_)<;>intro hc<;>(try simp only[push_cast] at hc)|omega|intro _))
    ·obtain rfl:q=Wd.length:=by omega
     rw[<-hAn] at *;have pA3:=CE (putW d x S a s (k+1));refine W_T ?_;(with_reducible repeat'(first|(simp(disch:=omega)only[push_cast,↓zz,seval,pR,pFi,pX,pO,pL,pRU,pFI,pST,pRI,pA3,pw,pWd])|refine Aa ?_ ?_|(first|refine Ac ?_ ?_|refine Ab ?_ ?_)<;>intro hc<;>(try simp only[push_cast] at hc)|omega|intro _))
     all_goals
      refine⟨k+1,?_⟩;(with_reducible repeat'(first|(simp(disch:=omega)only[push_cast,↓zz,seval,pR,pFi,pX,pO,pL,pRU,pFI,pST,pRI,pA3])|refine Aa ?_ ?_|(first|refine Ac ?_ ?_|refine Ab ?_ ?_)<;>intro hc<;>(try simp only[push_cast] at hc)|omega|intro _))
  ·obtain rfl:k=(ruI d.rules s).length:=by omega
   have hall:putW d x S a s (ruI d.rules s).length=allW d x S a s:=rfl;have hlk:(allW d x S a s).length<=900000000:=hlk;rw[hall]
   have hSo:=z2q (allW d x S a s) (by omega) (λw hw=>by
    have h1:w∈outW d x a (s:Nat):=by rw[<-hMeq,IP];exact hw
    have h2:w.length<=100000000:=Qs hgoes ht ⟨λr hr=>(hk.rb r hr).2.1.1,λf hf=>(hk.fb f hf).2.1⟩ hn hx ha htn (((LH hgoes ht ha htn).2 w).1 h1)
    exact By h2 (by decide))
   have hML:=Sk (allW d x S a s);have pA:=CE (allW d x S a s);generalize allW d x S a s=A at *;generalize Jv A=M at *;have pM:=CE M;have hmul:(a:Int) * (n:Int)=((a * n:Nat):Int):=by norm_cast
   have hmulb:a * n<=1024 * 1024:=C8 (by omega) hn;have sM:=sST M;generalize hpe:a * n+s=p at *;generalize a * n=an at *;have hpi:(an:Int)+(s:Int)=(p:Int):=by omega
   have hdec:decide ((mo:Int)<(M.length:Int))=decide (mo<M.length):=Ep.2 (by omega);refine W_T ?_;(with_reducible repeat'(first|(simp(disch:=omega)only[push_cast,↓zz,seval,pR,pFi,pX,pO,pL,pRU,pFI,pST,lST,pA,pM,hdn,hmul,hpi,sM])|refine Aa ?_ ?_|(first|refine Ac ?_ ?_|refine Ab ?_ ?_)<;>intro hc<;>(try simp only[push_cast] at hc)|refine eK hSo ?_|refine eQ hSo ?_|refine eG hSo ?_|((first|refine cK hSo ?_|refine cQ hSo ?_|refine cG hSo ?_);(simp(disch:=omega)only[push_cast,↓zz,seval,pR,pFi,pX,pO,pL,pRU,pFI,pST,lST,pA,pM,hdn,hmul,hpi,sM]);(fail_if_success change False))|omega|intro _));rw[hdec];exact⟨_,_,VX (l0:=outH d (E4 d x (.lst 1 RU) (.lst 1 FI) (.lst 1 OD) (.lst 1 LV)) mo n m (setP S a s M) (decide (mo<M.length))) (gar:=[⟨0,2,false,[]⟩]) rfl (Ae _) (hcl _ _) trivial,rfl,(setP S a s M,decide (mo<M.length)),rfl,hnext⟩
theorem Uq{P:Program}{f:Nat}{xs:List AV}{l l':List Grp}{K:AV->Aw->Prop}(h:BN P f xs (Abs.hl l') K)(hle:H9 l l l'):BN P f xs (Abs.hl l) K:=⟨h.1,λS cargs hS hx=>h.2 S cargs (HA hS hle) hx⟩
noncomputable def outA (d:Desc) (x:List Int) (mo:Nat):AV:=if (outW d x 0 d.start).length<=mo then .tup [Hg (outW d x 0 d.start),.int .i64 0] else .tup [.nilS,.int .i64 5]
theorem z8p{d:Desc}{x:List Int}{n:Nat}(hk:Up d x n):BN Tryz.prog 60 [Dh d,AX x] (Abs.hl []) λy H'=>H'=Abs.hl []/\∃ord L,y=E4 d x (ruV d.rules n) (fiV d.finals n) (.lst 1 (ord.map e1)) (.lst 1 (lvB n ((x.length+1) * n) L))/\Topo d.rules n ord/\LivE d x n L :=
 z2f d x hk.st hk.n1 hk.rl hk.fl hk.start hk.goes hk.cyc hk.ff hk.xl hk.x32 λr hr=>⟨(hk.rb r hr).1,(hk.rb r hr).2.2⟩
theorem Ur(d:Desc)(x:List Int){n:Nat}(hk:Up d x n)(hq:PC Tryz.prog 59 [Dh d,AX x] (.int .i64 0))(mo:Nat)(h1:1<=mo)(hmo:mo<=9000000000000000000)(hB:Nat.min mo (outW d x 0 d.start).length<=200000):
 PC Tryz.prog 26 [Dh d,AX x,.int .i64 mo] (outA d x mo):=by
 have pR:=BS d.rules;have pFi:=BI d.finals;have pX:AY (x.map (AV.int .i32))=true:=BK .i32 _;have hBe:=z8p hk;have hdn:=hk.st;refine BH Ii ?_;unfold GN;(with_reducible repeat'(first|(simp(disch:=omega)only[push_cast,↓zz,seval,pR,pFi,pX])|refine Aa ?_ ?_|(first|refine Ac ?_ ?_|refine Ab ?_ ?_)<;>intro hc<;>(try simp only[push_cast] at hc)|refine eK hq ?_|refine eQ hq ?_|refine eG hq ?_|((first|refine cK hq ?_|refine cQ hq ?_|refine cG hq ?_);(simp(disch:=omega)only[push_cast,↓zz,seval,pR,pFi,pX]);(fail_if_success change False))|omega|intro _))
 (refine Ig [] (hBe) (by decide) (by simp) (by (simp(disch:=omega)only[push_cast,↓zz,seval])) (by (simp(disch:=omega)only[push_cast,↓zz,seval])) (by (simp(disch:=omega)only[push_cast,↓zz,seval])) (by (simp(disch:=omega)only[push_cast,↓zz,seval,Ag,Al,Ay,Ce,CV,Cs])) ?_)
 rintro y H' ⟨rfl,ord,L,rfl,ht,hl⟩;refine⟨_,rfl,by simp,?_⟩;have hmx:(x.length+1) * n<=1025 * 1024:=C8 (by have:=hk.xl;omega) hk.n1;have pO:AY (ord.map e1)=true:=EJ (λ_=>rfl) _;have pL:AY (lvB n ((x.length+1) * n) L)=true:=Mg;have lL:(lvB n ((x.length+1) * n) L).length=(x.length+1) * n:=JS;have pRU:AY (fD 1 e1 n (ruI d.rules))=true:=FZ λ_=>rfl;have pFI:AY (fD 1 e1 n (fiI d.finals))=true:=FZ λ_=>rfl;have pRn:(E4 d x (ruV d.rules n) (fiV d.finals n) (.lst 1 (ord.map e1)) (.lst 1 (lvB n ((x.length+1) * n) L))).pure=true:=by simp[AV.pure,AY,pR,pFi,pX,pO,pL,pRU,pFI,ruV,fiV]
 have hbk:=z8j (σ:=(Nat->Nat->List (List Int)) × Bool) d x (ruV d.rules n) (fiV d.finals n) pRU pFI hdn hk.n1 hk.xl ht (L:=L) 62 [.ptr 5 1 0 0,.ptr 2 1 0 0,.ptr 0 1 0 0,.ptr 4 1 0 0,.ptr 1 1 0 0] 6
  (λs=>outH d (E4 d x (ruV d.rules n) (fiV d.finals n) (.lst 1 (ord.map e1)) (.lst 1 (lvB n ((x.length+1) * n) L))) mo n ((x.length+1) * n) s.1 s.2) (λ_=>rfl) (λ_=>N9 pRn) ⟨(show 5<6 by omega),(show 2<6 by omega),(show 0<6 by omega),(show 4<6 by omega),(show 1<6 by omega),trivial⟩
  (λa j s=>OutI d x L ord mo a j s.1 s.2) ((λ_ _=>[]),false) (z1y (EW ht)) (λa j s ha hj hI hlv=>z2v d x hk ht hl mo hmo hB a j s.1 s.2 ha hj hI hlv)
  (λa j s ha hj hI hlv=>z2a hI (by rw[EW ht];exact hj) hlv) (λa s ha hI=>z89 hI hl ht)
 generalize hm:(x.length+1) * n=m at *;(with_reducible repeat'(first|(simp(disch:=omega)only[push_cast,↓zz,seval,pR,pFi,pX,lL])|refine Aa ?_ ?_|(first|refine Ac ?_ ?_|refine Ab ?_ ?_)<;>intro hc<;>(try simp only[push_cast] at hc)|omega|intro _));refine Uq (BN.mono hbk ?_) ?_
 rotate_left
 ·unfold outH
  refine⟨⟨rfl,rfl,id,BY _ _⟩,⟨rfl,rfl,id,BY _ _⟩,⟨rfl,rfl,id,BY _ _⟩,⟨rfl,rfl,id,z2s (n:=n)⟩,⟨rfl,rfl,id,BY _ _⟩,⟨rfl,rfl,id,BY _ _⟩,trivial⟩
 rintro y H' ⟨rfl,⟨S,many⟩,rfl,hI⟩;simp only at hI ⊢;obtain⟨g1,g2⟩:=z8a hI hl hk.goes ht hk.start;unfold outH;have hst:=hk.start;obtain⟨s0,hs0⟩:∃s0:Nat,d.start=s0:=⟨d.start.toNat,by omega⟩;have hsn:s0<n:=by omega
 have hsm:0 * n+s0<m:=by rw[<-hm];exact GQ hsn (AI _)
 have aS:(setT n m S).getD s0 .any=Hg (S 0 s0):=by
  have:=z2r (S:=S) (z:=.any) hsn hsm
  rwa [Fu,Bj] at this
 have lS:(setT n m S).length=m:=Wj;have pS:AY (setT n m S)=true:=N8;have hsm2:s0<m:=by omega
 unfold outA;cases many with
 |true =>
  rw[Ah (by have:=of_decide_eq_true g1.symm;omega)];(with_reducible repeat'(first|(simp(disch:=omega)only[push_cast,↓zz,seval])|refine Aa ?_ ?_|(first|refine Ac ?_ ?_|refine Ab ?_ ?_)<;>intro hc<;>(try simp only[push_cast] at hc)|omega|intro _))
 |false =>
  have g2:=g2 rfl;rw[Ai (by have:=of_decide_eq_false g1.symm;omega),<-g2,show d.start.toNat=s0 by omega];have pW:=CE (S 0 s0);(with_reducible repeat'(first|(simp(disch:=omega)only[push_cast,↓zz,seval,hs0,aS,lS,pS,pW])|refine Aa ?_ ?_|(first|refine Ac ?_ ?_|refine Ab ?_ ?_)<;>intro hc<;>(try simp only[push_cast] at hc)|omega|intro _))
  all_goals trace_state
def Jw(l:List Bool)(k:Nat):List Int:=((List.range k).filter λi=>nth l i).map λi:Nat=>(i:Int)
theorem Pb(l:List Bool)(k:Nat):Jw l (k+1)=if nth l k=true then Jw l k++[(k:Int)] else Jw l k:=by
 simp only[Jw,D4,BZ,A9,BG,List.filter_nil];split<;>simp_all
theorem z2w(l:List Bool)(k:Nat):(Jw l k).length<=k:=by
 have:=Bt (λi=>nth l i) (List.range k);simpa [Jw] using this
theorem HX(l:List Bool):AY (l.map AV.bool)=true:=F1 (λ_=>rfl) l
theorem S7(l:List Bool)(hl:l.length<=1000000):PC Tryz.prog 123 [Li l] (Gr (Jw l l.length)):=by
 have pB:=HX l;refine BH Tt ?_;unfold ML;(with_reducible repeat'(first|(simp(disch:=omega)only[push_cast,↓zz,seval,pB])|refine Aa ?_ ?_|(first|refine Ac ?_ ?_|refine Ab ?_ ?_)<;>intro hc<;>(try simp only[push_cast] at hc)|omega|intro _))
 refine Bu (B5 (λ(k:Nat)=>k<=l.length) (λk=>l.length-k)
  (λk=>[(3,.ref 0 1 0 (Jw l k).length),(6,Li l),(7,.int .i64 l.length),(8,.int .i64 k)]) (λk=>[⟨1,1,false,(Jw l k).map (AV.int .i64)⟩]) (λenv _=>[Cc 1 (env 3)]) 0 (by simp) ?_ ?_)
 ·have e0:Jw l 0=[]:=rfl
  (with_reducible repeat'(first|(simp(disch:=omega)only[push_cast,↓zz,seval,pB,e0])|refine Aa ?_ ?_|(first|refine Ac ?_ ?_|refine Ab ?_ ?_)<;>intro hc<;>(try simp only[push_cast] at hc)|omega|intro _))
 intro k hk;have hm:=z2w l k;have pM:AY ((Jw l k).map (AV.int .i64))=true:=BK .i64 _;rcases Am k l.length with hkl|hkl
 ·have hs:=Pb l k
  generalize Jw l k=L at *;refine W_T ?_;cases hx:nth l k with
  |true =>
   rw[hx,Ai rfl] at hs;(with_reducible repeat'(first|(simp(disch:=omega)only[push_cast,↓zz,seval,pB,hx])|refine Aa ?_ ?_|(first|refine Ac ?_ ?_|refine Ab ?_ ?_)<;>intro hc<;>(try simp only[push_cast] at hc)|omega|intro _))
   all_goals
    refine⟨k+1,?_⟩;(with_reducible repeat'(first|(simp(disch:=omega)only[push_cast,↓zz,seval,hs,pM])|refine Aa ?_ ?_|(first|refine Ac ?_ ?_|refine Ab ?_ ?_)<;>intro hc<;>(try simp only[push_cast] at hc)|omega|intro _))
  |false =>
   rw[hx,Ah (by simp)] at hs;(with_reducible repeat'(first|(simp(disch:=omega)only[push_cast,↓zz,seval,pB,hx])|refine Aa ?_ ?_|(first|refine Ac ?_ ?_|refine Ab ?_ ?_)<;>intro hc<;>(try simp only[push_cast] at hc)|omega|intro _))
   all_goals
    refine⟨k+1,?_⟩;(with_reducible repeat'(first|(simp(disch:=omega)only[push_cast,↓zz,seval,hs,pM])|refine Aa ?_ ?_|(first|refine Ac ?_ ?_|refine Ab ?_ ?_)<;>intro hc<;>(try simp only[push_cast] at hc)|omega|intro _))
 ·obtain rfl:k=l.length:=by omega
  generalize Jw l l.length=L at *;refine W_T ?_;(with_reducible repeat'(first|(simp(disch:=omega)only[push_cast,↓zz,seval,pB,pM])|refine Aa ?_ ?_|(first|refine Ac ?_ ?_|refine Ab ?_ ?_)<;>intro hc<;>(try simp only[push_cast] at hc)|omega|intro _))
  all_goals trace_state
theorem NA(d:Desc):(I0 d).length=d.states.toNat:=GW _ _ _
theorem Us(d:Desc):(goL d).length=d.states.toNat:=GW _ _ _
noncomputable def LJ (d:Desc):List Int:=Jw (I0 d) d.states.toNat
noncomputable def S8 (d:Desc):List Int:=Jw (goL d) d.states.toNat
theorem Yk(d:Desc)(hf:GI d)(h:CS d=0):PC Tryz.prog 83 [Dh d] (.tup [Gr (LJ d),.int .i64 0]):=by
 have hw:=Iz h;obtain⟨n,hn,hn1,hn2⟩:=hw.n;have hC:=GX d hf;rw[h] at hC;have h1:=OL d hw;have h2:=S7 (I0 d) (by rw[NA];omega);rw[NA] at h2;change PC _ _ _ (Gr (LJ d)) at h2;have pR:=BS d.rules;have pF:=BI d.finals;have pB:=HX (I0 d);have pI:AY ((LJ d).map (AV.int .i64))=true:=BK .i64 _;generalize I0 d=L at *;generalize LJ d=M at *;refine BH R3 ?_;unfold Lq;(with_reducible repeat'(first|(simp(disch:=omega)only[push_cast,↓zz,seval,pR,pF,pB,pI])|refine Aa ?_ ?_|(first|refine Ac ?_ ?_|refine Ab ?_ ?_)<;>intro hc<;>(try simp only[push_cast] at hc)|refine eK hC ?_|refine eQ hC ?_|refine eG hC ?_|refine eK h1 ?_|refine eQ h1 ?_|refine eG h1 ?_|refine eK h2 ?_|refine eQ h2 ?_|refine eG h2 ?_|((first|refine cK hC ?_|refine cQ hC ?_|refine cG hC ?_|refine cK h1 ?_|refine cQ h1 ?_|refine cG h1 ?_|refine cK h2 ?_|refine cQ h2 ?_|refine cG h2 ?_);(simp(disch:=omega)only[push_cast,↓zz,seval,pR,pF,pB,pI]);(fail_if_success change False))|omega|intro _))
 all_goals trace_state
theorem Ut(d:Desc)(hf:GI d)(h:CS d=0):PC Tryz.prog 84 [Dh d] (.tup [Gr (S8 d),.int .i64 0]):=by
 have hw:=Iz h;obtain⟨n,hn,hn1,hn2⟩:=hw.n;have hC:=GX d hf;rw[h] at hC;have h1:=N0 d hw;have h2:=S7 (goL d) (by rw[Us];omega);rw[Us] at h2;change PC _ _ _ (Gr (S8 d)) at h2;have pR:=BS d.rules;have pF:=BI d.finals;have pB:=HX (goL d);have pI:AY ((S8 d).map (AV.int .i64))=true:=BK .i64 _;generalize goL d=L at *;generalize S8 d=M at *;refine BH PH ?_;unfold Kj;(with_reducible repeat'(first|(simp(disch:=omega)only[push_cast,↓zz,seval,pR,pF,pB,pI])|refine Aa ?_ ?_|(first|refine Ac ?_ ?_|refine Ab ?_ ?_)<;>intro hc<;>(try simp only[push_cast] at hc)|refine eK hC ?_|refine eQ hC ?_|refine eG hC ?_|refine eK h1 ?_|refine eQ h1 ?_|refine eG h1 ?_|refine eK h2 ?_|refine eQ h2 ?_|refine eG h2 ?_|((first|refine cK hC ?_|refine cQ hC ?_|refine cG hC ?_|refine cK h1 ?_|refine cQ h1 ?_|refine cG h1 ?_|refine cK h2 ?_|refine cQ h2 ?_|refine cG h2 ?_);(simp(disch:=omega)only[push_cast,↓zz,seval,pR,pF,pB,pI]);(fail_if_success change False))|omega|intro _))
 all_goals trace_state
theorem K7(l:List (List Span))(h0:l≠[])(hl:l.length<=1000000000000):BN Tryz.prog 125 [Bg l] (Abs.hl []) λy H'=>y=.ref 0 2 0 l.length/\H'=Abs.hl [⟨1,2,false,l.map AP⟩]:=by
 refine G5 (b:=0) De rfl ?_;unfold C3
 have hne:(l.map AP).isEmpty=false:=by
  cases l with
  |nil=>exact absurd rfl h0
  |cons _ _=>rfl
 have hp:=AO l;(with_reducible repeat'(first|(simp(disch:=omega)only[push_cast,↓zz,seval,hne,hp])|refine Aa ?_ ?_|(first|refine Ac ?_ ?_|refine Ab ?_ ?_)<;>intro hc<;>(try simp only[push_cast] at hc)|omega|intro _))
 all_goals trace_state
theorem LK(l:List Term)(h0:l≠[])(hl:l.length<=1000000000000):BN Tryz.prog 126 [E5 l] (Abs.hl []) λy H'=>y=.ref 0 2 0 l.length/\H'=Abs.hl [⟨6,2,false,l.map Dg⟩]:=by
 refine G5 (b:=0) Dx rfl ?_;unfold CH
 have hne:(l.map Dg).isEmpty=false:=by
  cases l with
  |nil=>exact absurd rfl h0
  |cons _ _=>rfl
 have hp:=Co l;(with_reducible repeat'(first|(simp(disch:=omega)only[push_cast,↓zz,seval,hne,hp])|refine Aa ?_ ?_|(first|refine Ac ?_ ?_|refine Ab ?_ ?_)<;>intro hc<;>(try simp only[push_cast] at hc)|omega|intro _))
 all_goals trace_state
theorem AS:PC Tryz.prog 125 [Bg []] (Bg []):=by
 refine Rc ?_ ?_
 ·refine BH De ?_
  unfold C3;(with_reducible repeat'(first|(simp(disch:=omega)only[push_cast,↓zz,seval])|refine Aa ?_ ?_|(first|refine Ac ?_ ?_|refine Ab ?_ ?_)<;>intro hc<;>(try simp only[push_cast] at hc)|omega|intro _))
 ·refine BH De ?_
  unfold C3;(with_reducible repeat'(first|(simp(disch:=omega)only[push_cast,↓zz,seval])|refine Aa ?_ ?_|(first|refine Ac ?_ ?_|refine Ab ?_ ?_)<;>intro hc<;>(try simp only[push_cast] at hc)|omega|intro _))
theorem Bf:PC Tryz.prog 126 [E5 []] (E5 []):=by
 refine Rc ?_ ?_
 ·refine BH Dx ?_
  unfold CH;(with_reducible repeat'(first|(simp(disch:=omega)only[push_cast,↓zz,seval])|refine Aa ?_ ?_|(first|refine Ac ?_ ?_|refine Ab ?_ ?_)<;>intro hc<;>(try simp only[push_cast] at hc)|omega|intro _))
 ·refine BH Dx ?_
  unfold CH;(with_reducible repeat'(first|(simp(disch:=omega)only[push_cast,↓zz,seval])|refine Aa ?_ ?_|(first|refine Ac ?_ ?_|refine Ab ?_ ?_)<;>intro hc<;>(try simp only[push_cast] at hc)|omega|intro _))
theorem Iv{α β:Type}[Inhabited α]{l:List α}{f:α->β}{k:Nat}(h:k<l.length):(l.map f).set k (f (nth l k))=l.map f:=by
 have e:(l.map f)[k]'(by simpa using h)=f (nth l k):=by simp[nth,List.getD,h]
 rw[<-e,List.set_getElem_self]
theorem z8q(gs:List (List Span))(out:List Term)(hgn:gs.length<=1000000)(hgl:∀g∈gs,g.length<=1000000)(hon:out.length<=1000000)(hol:∀t∈out,t.parts.length<=1000000):
 PC Tryz.prog 87 [Bg gs,E5 out] (.tup [Bg gs,E5 out]):=by
 have pG:=AO gs;have pT:=Co out;refine BH Xa ?_;unfold O0;by_cases hg:gs=[]
 ·subst hg
  by_cases ho:out=[]
  ·subst ho
   (with_reducible repeat'(first|(simp(disch:=omega)only[push_cast,↓zz,seval,pG,pT])|refine Aa ?_ ?_|(first|refine Ac ?_ ?_|refine Ab ?_ ?_)<;>intro hc<;>(try simp only[push_cast] at hc)|refine eK AS ?_|refine eQ AS ?_|refine eG AS ?_|refine eK Bf ?_|refine eQ Bf ?_|refine eG Bf ?_|((first|refine cK AS ?_|refine cQ AS ?_|refine cG AS ?_|refine cK Bf ?_|refine cQ Bf ?_|refine cG Bf ?_);(simp(disch:=omega)only[push_cast,↓zz,seval,pG,pT]);(fail_if_success change False))|omega|intro _));refine Bu (B5 (λ(_:Unit)=>True) (λ_=>0) (λk=>[(0,.lst 1 []),(1,.lst 6 []),(13,.int .i64 0),(14,.int .i64 0)]) (λk=>[]) (λenv _=>[]) () trivial ?_ ?_)
   ·(with_reducible repeat'(first|(simp(disch:=omega)only[push_cast,↓zz,seval,pG,pT])|refine Aa ?_ ?_|(first|refine Ac ?_ ?_|refine Ab ?_ ?_)<;>intro hc<;>(try simp only[push_cast] at hc)|omega|intro _))
   rintro⟨⟩ _;refine W_T ?_;(with_reducible repeat'(first|(simp(disch:=omega)only[push_cast,↓zz,seval,pG,pT])|refine Aa ?_ ?_|(first|refine Ac ?_ ?_|refine Ab ?_ ?_)<;>intro hc<;>(try simp only[push_cast] at hc)|refine eK AS ?_|refine eQ AS ?_|refine eG AS ?_|refine eK Bf ?_|refine eQ Bf ?_|refine eG Bf ?_|((first|refine cK AS ?_|refine cQ AS ?_|refine cG AS ?_|refine cK Bf ?_|refine cQ Bf ?_|refine cG Bf ?_);(simp(disch:=omega)only[push_cast,↓zz,seval,pG,pT]);(fail_if_success change False))|omega|intro _));refine Bu (B5 (λ(_:Unit)=>True) (λ_=>0) (λk=>[(0,.lst 1 []),(1,.lst 6 []),(27,.int .i64 0),(28,.int .i64 0)]) (λk=>[]) (λenv _=>[]) () trivial ?_ ?_)
   ·(with_reducible repeat'(first|(simp(disch:=omega)only[push_cast,↓zz,seval,pG,pT])|refine Aa ?_ ?_|(first|refine Ac ?_ ?_|refine Ab ?_ ?_)<;>intro hc<;>(try simp only[push_cast] at hc)|omega|intro _))
   rintro⟨⟩ _;refine W_T ?_;(with_reducible repeat'(first|(simp(disch:=omega)only[push_cast,↓zz,seval,pG,pT])|refine Aa ?_ ?_|(first|refine Ac ?_ ?_|refine Ab ?_ ?_)<;>intro hc<;>(try simp only[push_cast] at hc)|refine eK AS ?_|refine eQ AS ?_|refine eG AS ?_|refine eK Bf ?_|refine eQ Bf ?_|refine eG Bf ?_|((first|refine cK AS ?_|refine cQ AS ?_|refine cG AS ?_|refine cK Bf ?_|refine cQ Bf ?_|refine cG Bf ?_);(simp(disch:=omega)only[push_cast,↓zz,seval,pG,pT]);(fail_if_success change False))|omega|intro _))
   all_goals (try simp only[Bg,E5,Bw])
   all_goals (repeat'(first|(simp(disch:=omega)only[push_cast,↓zz,seval,CN])|omega|(with_reducible refine Aa ?_ ?_)))
  ·skip
   (with_reducible repeat'(first|(simp(disch:=omega)only[push_cast,↓zz,seval,pG,pT])|refine Aa ?_ ?_|(first|refine Ac ?_ ?_|refine Ab ?_ ?_)<;>intro hc<;>(try simp only[push_cast] at hc)|refine eK AS ?_|refine eQ AS ?_|refine eG AS ?_|((first|refine cK AS ?_|refine cQ AS ?_|refine cG AS ?_);(simp(disch:=omega)only[push_cast,↓zz,seval,pG,pT]);(fail_if_success change False))|omega|intro _))
   (refine Ig [] (LK out ho (by omega)) (by decide) (by simp) (by (simp(disch:=omega)only[push_cast,↓zz,seval])) (by (simp(disch:=omega)only[push_cast,↓zz,seval])) (by (simp(disch:=omega)only[push_cast,↓zz,seval])) (by (simp(disch:=omega)only[push_cast,↓zz,seval,Ag,Al,Ay,Ce,CV,Cs])) ?_)
   rintro y H' ⟨rfl,rfl⟩;refine⟨_,rfl,by simp,?_⟩;(with_reducible repeat'(first|(simp(disch:=omega)only[push_cast,↓zz,seval,pG,pT])|refine Aa ?_ ?_|(first|refine Ac ?_ ?_|refine Ab ?_ ?_)<;>intro hc<;>(try simp only[push_cast] at hc)|refine eK AS ?_|refine eQ AS ?_|refine eG AS ?_|((first|refine cK AS ?_|refine cQ AS ?_|refine cG AS ?_);(simp(disch:=omega)only[push_cast,↓zz,seval,pG,pT]);(fail_if_success change False))|omega|intro _));refine Bu (B5 (λ(_:Unit)=>True) (λ_=>0) (λk=>[(0,.lst 1 []),(1,.ref 0 1 0 out.length),(13,.int .i64 0),(14,.int .i64 0)]) (λk=>[⟨6,1,false,out.map Dg⟩]) (λenv _=>[Cc 6 (env 1)]) () trivial ?_ ?_)
   ·(with_reducible repeat'(first|(simp(disch:=omega)only[push_cast,↓zz,seval,pG,pT])|refine Aa ?_ ?_|(first|refine Ac ?_ ?_|refine Ab ?_ ?_)<;>intro hc<;>(try simp only[push_cast] at hc)|omega|intro _))
   rintro⟨⟩ _;refine W_T ?_;(with_reducible repeat'(first|(simp(disch:=omega)only[push_cast,↓zz,seval,pG,pT])|refine Aa ?_ ?_|(first|refine Ac ?_ ?_|refine Ab ?_ ?_)<;>intro hc<;>(try simp only[push_cast] at hc)|refine eK AS ?_|refine eQ AS ?_|refine eG AS ?_|((first|refine cK AS ?_|refine cQ AS ?_|refine cG AS ?_);(simp(disch:=omega)only[push_cast,↓zz,seval,pG,pT]);(fail_if_success change False))|omega|intro _));refine Bu (B5 (λ(k:Nat)=>k<=out.length) (λk=>out.length-k) (λk=>[(0,.lst 1 []),(1,.ref 0 1 0 out.length),(27,.int .i64 out.length),(28,.int .i64 k)]) (λk=>[⟨6,1,false,out.map Dg⟩]) (λenv _=>[Cc 6 (env 1)]) 0 (by simp) ?_ ?_)
   ·(with_reducible repeat'(first|(simp(disch:=omega)only[push_cast,↓zz,seval,pG,pT])|refine Aa ?_ ?_|(first|refine Ac ?_ ?_|refine Ab ?_ ?_)<;>intro hc<;>(try simp only[push_cast] at hc)|omega|intro _))
   intro k hk;rcases Am k out.length with hkl|hkl
   ·have hm:=hol _ (BA hkl)
    have hset:(out.map Dg).set k (Dg (nth out k))=out.map Dg:=Iv hkl;generalize hne:nth out k=x at *;have hC:=Nc x.parts (by omega);have hpx:=GR x.parts;refine W_T ?_;(with_reducible repeat'(first|(simp(disch:=omega)only[push_cast,↓zz,seval,pG,pT,hne,hset,hpx])|refine Aa ?_ ?_|(first|refine Ac ?_ ?_|refine Ab ?_ ?_)<;>intro hc<;>(try simp only[push_cast] at hc)|refine eK hC ?_|refine eQ hC ?_|refine eG hC ?_|((first|refine cK hC ?_|refine cQ hC ?_|refine cG hC ?_);(simp(disch:=omega)only[push_cast,↓zz,seval,pG,pT,hne,hset,hpx]);(fail_if_success change False))|omega|intro _))
    all_goals
     refine⟨k+1,?_⟩;(with_reducible repeat'(first|(simp(disch:=omega)only[push_cast,↓zz,seval,pG,pT])|refine Aa ?_ ?_|(first|refine Ac ?_ ?_|refine Ab ?_ ?_)<;>intro hc<;>(try simp only[push_cast] at hc)|omega|intro _))
   obtain rfl:k=out.length:=by omega
   refine W_T ?_;(with_reducible repeat'(first|(simp(disch:=omega)only[push_cast,↓zz,seval,pG,pT])|refine Aa ?_ ?_|(first|refine Ac ?_ ?_|refine Ab ?_ ?_)<;>intro hc<;>(try simp only[push_cast] at hc)|refine eK AS ?_|refine eQ AS ?_|refine eG AS ?_|((first|refine cK AS ?_|refine cQ AS ?_|refine cG AS ?_);(simp(disch:=omega)only[push_cast,↓zz,seval,pG,pT]);(fail_if_success change False))|omega|intro _))
   all_goals (try simp only[Bg,E5,Bw])
   all_goals (repeat'(first|(simp(disch:=omega)only[push_cast,↓zz,seval,CN])|omega|(with_reducible refine Aa ?_ ?_)))
 ·by_cases ho:out=[]
  ·subst ho
   (with_reducible repeat'(first|(simp(disch:=omega)only[push_cast,↓zz,seval,pG,pT])|refine Aa ?_ ?_|(first|refine Ac ?_ ?_|refine Ab ?_ ?_)<;>intro hc<;>(try simp only[push_cast] at hc)|refine eK Bf ?_|refine eQ Bf ?_|refine eG Bf ?_|((first|refine cK Bf ?_|refine cQ Bf ?_|refine cG Bf ?_);(simp(disch:=omega)only[push_cast,↓zz,seval,pG,pT]);(fail_if_success change False))|omega|intro _))
   (refine Ig [] (K7 gs hg (by omega)) (by decide) (by simp) (by (simp(disch:=omega)only[push_cast,↓zz,seval])) (by (simp(disch:=omega)only[push_cast,↓zz,seval])) (by (simp(disch:=omega)only[push_cast,↓zz,seval])) (by (simp(disch:=omega)only[push_cast,↓zz,seval,Ag,Al,Ay,Ce,CV,Cs])) ?_)
   rintro y H' ⟨rfl,rfl⟩;refine⟨_,rfl,by simp,?_⟩;(with_reducible repeat'(first|(simp(disch:=omega)only[push_cast,↓zz,seval,pG,pT])|refine Aa ?_ ?_|(first|refine Ac ?_ ?_|refine Ab ?_ ?_)<;>intro hc<;>(try simp only[push_cast] at hc)|refine eK Bf ?_|refine eQ Bf ?_|refine eG Bf ?_|((first|refine cK Bf ?_|refine cQ Bf ?_|refine cG Bf ?_);(simp(disch:=omega)only[push_cast,↓zz,seval,pG,pT]);(fail_if_success change False))|omega|intro _));refine Bu (B5 (λ(k:Nat)=>k<=gs.length) (λk=>gs.length-k) (λk=>[(0,.ref 0 1 0 gs.length),(1,.lst 6 []),(13,.int .i64 gs.length),(14,.int .i64 k)]) (λk=>[⟨1,1,false,gs.map AP⟩]) (λenv _=>[Cc 1 (env 0)]) 0 (by simp) ?_ ?_)
   ·(with_reducible repeat'(first|(simp(disch:=omega)only[push_cast,↓zz,seval,pG,pT])|refine Aa ?_ ?_|(first|refine Ac ?_ ?_|refine Ab ?_ ?_)<;>intro hc<;>(try simp only[push_cast] at hc)|omega|intro _))
   intro k hk;rcases Am k gs.length with hkl|hkl
   ·have hm:=hgl _ (BA hkl)
    have hset:(gs.map AP).set k (AP (nth gs k))=gs.map AP:=Iv hkl;generalize hne:nth gs k=x at *;have hC:=Nz x (by omega);have hpx:=EB x;refine W_T ?_;(with_reducible repeat'(first|(simp(disch:=omega)only[push_cast,↓zz,seval,pG,pT,hne,hset,hpx])|refine Aa ?_ ?_|(first|refine Ac ?_ ?_|refine Ab ?_ ?_)<;>intro hc<;>(try simp only[push_cast] at hc)|refine eK hC ?_|refine eQ hC ?_|refine eG hC ?_|((first|refine cK hC ?_|refine cQ hC ?_|refine cG hC ?_);(simp(disch:=omega)only[push_cast,↓zz,seval,pG,pT,hne,hset,hpx]);(fail_if_success change False))|omega|intro _))
    all_goals
     refine⟨k+1,?_⟩;(with_reducible repeat'(first|(simp(disch:=omega)only[push_cast,↓zz,seval,pG,pT])|refine Aa ?_ ?_|(first|refine Ac ?_ ?_|refine Ab ?_ ?_)<;>intro hc<;>(try simp only[push_cast] at hc)|omega|intro _))
   obtain rfl:k=gs.length:=by omega
   refine W_T ?_;(with_reducible repeat'(first|(simp(disch:=omega)only[push_cast,↓zz,seval,pG,pT])|refine Aa ?_ ?_|(first|refine Ac ?_ ?_|refine Ab ?_ ?_)<;>intro hc<;>(try simp only[push_cast] at hc)|refine eK Bf ?_|refine eQ Bf ?_|refine eG Bf ?_|((first|refine cK Bf ?_|refine cQ Bf ?_|refine cG Bf ?_);(simp(disch:=omega)only[push_cast,↓zz,seval,pG,pT]);(fail_if_success change False))|omega|intro _));refine Bu (B5 (λ(_:Unit)=>True) (λ_=>0) (λk=>[(0,.ref 0 1 0 gs.length),(1,.lst 6 []),(27,.int .i64 0),(28,.int .i64 0)]) (λk=>[⟨1,1,false,gs.map AP⟩]) (λenv _=>[Cc 1 (env 0)]) () trivial ?_ ?_)
   ·(with_reducible repeat'(first|(simp(disch:=omega)only[push_cast,↓zz,seval,pG,pT])|refine Aa ?_ ?_|(first|refine Ac ?_ ?_|refine Ab ?_ ?_)<;>intro hc<;>(try simp only[push_cast] at hc)|omega|intro _))
   rintro⟨⟩ _;refine W_T ?_;(with_reducible repeat'(first|(simp(disch:=omega)only[push_cast,↓zz,seval,pG,pT])|refine Aa ?_ ?_|(first|refine Ac ?_ ?_|refine Ab ?_ ?_)<;>intro hc<;>(try simp only[push_cast] at hc)|refine eK Bf ?_|refine eQ Bf ?_|refine eG Bf ?_|((first|refine cK Bf ?_|refine cQ Bf ?_|refine cG Bf ?_);(simp(disch:=omega)only[push_cast,↓zz,seval,pG,pT]);(fail_if_success change False))|omega|intro _))
   all_goals (try simp only[Bg,E5,Bw])
   all_goals (repeat'(first|(simp(disch:=omega)only[push_cast,↓zz,seval,CN])|omega|(with_reducible refine Aa ?_ ?_)))
  ·skip
   (with_reducible repeat'(first|(simp(disch:=omega)only[push_cast,↓zz,seval,pG,pT])|refine Aa ?_ ?_|(first|refine Ac ?_ ?_|refine Ab ?_ ?_)<;>intro hc<;>(try simp only[push_cast] at hc)|omega|intro _))
   (refine Ig [] (K7 gs hg (by omega)) (by decide) (by simp) (by (simp(disch:=omega)only[push_cast,↓zz,seval])) (by (simp(disch:=omega)only[push_cast,↓zz,seval])) (by (simp(disch:=omega)only[push_cast,↓zz,seval])) (by (simp(disch:=omega)only[push_cast,↓zz,seval,Ag,Al,Ay,Ce,CV,Cs])) ?_)
   rintro y H' ⟨rfl,rfl⟩;refine⟨_,rfl,by simp,?_⟩;(with_reducible repeat'(first|(simp(disch:=omega)only[push_cast,↓zz,seval,pG,pT])|refine Aa ?_ ?_|(first|refine Ac ?_ ?_|refine Ab ?_ ?_)<;>intro hc<;>(try simp only[push_cast] at hc)|omega|intro _))
   (refine Ig [] (LK out ho (by omega)) (by decide) (by simp) (by (simp(disch:=omega)only[push_cast,↓zz,seval])) (by (simp(disch:=omega)only[push_cast,↓zz,seval])) (by (simp(disch:=omega)only[push_cast,↓zz,seval])) (by (simp(disch:=omega)only[push_cast,↓zz,seval,Ag,Al,Ay,Ce,CV,Cs])) ?_)
   rintro y H' ⟨rfl,rfl⟩;refine⟨_,rfl,by simp,?_⟩;(with_reducible repeat'(first|(simp(disch:=omega)only[push_cast,↓zz,seval,pG,pT])|refine Aa ?_ ?_|(first|refine Ac ?_ ?_|refine Ab ?_ ?_)<;>intro hc<;>(try simp only[push_cast] at hc)|omega|intro _));refine Bu (B5 (λ(k:Nat)=>k<=gs.length) (λk=>gs.length-k) (λk=>[(0,.ref 0 1 0 gs.length),(1,.ref 1 1 0 out.length),(13,.int .i64 gs.length),(14,.int .i64 k)]) (λk=>[⟨1,1,false,gs.map AP⟩,⟨6,1,false,out.map Dg⟩]) (λenv _=>[Cc 1 (env 0),Cc 6 (env 1)]) 0 (by simp) ?_ ?_)
   ·(with_reducible repeat'(first|(simp(disch:=omega)only[push_cast,↓zz,seval,pG,pT])|refine Aa ?_ ?_|(first|refine Ac ?_ ?_|refine Ab ?_ ?_)<;>intro hc<;>(try simp only[push_cast] at hc)|omega|intro _))
   intro k hk;rcases Am k gs.length with hkl|hkl
   ·have hm:=hgl _ (BA hkl)
    have hset:(gs.map AP).set k (AP (nth gs k))=gs.map AP:=Iv hkl;generalize hne:nth gs k=x at *;have hC:=Nz x (by omega);have hpx:=EB x;refine W_T ?_;(with_reducible repeat'(first|(simp(disch:=omega)only[push_cast,↓zz,seval,pG,pT,hne,hset,hpx])|refine Aa ?_ ?_|(first|refine Ac ?_ ?_|refine Ab ?_ ?_)<;>intro hc<;>(try simp only[push_cast] at hc)|refine eK hC ?_|refine eQ hC ?_|refine eG hC ?_|((first|refine cK hC ?_|refine cQ hC ?_|refine cG hC ?_);(simp(disch:=omega)only[push_cast,↓zz,seval,pG,pT,hne,hset,hpx]);(fail_if_success change False))|omega|intro _))
    all_goals
     refine⟨k+1,?_⟩;(with_reducible repeat'(first|(simp(disch:=omega)only[push_cast,↓zz,seval,pG,pT])|refine Aa ?_ ?_|(first|refine Ac ?_ ?_|refine Ab ?_ ?_)<;>intro hc<;>(try simp only[push_cast] at hc)|omega|intro _))
   obtain rfl:k=gs.length:=by omega
   refine W_T ?_;(with_reducible repeat'(first|(simp(disch:=omega)only[push_cast,↓zz,seval,pG,pT])|refine Aa ?_ ?_|(first|refine Ac ?_ ?_|refine Ab ?_ ?_)<;>intro hc<;>(try simp only[push_cast] at hc)|omega|intro _));refine Bu (B5 (λ(k:Nat)=>k<=out.length) (λk=>out.length-k) (λk=>[(0,.ref 0 1 0 gs.length),(1,.ref 1 1 0 out.length),(27,.int .i64 out.length),(28,.int .i64 k)]) (λk=>[⟨1,1,false,gs.map AP⟩,⟨6,1,false,out.map Dg⟩]) (λenv _=>[Cc 1 (env 0),Cc 6 (env 1)]) 0 (by simp) ?_ ?_)
   ·(with_reducible repeat'(first|(simp(disch:=omega)only[push_cast,↓zz,seval,pG,pT])|refine Aa ?_ ?_|(first|refine Ac ?_ ?_|refine Ab ?_ ?_)<;>intro hc<;>(try simp only[push_cast] at hc)|omega|intro _))
   intro k hk;rcases Am k out.length with hkl|hkl
   ·have hm:=hol _ (BA hkl)
    have hset:(out.map Dg).set k (Dg (nth out k))=out.map Dg:=Iv hkl;generalize hne:nth out k=x at *;have hC:=Nc x.parts (by omega);have hpx:=GR x.parts;refine W_T ?_;(with_reducible repeat'(first|(simp(disch:=omega)only[push_cast,↓zz,seval,pG,pT,hne,hset,hpx])|refine Aa ?_ ?_|(first|refine Ac ?_ ?_|refine Ab ?_ ?_)<;>intro hc<;>(try simp only[push_cast] at hc)|refine eK hC ?_|refine eQ hC ?_|refine eG hC ?_|((first|refine cK hC ?_|refine cQ hC ?_|refine cG hC ?_);(simp(disch:=omega)only[push_cast,↓zz,seval,pG,pT,hne,hset,hpx]);(fail_if_success change False))|omega|intro _))
    all_goals
     refine⟨k+1,?_⟩;(with_reducible repeat'(first|(simp(disch:=omega)only[push_cast,↓zz,seval,pG,pT])|refine Aa ?_ ?_|(first|refine Ac ?_ ?_|refine Ab ?_ ?_)<;>intro hc<;>(try simp only[push_cast] at hc)|omega|intro _))
   obtain rfl:k=out.length:=by omega
   refine W_T ?_;(with_reducible repeat'(first|(simp(disch:=omega)only[push_cast,↓zz,seval,pG,pT])|refine Aa ?_ ?_|(first|refine Ac ?_ ?_|refine Ab ?_ ?_)<;>intro hc<;>(try simp only[push_cast] at hc)|omega|intro _))
   all_goals (try simp only[Bg,E5,Bw])
   all_goals (repeat'(first|(simp(disch:=omega)only[push_cast,↓zz,seval,CN])|omega|(with_reducible refine Aa ?_ ?_)))
   all_goals trace_state
noncomputable def Dr (d:Desc) (i:Nat):Bool:=Fe (fwdE d) [d.start] i&&Fe (bwdE d) (endE d) i
def cntB(u:Nat->Bool)(k:Nat):Nat:=((List.range k).filter u).length
def numB(u:Nat->Bool)(i:Nat):Int:=if u i=true then (cntB u i:Int) else -1
def I3(u:Nat->Bool)(l:List Rule):List Rule:=(l.filter λr=>u r.from_.toNat&&u r.to_.toNat).map λr=>⟨numB u r.from_.toNat,numB u r.to_.toNat,r.guards,r.eat,r.out⟩
def IT(u:Nat->Bool)(l:List FP):List FP:=(l.filter λf=>u f.from_.toNat).map λf=>⟨numB u f.from_.toNat,f.guards,f.out⟩
noncomputable def GE (d:Desc):Desc :=
 if Fe (bwdE d) (endE d) d.start.toNat=false then K1 d.in_ d.out
 else ⟨d.in_,d.out,cntB (Dr d) d.states.toNat,numB (Dr d) d.start.toNat,I3 (Dr d) d.rules,IT (Dr d) d.finals⟩
theorem Gq(u:Nat->Bool)(k:Nat):cntB u (k+1)=if u k=true then cntB u k+1 else cntB u k:=by
 simp only[cntB,D4,BZ,Ao,BG,List.filter_nil];split<;>simp_all
theorem NB(u:Nat->Bool)(k:Nat):cntB u k<=k:=by
 have:=Bt u (List.range k);simpa [cntB] using this
def numK(u:Nat->Bool)(k i:Nat):Int:=if i<k then numB u i else 0
theorem z2x(n:Nat)(u:Nat->Bool):famI n (numK u 0)=List.replicate n (.int .i64 0):=by
 refine BF (by simp[famI]) λi h1 h2=>?_;simp[famI,numK]
theorem z8r(n:Nat)(u:Nat->Bool):famI n (numK u n)=famI n (numB u):=by
 rw[famI,famI];refine AB λi hi=>?_;have:i<n:=by simpa using hi
 simp[numK,this]
theorem Qw{n k:Nat}(h:k<n)(u:Nat->Bool){x:Int}(hx:numB u k=x):(famI n (numK u k)).set k (.int .i64 x)=famI n (numK u (k+1)):=by
 rw[Md h,famI,famI];refine AB λi _=>?_;simp only[numK];by_cases e:i=k
 ·subst e;simp[hx]
 ·rw[Ah e]
  by_cases e2:i<k
  ·rw[Ai e2,Ai (by omega)]
  ·rw[Ah e2,Ah (by omega)]
theorem Yl(u:Nat->Bool){l:List Rule}{k:Nat}(h:k<l.length):I3 u (l.take (k+1))=if (u (nth l k).from_.toNat&&u (nth l k).to_.toNat)=true then I3 u (l.take k)++[⟨numB u (nth l k).from_.toNat,numB u (nth l k).to_.toNat,(nth l k).guards,(nth l k).eat,(nth l k).out⟩] else I3 u (l.take k):=by
 rw[take_at h];simp only[I3,BZ,A9,BG,List.filter_nil];split<;>simp_all
theorem Ym(u:Nat->Bool){l:List FP}{k:Nat}(h:k<l.length):IT u (l.take (k+1))=if u (nth l k).from_.toNat=true then IT u (l.take k)++[⟨numB u (nth l k).from_.toNat,(nth l k).guards,(nth l k).out⟩] else IT u (l.take k):=by
 rw[take_at h];simp only[IT,BZ,A9,BG,List.filter_nil];split<;>simp_all
theorem SA(u:Nat->Bool)(l:List Rule):(I3 u l).length<=l.length:=by simpa [I3] using Bt _ l
theorem SB(u:Nat->Bool)(l:List FP):(IT u l).length<=l.length:=by simpa [IT] using Bt _ l
theorem Eb{u:Nat->Bool}{i:Nat}(h:u i=true):numB u i=cntB u i:=Ai h
theorem NC{u:Nat->Bool}{i:Nat}(h:u i=false):numB u i=-1:=Ah (by simp[h])
theorem Jr{n:Nat}{F:List Int}{E:List (Int × Int)}{i:Nat}(h:i<n):nth (Fx n F E) i=Fe E F i:=by simp[nth,Fx,List.getD,h]
theorem SC(n:Nat)(f:Nat->Int):AY (famI n f)=true:=Cf.2 λx hx=>by
 obtain⟨i,_,rfl⟩:=As.1 hx;rfl
theorem Wl{d:Desc}{gs:List (List Span)}{out:List Term}(hg:GH d.in_ gs=true)(hw:IL d out gs=true):PC Tryz.prog 87 [Bg gs,E5 out] (.tup [Bg gs,E5 out]):=by
 obtain⟨g1,g2⟩:=G9 hg;obtain⟨w1,w2⟩:=GC hw;exact z8q gs out (by omega) (λg h=>by have:=g2 g h;omega) (by omega) (λt h=>by have:=w2 t h;omega)
theorem z8s{d:Desc}{r:Rule}(h:Io d r=true):PC Tryz.prog 87 [Bg r.guards,E5 r.out] (.tup [Bg r.guards,E5 r.out]):=by
 simp only[Io,Ad] at h;exact Wl h.2.2.1 h.2.2.2.2
theorem z2y{d:Desc}{f:FP}(h:GA d f=true):PC Tryz.prog 87 [Bg f.guards,E5 f.out] (.tup [Bg f.guards,E5 f.out]):=by
 simp only[GA,Ad] at h;exact Wl h.2.1 h.2.2
abbrev Wm:AV:=.agg [.int .i64 0,.int .i64 0,.int .i64 0,.int .i64 0,.nilS,.nilS]
theorem SD(d:Desc)(hf:GI d)(h:CS d=0):PC Tryz.prog 41 [Dh d] (.tup [Dh (GE d),.int .i64 0]):=by
 have hw:=Iz h;obtain⟨_,hrules,hfinals⟩:=Gd h;obtain⟨n,hn,hn1,hn2⟩:=hw.n;have hC:=GX d hf;rw[h] at hC;have h1:=OL d hw;have h2:=N0 d hw;have hE:PC Tryz.prog 30 [.int .i64 d.in_,.int .i64 d.out] (Dh (K1 d.in_ d.out)):=XT d.in_ d.out;have hst:=hw.start;have hrl:=hw.rl;have hfl:=hw.fl;obtain⟨s,hs⟩:∃s:Nat,d.start=s:=⟨d.start.toNat,by omega⟩;have hsn:s<n:=by omega
 have pR:=BS d.rules;have pF:=BI d.finals;have cL:I0 d=Fx n [d.start] (fwdE d):=by rw[I0,hn];rfl
 have gL:goL d=Fx n (endE d) (bwdE d):=by rw[goL,hn];rfl
 have l1:(I0 d).length=n:=by rw[cL,GW]
 have l2:(goL d).length=n:=by rw[gL,GW]
 have a1:∀i,i<n->nth (I0 d) i=Fe (fwdE d) [d.start] i:=λi hi=>by rw[cL];exact Jr hi
 have a2:∀i,i<n->nth (goL d) i=Fe (bwdE d) (endE d) i:=λi hi=>by rw[gL];exact Jr hi
 have a3:=a2 s hsn;have pC:=HX (I0 d);have pG:=HX (goL d);have hu:∀i,i<n->Dr d i=(nth (I0 d) i&&nth (goL d) i):=λi hi=>by rw[a1 i hi,a2 i hi];rfl
 have hus:Fe (bwdE d) (endE d) s=true->Dr d s=true:=λhb=>by
  have:Reach (fwdE d) [d.start] (s:Int):=.base (by simp[hs]);simp[Dr,hb,ER.2 this]
 have hst2:d.start.toNat=s:=by omega
 have hsT:d.states.toNat=n:=by omega
 unfold GE;rw[hst2,hsT];generalize I0 d=CL at *;generalize goL d=GL at *;generalize hu0:Dr d=u at *;refine BH MD ?_;unfold JJ;cases hb:Fe (bwdE d) (endE d) s with
 |false =>
  rw[hb] at a3;rw[Ai rfl];generalize K1 d.in_ d.out=ev at *;(with_reducible repeat'(first|(simp(disch:=omega)only[push_cast,↓zz,seval,pR,pF,pC,pG,hs,hn,a3])|refine Aa ?_ ?_|(first|refine Ac ?_ ?_|refine Ab ?_ ?_)<;>intro hc<;>(try simp only[push_cast] at hc)|refine eK hC ?_|refine eQ hC ?_|refine eG hC ?_|refine eK h1 ?_|refine eQ h1 ?_|refine eG h1 ?_|refine eK h2 ?_|refine eQ h2 ?_|refine eG h2 ?_|refine eK hE ?_|refine eQ hE ?_|refine eG hE ?_|((first|refine cK hC ?_|refine cQ hC ?_|refine cG hC ?_|refine cK h1 ?_|refine cQ h1 ?_|refine cG h1 ?_|refine cK h2 ?_|refine cQ h2 ?_|refine cG h2 ?_|refine cK hE ?_|refine cQ hE ?_|refine cG hE ?_);(simp(disch:=omega)only[push_cast,↓zz,seval,pR,pF,pC,pG,hs,hn,a3]);(fail_if_success change False))|omega|intro _))
 |true =>
  rw[hb] at a3;rw[Ah (by simp)];have husd:=hus hb;(with_reducible repeat'(first|(simp(disch:=omega)only[push_cast,↓zz,seval,pR,pF,pC,pG,hs,hn,a3])|refine Aa ?_ ?_|(first|refine Ac ?_ ?_|refine Ab ?_ ?_)<;>intro hc<;>(try simp only[push_cast] at hc)|refine eK hC ?_|refine eQ hC ?_|refine eG hC ?_|refine eK h1 ?_|refine eQ h1 ?_|refine eG h1 ?_|refine eK h2 ?_|refine eQ h2 ?_|refine eG h2 ?_|refine eK hE ?_|refine eQ hE ?_|refine eG hE ?_|((first|refine cK hC ?_|refine cQ hC ?_|refine cG hC ?_|refine cK h1 ?_|refine cQ h1 ?_|refine cG h1 ?_|refine cK h2 ?_|refine cQ h2 ?_|refine cG h2 ?_|refine cK hE ?_|refine cQ hE ?_|refine cG hE ?_);(simp(disch:=omega)only[push_cast,↓zz,seval,pR,pF,pC,pG,hs,hn,a3]);(fail_if_success change False))|omega|intro _))
  refine Bu (B5 (λ(k:Nat)=>k<=n) (λk=>n-k)
   (λk=>[(1,.ptr 0 1 0 0),(2,.ptr 1 1 0 0),(5,Li CL),(6,Li GL),(7,.ref 2 1 0 n),(8,.ptr 3 1 0 0),(44,.int .i64 n),(45,.int .i64 k)]) (λk=>[⟨6,1,true,[Dh d]⟩,⟨6,1,true,[Wm]⟩,⟨1,1,true,famI n (numK u k)⟩,⟨6,1,true,[.agg [.int .i64 d.in_,.int .i64 d.out,.int .i64 (cntB u k:Nat),.int .i64 0,.nilS,.nilS]]⟩]) (λenv _=>[Cc 6 (env 1),Cc 6 (env 2),Cc 1 (env 7),Cc 6 (env 8)]) 0 (by simp) ?_ ?_)
  ·have e0:=(z2x n u).symm
   have e1:cntB u 0=0:=rfl;have pI:=SC n;(with_reducible repeat'(first|(simp(disch:=omega)only[push_cast,↓zz,seval,pR,pF,pC,pG,e0,e1,pI])|refine Aa ?_ ?_|(first|refine Ac ?_ ?_|refine Ab ?_ ?_)<;>intro hc<;>(try simp only[push_cast] at hc)|omega|intro _))
  intro k hk;have lI:∀f,(famI n f).length=n:=λf=>by simp[famI]
  have pI:=SC n;rcases Am k n with hkn|hkn
  ·have huk:=hu k hkn
   have hcs:=Gq u k;have hcl:=NB u k;have hset1:(famI n (numK u k)).set k (.int .i64 (-1))=famI n λp=>if p=k then -1 else numK u k p:=Md hkn
   have hset2:(famI n λp=>if p=k then -1 else numK u k p).set k (.int .i64 (cntB u k:Nat))=(famI n (numK u k)).set k (.int .i64 (cntB u k:Nat)):=by
    rw[<-hset1,List.set_set]
   have hl3:=lI λp=>if p=k then -1 else numK u k p
   cases hck:nth CL k with
   |true =>
    cases hgk:nth GL k with
    |true =>
     rw[hck,hgk] at huk;simp only[Bool.and_self,Dj] at huk;have hnx:=Qw hkn u (Eb huk);rw[hnx] at hset2;rw[Ai huk] at hcs;have hlY:=lI (numK u k);generalize (famI n λp=>if p=k then -1 else numK u k p)=X at *;generalize famI n (numK u k)=Y at *;refine W_T ?_;(with_reducible repeat'(first|(simp(disch:=omega)only[push_cast,↓zz,seval,pR,pF,pC,pG,lI,pI,hck,hgk,hset1,hset2,hl3,hlY])|refine Aa ?_ ?_|(first|refine Ac ?_ ?_|refine Ab ?_ ?_)<;>intro hc<;>(try simp only[push_cast] at hc)|omega|intro _))
     all_goals
      refine⟨k+1,?_⟩;(with_reducible repeat'(first|(simp(disch:=omega)only[push_cast,↓zz,seval,pI,hcs])|refine Aa ?_ ?_|(first|refine Ac ?_ ?_|refine Ab ?_ ?_)<;>intro hc<;>(try simp only[push_cast] at hc)|omega|intro _))
    |false =>
     rw[hck,hgk] at huk;simp only[Bool.and_self,Dj] at huk;have hnx:=Qw hkn u (NC huk);rw[Ah (by simp[huk])] at hcs;refine W_T ?_;(with_reducible repeat'(first|(simp(disch:=omega)only[push_cast,↓zz,seval,pR,pF,pC,pG,lI,pI,hck,hgk,hnx])|refine Aa ?_ ?_|(first|refine Ac ?_ ?_|refine Ab ?_ ?_)<;>intro hc<;>(try simp only[push_cast] at hc)|omega|intro _))
     all_goals
      refine⟨k+1,?_⟩;(with_reducible repeat'(first|(simp(disch:=omega)only[push_cast,↓zz,seval,pI,hcs])|refine Aa ?_ ?_|(first|refine Ac ?_ ?_|refine Ab ?_ ?_)<;>intro hc<;>(try simp only[push_cast] at hc)|omega|intro _))
   |false =>
    rw[hck,A5] at huk;have hnx:=Qw hkn u (NC huk);rw[Ah (by simp[huk])] at hcs;refine W_T ?_;(with_reducible repeat'(first|(simp(disch:=omega)only[push_cast,↓zz,seval,pR,pF,pC,pG,lI,pI,hck,hnx])|refine Aa ?_ ?_|(first|refine Ac ?_ ?_|refine Ab ?_ ?_)<;>intro hc<;>(try simp only[push_cast] at hc)|omega|intro _))
    all_goals
     refine⟨k+1,?_⟩;(with_reducible repeat'(first|(simp(disch:=omega)only[push_cast,↓zz,seval,pI,hcs])|refine Aa ?_ ?_|(first|refine Ac ?_ ?_|refine Ab ?_ ?_)<;>intro hc<;>(try simp only[push_cast] at hc)|omega|intro _))
  obtain⟨k0,rfl⟩:∃k0,k=k0:=⟨k,rfl⟩;have hkn2:k=n:=by omega
  subst hkn2;have hna:=z8r k u;rw[hna];have aI:∀i,i<k->(famI k (numB u)).getD i .any=.int .i64 (numB u i):=λi hi=>Ct hi;have aS:=aI s hsn;have nS:=Eb husd;generalize hnu:famI k (numB u)=NU at *;have lN:NU.length=k:=by rw[<-hnu];exact lI _
  have pN:AY NU=true:=by rw[<-hnu];exact pI _
  refine W_T ?_;(with_reducible repeat'(first|(simp(disch:=omega)only[push_cast,↓zz,seval,pR,pF,pC,pG,lN,pN,hs,aS])|refine Aa ?_ ?_|(first|refine Ac ?_ ?_|refine Ab ?_ ?_)<;>intro hc<;>(try simp only[push_cast] at hc)|omega|intro _));have hkR:=λj (hj:j<d.rules.length)=>Yl u hj
  refine Bu (B5 (λ(j:Nat)=>j<=d.rules.length) (λj=>d.rules.length-j)
   (λj=>[(1,.ptr 0 1 0 0),(2,.ptr 1 1 0 0),(7,.ref 2 1 0 k),(8,.ptr 3 1 0 0),(78,F2 d.rules),(79,.int .i64 d.rules.length),(80,.int .i64 j)]) (λj=>[⟨6,1,true,[Dh d]⟩,⟨6,1,true,[Wm]⟩,⟨1,1,true,NU⟩,⟨6,1,true,[.agg [.int .i64 d.in_,.int .i64 d.out,.int .i64 (cntB u k:Nat),.int .i64 (cntB u s:Nat),.ref 4 1 0 (I3 u (d.rules.take j)).length,.ref 5 1 0 ([]:List FP).length]]⟩,⟨5,1,false,(I3 u (d.rules.take j)).map PD⟩,⟨3,1,false,([]:List FP).map Lj⟩]) (λenv H=>[Cc 6 (env 1),Cc 6 (env 2),Cc 1 (env 7),Cc 6 (env 8),Cc 5 (cellAt H (env 8) 4),Cc 3 (cellAt H (env 8) 5)]) 0 (by simp) ?_ ?_)
  ·have e0:I3 u []=[]:=rfl
   (with_reducible repeat'(first|(simp(disch:=omega)only[push_cast,↓zz,seval,pR,pF,lN,pN,e0,nS])|refine Aa ?_ ?_|(first|refine Ac ?_ ?_|refine Ab ?_ ?_)<;>intro hc<;>(try simp only[push_cast] at hc)|omega|intro _))
  intro j hj;have pK:=BS (I3 u (d.rules.take j));have lK:=SA u (d.rules.take j);rw[CQ] at lK;rcases Am j d.rules.length with hjl|hjl
  ·have hr:=hw.r _ (BA hjl)
   have hrB:=hrules _ (BA hjl);have hO:=z8s hrB;have e1:=hkR j hjl;generalize hre:nth d.rules j=r at *;have hgr:=AO r.guards;have hot:=Co r.out;obtain⟨x,hx⟩:∃x:Nat,r.from_=x:=⟨r.from_.toNat,by omega⟩;obtain⟨y,hy⟩:∃y:Nat,r.to_=y:=⟨r.to_.toNat,by omega⟩;have hxn:x<k:=by omega
   have hyn:y<k:=by omega
   have aX:=aI x hxn;have aY:=aI y hyn;rw[hx,hy,Int.toNat_natCast,Int.toNat_natCast] at e1;have cx:=NB u x;have cy:=NB u y;generalize I3 u (d.rules.take j)=K at *;cases hux:u x with
   |true =>
    have nX:=Eb hux;rw[nX] at aX;cases huy:u y with
    |true =>
     have nY:=Eb huy;rw[nY] at aY;rw[Ai (by rw[hux,huy];rfl),nX,nY] at e1;refine W_T ?_;(with_reducible repeat'(first|(simp(disch:=omega)only[push_cast,↓zz,seval,yy,Ag,Al,Ay,Bn,B6,Ax,B3,B2,pR,pF,lN,pN,hre,hgr,hot,hx,hy,aX,aY,pK])|refine Aa ?_ ?_|(first|refine Ac ?_ ?_|refine Ab ?_ ?_)<;>intro hc<;>(try simp only[push_cast] at hc)|refine eK hO ?_|refine eQ hO ?_|refine eG hO ?_|refine P6 [6] [] [] (by simp) (by decide) ?_|((first|refine cK hO ?_|refine cQ hO ?_|refine cG hO ?_);(simp(disch:=omega)only[push_cast,↓zz,seval,yy,Ag,Al,Ay,Bn,B6,Ax,B3,B2,pR,pF,lN,pN,hre,hgr,hot,hx,hy,aX,aY,pK]);(fail_if_success change False))|omega|intro _))
     all_goals
      refine⟨j+1,?_⟩;(with_reducible repeat'(first|(simp(disch:=omega)only[push_cast,↓zz,seval,e1,pK,pN])|refine Aa ?_ ?_|(first|refine Ac ?_ ?_|refine Ab ?_ ?_)<;>intro hc<;>(try simp only[push_cast] at hc)|omega|intro _))
    |false =>
     have nY:=NC huy;rw[nY] at aY;rw[Ah (by rw[hux,huy];simp)] at e1;refine W_T ?_;(with_reducible repeat'(first|(simp(disch:=omega)only[push_cast,↓zz,seval,yy,Ag,Al,Ay,Bn,B6,Ax,B3,B2,pR,pF,lN,pN,hre,hgr,hot,hx,hy,aX,aY,pK])|refine Aa ?_ ?_|(first|refine Ac ?_ ?_|refine Ab ?_ ?_)<;>intro hc<;>(try simp only[push_cast] at hc)|refine eK hO ?_|refine eQ hO ?_|refine eG hO ?_|refine P6 [6] [] [] (by simp) (by decide) ?_|((first|refine cK hO ?_|refine cQ hO ?_|refine cG hO ?_);(simp(disch:=omega)only[push_cast,↓zz,seval,yy,Ag,Al,Ay,Bn,B6,Ax,B3,B2,pR,pF,lN,pN,hre,hgr,hot,hx,hy,aX,aY,pK]);(fail_if_success change False))|omega|intro _))
     all_goals
      refine⟨j+1,?_⟩;(with_reducible repeat'(first|(simp(disch:=omega)only[push_cast,↓zz,seval,e1,pK,pN])|refine Aa ?_ ?_|(first|refine Ac ?_ ?_|refine Ab ?_ ?_)<;>intro hc<;>(try simp only[push_cast] at hc)|omega|intro _))
   |false =>
    have nX:=NC hux;rw[nX] at aX;rw[Ah (by rw[hux];simp)] at e1;generalize numB u y=ny at *;refine W_T ?_;(with_reducible repeat'(first|(simp(disch:=omega)only[push_cast,↓zz,seval,yy,Ag,Al,Ay,Bn,B6,Ax,B3,B2,pR,pF,lN,pN,hre,hgr,hot,hx,hy,aX,aY,pK])|refine Aa ?_ ?_|(first|refine Ac ?_ ?_|refine Ab ?_ ?_)<;>intro hc<;>(try simp only[push_cast] at hc)|refine eK hO ?_|refine eQ hO ?_|refine eG hO ?_|refine P6 [6] [] [] (by simp) (by decide) ?_|((first|refine cK hO ?_|refine cQ hO ?_|refine cG hO ?_);(simp(disch:=omega)only[push_cast,↓zz,seval,yy,Ag,Al,Ay,Bn,B6,Ax,B3,B2,pR,pF,lN,pN,hre,hgr,hot,hx,hy,aX,aY,pK]);(fail_if_success change False))|omega|intro _))
    all_goals
     refine⟨j+1,?_⟩;(with_reducible repeat'(first|(simp(disch:=omega)only[push_cast,↓zz,seval,e1,pK,pN])|refine Aa ?_ ?_|(first|refine Ac ?_ ?_|refine Ab ?_ ?_)<;>intro hc<;>(try simp only[push_cast] at hc)|omega|intro _))
  obtain rfl:j=d.rules.length:=by omega
  have et:d.rules.take d.rules.length=d.rules:=Ap (by omega);rw[et] at pK lK ⊢;refine W_T ?_;(with_reducible repeat'(first|(simp(disch:=omega)only[push_cast,↓zz,seval,pR,pF,lN,pN,pK,et])|refine Aa ?_ ?_|(first|refine Ac ?_ ?_|refine Ab ?_ ?_)<;>intro hc<;>(try simp only[push_cast] at hc)|omega|intro _));have hkF:=λj (hj:j<d.finals.length)=>Ym u hj;generalize hKR:I3 u d.rules=KR at *
  refine Bu (B5 (λ(j:Nat)=>j<=d.finals.length) (λj=>d.finals.length-j)
   (λj=>[(2,.ptr 0 1 0 0),(7,.ref 1 1 0 k),(8,.ptr 2 1 0 0),(122,FN d.finals),(123,.int .i64 d.finals.length),(124,.int .i64 j)]) (λj=>[⟨6,1,true,[Wm]⟩,⟨1,1,true,NU⟩,⟨6,1,true,[.agg [.int .i64 d.in_,.int .i64 d.out,.int .i64 (cntB u k:Nat),.int .i64 (cntB u s:Nat),.ref 3 1 0 KR.length,.ref 4 1 0 (IT u (d.finals.take j)).length]]⟩,⟨5,1,false,KR.map PD⟩,⟨3,1,false,(IT u (d.finals.take j)).map Lj⟩]) (λenv H=>[Cc 6 (env 2),Cc 1 (env 7),Cc 6 (env 8),Cc 5 (cellAt H (env 8) 4),Cc 3 (cellAt H (env 8) 5)]) 0 (by simp) ?_ ?_)
  ·have e0:IT u []=[]:=rfl
   (with_reducible repeat'(first|(simp(disch:=omega)only[push_cast,↓zz,seval,pR,pF,lN,pN,e0,pK])|refine Aa ?_ ?_|(first|refine Ac ?_ ?_|refine Ab ?_ ?_)<;>intro hc<;>(try simp only[push_cast] at hc)|omega|intro _))
  intro j hj;have pJ:=BI (IT u (d.finals.take j));have lJ:=SB u (d.finals.take j);rw[CQ] at lJ;rcases Am j d.finals.length with hjl|hjl
  ·have hr:=hw.f _ (BA hjl)
   have hrB:=hfinals _ (BA hjl);have hO:=z2y hrB;have e1:=hkF j hjl;generalize hre:nth d.finals j=r at *;have hgr:=AO r.guards;have hot:=Co r.out;obtain⟨x,hx⟩:∃x:Nat,r.from_=x:=⟨r.from_.toNat,by omega⟩;have hxn:x<k:=by omega
   have aX:=aI x hxn;rw[hx,Int.toNat_natCast] at e1;have cx:=NB u x;generalize IT u (d.finals.take j)=K at *;cases hux:u x with
   |true =>
    have nX:=Eb hux;rw[nX] at aX;rw[Ai hux,nX] at e1;refine W_T ?_;(with_reducible repeat'(first|(simp(disch:=omega)only[push_cast,↓zz,seval,pR,pF,lN,pN,hre,hgr,hot,hx,aX,pK,pJ])|refine Aa ?_ ?_|(first|refine Ac ?_ ?_|refine Ab ?_ ?_)<;>intro hc<;>(try simp only[push_cast] at hc)|refine eK hO ?_|refine eQ hO ?_|refine eG hO ?_|((first|refine cK hO ?_|refine cQ hO ?_|refine cG hO ?_);(simp(disch:=omega)only[push_cast,↓zz,seval,pR,pF,lN,pN,hre,hgr,hot,hx,aX,pK,pJ]);(fail_if_success change False))|omega|intro _))
    all_goals
     refine⟨j+1,?_⟩;(with_reducible repeat'(first|(simp(disch:=omega)only[push_cast,↓zz,seval,e1,pK,pJ,pN])|refine Aa ?_ ?_|(first|refine Ac ?_ ?_|refine Ab ?_ ?_)<;>intro hc<;>(try simp only[push_cast] at hc)|omega|intro _))
   |false =>
    have nX:=NC hux;rw[nX] at aX;rw[Ah (by rw[hux];simp)] at e1;refine W_T ?_;(with_reducible repeat'(first|(simp(disch:=omega)only[push_cast,↓zz,seval,pR,pF,lN,pN,hre,hgr,hot,hx,aX,pK,pJ])|refine Aa ?_ ?_|(first|refine Ac ?_ ?_|refine Ab ?_ ?_)<;>intro hc<;>(try simp only[push_cast] at hc)|refine eK hO ?_|refine eQ hO ?_|refine eG hO ?_|((first|refine cK hO ?_|refine cQ hO ?_|refine cG hO ?_);(simp(disch:=omega)only[push_cast,↓zz,seval,pR,pF,lN,pN,hre,hgr,hot,hx,aX,pK,pJ]);(fail_if_success change False))|omega|intro _))
    all_goals
     refine⟨j+1,?_⟩;(with_reducible repeat'(first|(simp(disch:=omega)only[push_cast,↓zz,seval,e1,pK,pJ,pN])|refine Aa ?_ ?_|(first|refine Ac ?_ ?_|refine Ab ?_ ?_)<;>intro hc<;>(try simp only[push_cast] at hc)|omega|intro _))
  obtain rfl:j=d.finals.length:=by omega
  have et2:d.finals.take d.finals.length=d.finals:=Ap (by omega);rw[et2] at pJ lJ ⊢;refine W_T ?_;(with_reducible repeat'(first|(simp(disch:=omega)only[push_cast,↓zz,seval,pR,pF,lN,pN,pK,pJ,et2])|refine Aa ?_ ?_|(first|refine Ac ?_ ?_|refine Ab ?_ ?_)<;>intro hc<;>(try simp only[push_cast] at hc)|omega|intro _))
  all_goals (rw[nS];(repeat'(first|(simp(disch:=omega)only[push_cast,↓zz,seval,CN])|omega|(with_reducible refine Aa ?_ ?_))))
  all_goals trace_state
theorem SE{n:Nat}{F:List Int}{E:List (Int × Int)}(hr:InR n F E){on:Nat->Bool}(h1:∀i:Nat,on i=true->Reach E F i)(h2:∀s∈F,on s.toNat=true)(h3:∀e∈E,on e.1.toNat=true->on e.2.toNat=true)(i:Nat):Fe E F i=on i :=
 (z1b hr ⟨λs hs=>(by cases hs),h1,λs hs=>.inl (h2 s hs),λj hj t ht=>.inl (by have:=h3 _ ht;simpa [hj] using this)⟩ i).symm
def exK:Desc:=⟨1,1,3,0,[⟨0,1,[[⟨97,97⟩]],1,[]⟩,⟨0,2,[[⟨98,98⟩]],1,[]⟩],[⟨1,[],[]⟩]⟩
theorem SF{s x:Int}(h:memL (domL s) x):GH s [[⟨x,x⟩]]=true:=by
 have hb:=(z7s s).2 x h
 have hm:IK [⟨x,x⟩] (domL s)=[]:=(z1j (λv hv=>by obtain⟨t,ht,h1,h2⟩:=hv;simp only[Av] at ht;subst ht;simp only at h1 h2;omega) (λt ht=>by simp only[Av] at ht;subst ht;simp)).2 λv hv=>by
  obtain⟨t,ht,h1,h2⟩:=hv;simp only[Av] at ht;subst ht;simp only at h1 h2;have:v=x:=by omega
  rw[this];exact h
 have hc:Nt (-1073741826) [⟨x,x⟩]=true:=by simp[Nt];omega
 simp[GH,OI,hm,VG,hc]
theorem IU:CS exK=0:=by
 refine (JQ (by decide) (λr hr=>?_) (λf hf=>?_) ?_).2
 ·simp only[exK,Ag,Al,Ay] at hr
  rcases hr with rfl|rfl
  ·simp only[Io,Ad]
   exact⟨by decide,by decide,SF (TV.2 (by decide)),by decide,by decide⟩
  ·simp only[Io,Ad]
   exact⟨by decide,by decide,SF (TV.2 (by decide)),by decide,by decide⟩
 ·simp only[exK,Av] at hf
  subst hf;decide
 ·rintro⟨C,hC,j,hj⟩
  obtain⟨_,r,hr,he,_⟩:=hC j hj;simp only[exK,Ag,Al,Ay] at hr;rcases hr with rfl|rfl<;>simp[DT] at he
theorem Uu:GI exK:=by
 refine⟨λr hr t ht=>?_,λf hf t ht=>?_⟩
 ·simp only[exK,Ag,Al,Ay] at hr
  rcases hr with rfl|rfl<;>cases ht
 ·simp only[exK,Av] at hf
  subst hf;cases ht
theorem SG(i:Nat):Fe (fwdE exK) [exK.start] i=decide (i<3):=by
 refine SE (n:=3) ((Iz IU).fwd rfl) (on:=λi=>decide (i<3)) (λi hi=>?_) (by decide) (by decide) i;have b:Reach (fwdE exK) [exK.start] 0:=.base (by decide)
 match i,hi with
 |0,_=>exact b
 |1,_=>exact .step b (by decide)
 |2,_=>exact .step b (by decide)
 |i+3,h=>exact absurd (of_decide_eq_true h) (by omega)
theorem Qy(i:Nat):Fe (bwdE exK) (endE exK) i=decide (i<2):=by
 refine SE (n:=3) ((Iz IU).bwd rfl) (on:=λi=>decide (i<2)) (λi hi=>?_) (by decide) (by decide) i;have b:Reach (bwdE exK) (endE exK) 1:=.base (by decide)
 match i,hi with
 |0,_=>exact .step b (by decide)
 |1,_=>exact b
 |i+2,h=>exact absurd (of_decide_eq_true h) (by omega)
theorem z8t:Dr exK=λi=>decide (i<2):=by
 funext i;rw[Dr,SG,Qy];by_cases h:i<2
 ·simp[h];omega
 ·simp[h]
theorem z8u:GE exK=⟨1,1,2,0,[⟨0,1,[[⟨97,97⟩]],1,[]⟩],[⟨1,[],[]⟩]⟩:=by
 unfold GE;rw[Qy,z8t];rfl
theorem Yn:LJ exK=[0,1,2]:=by
 have:I0 exK=[true,true,true]:=by
  rw[I0,Fx];have e:(Fe (fwdE exK) [exK.start])=λi=>decide (i<3):=funext SG;rw[e];rfl
 rw[LJ,this];rfl
theorem z2z:S8 exK=[0,1]:=by
 have:goL exK=[true,true,false]:=by
  rw[goL,Fx];have e:(Fe (bwdE exK) (endE exK))=λi=>decide (i<2):=funext Qy;rw[e];rfl
 rw[S8,this];rfl
abbrev exKV:AV:=.agg [.int .i64 1,.int .i64 1,.int .i64 3,.int .i64 0,.lst 5 [.agg [.int .i64 0,.int .i64 1,Bg [[⟨97,97⟩]],.int .i64 1,.nilS],.agg [.int .i64 0,.int .i64 2,Bg [[⟨98,98⟩]],.int .i64 1,.nilS]],.lst 3 [.agg [.int .i64 1,.nilS,.nilS]]]
theorem Uv:AV.le exKV (Dh exK):=by
 refine AV.le_agg (BQ (AV.le_refl _) (BQ (AV.le_refl _) (BQ (AV.le_refl _) (BQ (AV.le_refl _) (BQ (AV.le_lst rfl (BS _) ?_) (BQ (AV.le_lst rfl (BI _) ?_) Gh))))))
 ·have k:∀a b:Int,∀g:List (List Span),AV.le (.agg [.int .i64 a,.int .i64 b,Bg g,.int .i64 1,.nilS]) (PD ⟨a,b,g,1,[]⟩):=λa b g=>AV.le_agg (BQ (AV.le_refl _) (BQ (AV.le_refl _) (BQ (AV.le_refl _) (BQ (AV.le_refl _) (BQ (AV.le_nilS (by decide)) Gh)))))
  exact BQ (k _ _ _) (BQ (k _ _ _) Gh)
 ·exact BQ (AV.le_agg (BQ (AV.le_refl _) (BQ (AV.le_nilS (by decide)) (BQ (AV.le_nilS (by decide)) Gh)))) Gh
theorem Uw:PC Tryz.prog 40 [] (.bool true):=by
 have hC:=Yk exK Uu IU;have hG:=Ut exK Uu IU;have hT:=SD exK Uu IU;rw[Yn] at hC;rw[z2z] at hG;rw[z8u] at hT;have hC:=KI hC (BQ Uv Gh);have hG:=KI hG (BQ Uv Gh);have hT:=KI hT (BQ Uv Gh);refine ze4 PF ?_;unfold Kh;refine NH (W_T ?_);(with_reducible repeat'(first|(simp(disch:=omega)only[push_cast,↓zz,seval])|refine Aa ?_ ?_|(first|refine Ac ?_ ?_|refine Ab ?_ ?_)<;>intro hc<;>(try simp only[push_cast] at hc)|omega|intro _));refine NH (W_T ?_);(with_reducible repeat'(first|(simp(disch:=omega)only[push_cast,↓zz,seval])|refine Aa ?_ ?_|(first|refine Ac ?_ ?_|refine Ab ?_ ?_)<;>intro hc<;>(try simp only[push_cast] at hc)|omega|intro _));refine NH (W_T ?_);(with_reducible repeat'(first|(simp(disch:=omega)only[push_cast,↓zz,seval])|refine Aa ?_ ?_|(first|refine Ac ?_ ?_|refine Ab ?_ ?_)<;>intro hc<;>(try simp only[push_cast] at hc)|omega|intro _));refine NK (Xj (l':=[⟨0,2,false,[]⟩,⟨0,2,false,[]⟩,⟨0,2,false,[]⟩,⟨0,2,false,[]⟩,⟨0,2,false,[]⟩,⟨0,2,false,[]⟩,⟨6,1,true,[exKV]⟩]) (g:=6) (d:=8) [0,1,2,3,4,5] (by decide) (by simp) rfl (by decide) ?_ ?_) (W_T ?_)
 ·(simp(disch:=omega)only[push_cast,↓zz,seval])
 ·rfl
 (with_reducible repeat'(first|(simp(disch:=omega)only[push_cast,↓zz,seval])|refine Aa ?_ ?_|(first|refine Ac ?_ ?_|refine Ab ?_ ?_)<;>intro hc<;>(try simp only[push_cast] at hc)|refine eK hC ?_|refine eQ hC ?_|refine eK hG ?_|refine eQ hG ?_|refine eK hT ?_|refine eQ hT ?_|omega|intro _))
 all_goals trace_state
theorem z37(u:Nat->Bool){i j:Nat}(h:i<=j):cntB u i<=cntB u j:=by
 induction j with
 |zero =>
  have:i=0:=by omega
  subst this;exact Ae _
 |succ j ih =>
  by_cases e:i=j+1
  ·subst e;exact Ae _
  ·have h1:=ih (by omega)
   have h2:=Gq u j;split at h2<;>omega
theorem Qz{u:Nat->Bool}{i j:Nat}(hu:u i=true)(h:i<j):cntB u i<cntB u j:=by
 have h1:=Gq u i;rw[Ai hu] at h1;have h2:=z37 u (show i+1<=j by omega);omega
theorem Q0{u:Nat->Bool}{i j:Nat}(hi:u i=true)(hj:u j=true)(h:cntB u i=cntB u j):i=j:=by
 rcases ED i j with h1|h1|h1
 ·have:=Qz hi h1;omega
 ·exact h1
 ·have:=Qz hj h1;omega
theorem K8{u:Nat->Bool}:∀{n j:Nat},j<cntB u n->∃i,i<n/\u i=true/\cntB u i=j
 |0,j,h=>by simp[cntB] at h
 |n+1,j,h=>by
  have h1:=Gq u n;by_cases e:u n=true
  ·rw[Ai e] at h1
   by_cases e2:j=cntB u n
   ·exact⟨n,by omega,e,e2.symm⟩
   ·obtain⟨i,a,b,c⟩:=K8 (u:=u) (n:=n) (j:=j) (by omega)
    exact⟨i,by omega,b,c⟩
  ·rw[Ah e] at h1
   obtain⟨i,a,b,c⟩:=K8 (u:=u) (n:=n) (j:=j) (by omega);exact⟨i,by omega,b,c⟩
theorem Q1(n:Nat){u:Nat->Bool}(h:∀i,i<n->u i=true):∀k,k<=n->cntB u k=k
 |0,_=>rfl
 |k+1,hk=>by rw[Gq,Ai (h k (by omega)),Q1 n h k (by omega)]
section
variable {d:Desc}
theorem IV{s t:Int}:(s,t)∈fwdE d↔∃r∈d.rules,r.from_=s/\r.to_=t:=by simp[fwdE]
theorem ND{s t:Int}:(t,s)∈bwdE d↔∃r∈d.rules,r.from_=s/\r.to_=t:=by
 simp only[bwdE,As,Prod.mk.injEq];constructor
 ·rintro⟨r,hr,h1,h2⟩;exact⟨r,hr,h2,h1⟩
 ·rintro⟨r,hr,h1,h2⟩;exact⟨r,hr,h2,h1⟩
theorem Q2{s:Int}:s∈endE d↔∃f∈d.finals,f.from_=s:=by simp[endE]
theorem Hu{s:Int}(hs:0<=s):Dr d s.toNat=true↔Reach (fwdE d) [d.start] s/\Reach (bwdE d) (endE d) s:=by
 rw[Dr,Ad,ER,ER,Bq hs]
noncomputable def Hm (d:Desc):Desc:=⟨d.in_,d.out,cntB (Dr d) d.states.toNat,numB (Dr d) d.start.toNat,I3 (Dr d) d.rules,IT (Dr d) d.finals⟩
theorem IW{u:Nat->Bool}{l:List Rule}{r':Rule}:r'∈I3 u l↔∃r∈l,(u r.from_.toNat=true/\u r.to_.toNat=true)/\(⟨numB u r.from_.toNat,numB u r.to_.toNat,r.guards,r.eat,r.out⟩:Rule)=r':=by
 simp only[I3,As,Bi,Ad,and_assoc]
theorem K9{u:Nat->Bool}{l:List FP}{f':FP}:f'∈IT u l↔∃f∈l,u f.from_.toNat=true/\(⟨numB u f.from_.toNat,f.guards,f.out⟩:FP)=f':=by
 simp only[IT,As,Bi,and_assoc]
theorem Ld(h:CS d=0)(hg:Reach (bwdE d) (endE d) d.start):Dr d d.start.toNat=true:=(Hu (Iz h).start.1).2 ⟨.base (by simp),hg⟩
theorem IX(h:CS d=0)(hg:Reach (bwdE d) (endE d) d.start):numB (Dr d) d.start.toNat=cntB (Dr d) d.start.toNat/\cntB (Dr d) d.start.toNat<cntB (Dr d) d.states.toNat/\(cntB (Dr d) d.states.toNat:Int)<=d.states:=by
 have hw:=Iz h;obtain⟨n,hn,hn1,hn2⟩:=hw.n;have hs:=hw.start;have h1:=Ld h hg;have h2:=NB (Dr d) d.states.toNat;exact⟨Eb h1,Qz h1 (by omega),by omega⟩
theorem Ux(h:CS d=0)(hg:Reach (bwdE d) (endE d) d.start):CS (Hm d)=0:=by
 have hw:=Iz h;obtain⟨w1,w2,w3⟩:=Gd h;obtain⟨n,hn,hn1,hn2⟩:=hw.n;obtain⟨s1,s2,s3⟩:=IX h hg;have l1:=SA (Dr d) d.rules;have l2:=SB (Dr d) d.finals;have hrl:=hw.rl;have hfl:=hw.fl
 have st:∀x:Int,0<=x/\x<d.states->Dr d x.toNat=true->J4 (Hm d) (numB (Dr d) x.toNat)=true:=λx hx hu=>by
  rw[Eb hu];have:=Qz hu (show x.toNat<d.states.toNat by omega);show (decide (0<=((cntB (Dr d) x.toNat:Nat):Int))&&decide (((cntB (Dr d) x.toNat:Nat):Int)<((cntB (Dr d) d.states.toNat:Nat):Int)))=true;rw[Ad,Ak,Ak];omega
 refine (JQ ?_ (λr' hr'=>?_) (λf' hf'=>?_) ?_).2
 ·have hst:=st d.start hw.start (Ld h hg)
  simp only[NO,Ad,Ak] at w1 ⊢;refine⟨w1.1,w1.2.1,?_,?_,hst,?_,?_⟩<;>simp only[Hm]<;>omega
 ·obtain⟨r,hr,⟨u1,u2⟩,rfl⟩:=IW.1 hr'
  have hb:=w2 r hr;have hr2:=hw.r r hr;simp only[Io,Ad] at hb ⊢;exact⟨st _ hr2.1 u1,st _ hr2.2 u2,hb.2.2.1,hb.2.2.2.1,hb.2.2.2.2⟩
 ·obtain⟨f,hf,u1,rfl⟩:=K9.1 hf'
  have hb:=w3 f hf;have hf2:=hw.f f hf;simp only[GA,Ad] at hb ⊢;exact⟨st _ hf2 u1,hb.2.1,hb.2.2⟩
 ·have hcy:¬cycP d.rules d.states.toNat:=by
   intro hc
   have e:GB d=(4,0):=by
    rw[GB,Ah (by simp[w1]),Ir w2];simp only;rw[Ir w3];simp only;rw[Ai hc]
   rw[CS,e] at h;simp at h
  rintro⟨C,hC,j,hj⟩;refine hcy ⟨λx=>0<=x/\x<d.states/\Dr d x.toNat=true/\C (cntB (Dr d) x.toNat:Nat),λx hx=>?_,?_⟩
  ·obtain⟨x1,x2,x3,x4⟩:=hx
   refine⟨by omega,?_⟩;obtain⟨_,r',hr',e1,e2,e3⟩:=hC _ x4;obtain⟨r,hr,⟨u1,u2⟩,rfl⟩:=IW.1 hr';have hr2:=hw.r r hr;simp only[Eb u1,Eb u2] at e2 e3;have e4:=Q0 u2 x3 (by omega);exact⟨r,hr,e1,by omega,by omega,by omega,u1,e3⟩
  ·obtain⟨hj2,_⟩:=hC j hj
   simp only[Hm,Int.toNat_natCast] at hj2;obtain⟨i,i1,i2,i3⟩:=K8 (u:=Dr d) (n:=d.states.toNat) (j:=j.toNat) (by omega);refine⟨i,by omega,by omega,by simpa using i2,?_⟩;rw[Int.toNat_natCast,i3,Bq hj2.1];exact hj
theorem SH(h:CS d=0)(hg:Reach (bwdE d) (endE d) d.start){s t:Int}(hst:(s,t)∈fwdE d)(ht:Reach (bwdE d) (endE d) t):Reach (bwdE d) (endE d) s:=by
 obtain⟨r,hr,rfl,rfl⟩:=IV.1 hst;exact .step ht (ND.2 ⟨r,hr,rfl,rfl⟩)
theorem SI(h:CS d=0)(hg:Reach (bwdE d) (endE d) d.start){r:Rule}(hr:r∈d.rules)(c1:Reach (fwdE d) [d.start] r.from_)(g2:Reach (bwdE d) (endE d) r.to_):
 (((cntB (Dr d) r.from_.toNat:Nat):Int),((cntB (Dr d) r.to_.toNat:Nat):Int))∈fwdE (Hm d):=by
 have hr2:=(Iz h).r r hr;have c2:Reach (fwdE d) [d.start] r.to_:=.step c1 (IV.2 ⟨r,hr,rfl,rfl⟩);have g1:=SH h hg (IV.2 ⟨r,hr,rfl,rfl⟩) g2;have u1:=(Hu hr2.1.1).2 ⟨c1,g1⟩;have u2:=(Hu hr2.2.1).2 ⟨c2,g2⟩;exact IV.2 ⟨_,IW.2 ⟨r,hr,⟨u1,u2⟩,rfl⟩,Eb u1,Eb u2⟩
theorem Yo(h:CS d=0)(hg:Reach (bwdE d) (endE d) d.start){s:Int}(hc:Reach (fwdE d) [d.start] s):Reach (bwdE d) (endE d) s->Reach (fwdE (Hm d)) [(Hm d).start] (cntB (Dr d) s.toNat:Nat):=by
 induction hc with
 |base hs =>
  intro _;simp only[Av] at hs;subst hs;exact .base (by simp[Hm,(IX h hg).1])
 |@step s t h1 h2 ih =>
  intro ht;have hs:=SH h hg h2 ht;obtain⟨r,hr,rfl,rfl⟩:=IV.1 h2;exact .step (ih hs) (SI h hg hr h1 ht)
theorem z38(h:CS d=0)(hg:Reach (bwdE d) (endE d) d.start){s:Int}(hc:Reach (bwdE d) (endE d) s):Reach (fwdE d) [d.start] s->Reach (bwdE (Hm d)) (endE (Hm d)) (cntB (Dr d) s.toNat:Nat):=by
 induction hc with
 |@base s hs =>
  intro hcs;obtain⟨f,hf,rfl⟩:=Q2.1 hs;have hf2:=(Iz h).f f hf;have u1:=(Hu hf2.1).2 ⟨hcs,.base hs⟩;exact .base (Q2.2 ⟨_,K9.2 ⟨f,hf,u1,rfl⟩,Eb u1⟩)
 |@step t s h1 h2 ih =>
  intro hs;obtain⟨r,hr,rfl,rfl⟩:=ND.1 h2;have ht:Reach (fwdE d) [d.start] r.to_:=.step hs (IV.2 ⟨r,hr,rfl,rfl⟩);have hk:=SI h hg hr hs h1;obtain⟨r',hr',e1,e2⟩:=IV.1 hk;exact .step (ih ht) (ND.2 ⟨r',hr',e1,e2⟩)
theorem z3a(h:CS d=0)(hg:Reach (bwdE d) (endE d) d.start)(j:Nat)(hj:j<(Hm d).states.toNat):Fe (fwdE (Hm d)) [(Hm d).start] j=true/\Fe (bwdE (Hm d)) (endE (Hm d)) j=true:=by
 simp only[Hm,Int.toNat_natCast] at hj;obtain⟨i,i1,i2,i3⟩:=K8 (u:=Dr d) (n:=d.states.toNat) (j:=j) hj;have hu:=(Hu (d:=d) (s:=(i:Int)) (by omega)).1 (by simpa using i2);have a:=Yo h hg hu.1 hu.2;have b:=z38 h hg hu.2 hu.1;rw[Int.toNat_natCast,i3] at a b;exact⟨ER.2 a,ER.2 b⟩
end
theorem NF(l:List Bool):∀k,k<=l.length->(∀i,i<k->nth l i=true)->(Jw l k).length=k
 |0,_,_=>rfl
 |k+1,hk,h=>by rw[Pb,Ai (h k (by omega)),Ao,NF l k (by omega) λi hi=>h i (by omega)];rfl
theorem z3b{c:Desc}(h:CS c=0)(ha:∀j,j<c.states.toNat->Fe (fwdE c) [c.start] j=true/\Fe (bwdE c) (endE c) j=true):GE c=c/\(LJ c).length=c.states.toNat/\(S8 c).length=c.states.toNat:=by
 have hw:=Iz h;obtain⟨n,hn,hn1,hn2⟩:=hw.n;have hs:=hw.start;have hst:c.states.toNat=n:=by omega
 have hu:∀j,j<n->Dr c j=true:=λj hj=>by
  obtain⟨a,b⟩:=ha j (by omega);rw[Dr,a,b];rfl
 have hnum:∀x:Int,0<=x/\x<c.states->numB (Dr c) x.toNat=x/\Dr c x.toNat=true:=λx hx=>by
  have h1:=hu x.toNat (by omega);rw[Eb h1,Q1 n hu x.toNat (by omega)];exact⟨by omega,h1⟩
 have hR:I3 (Dr c) c.rules=c.rules:=by
  have e:(c.rules.filter λr=>Dr c r.from_.toNat&&Dr c r.to_.toNat)=c.rules:=List.filter_eq_self.2 λr hr=>by
   have:=hw.r r hr;rw[(hnum _ this.1).2,(hnum _ this.2).2];rfl
  rw[I3,e];refine (AB λr hr=>?_).trans (EX _);have:=hw.r r hr;rw[(hnum _ this.1).1,(hnum _ this.2).1];rfl
 have hF:IT (Dr c) c.finals=c.finals:=by
  have e:(c.finals.filter λr=>Dr c r.from_.toNat)=c.finals:=List.filter_eq_self.2 λr hr=>(hnum _ (hw.f r hr)).2;rw[IT,e];refine (AB λr hr=>?_).trans (EX _);rw[(hnum _ (hw.f r hr)).1];rfl
 refine⟨?_,?_,?_⟩
 ·unfold GE
  rw[Ah (by rw[(ha c.start.toNat (by omega)).2];simp),hR,hF,(hnum _ hs).1,hst,Q1 n hu n (Ae _),<-hn]
 ·exact NF _ _ (by rw[NA];exact Ae _) λi hi=>by rw[I0,Jr hi];exact (ha i hi).1
 ·exact NF _ _ (by rw[Us];exact Ae _) λi hi=>by rw[goL,Jr hi];exact (ha i hi).2
structure zep(c:Desc):Prop where
 check:CS c=0
 again:GE c=c
 all:((LJ c).length=c.states.toNat/\(S8 c).length=c.states.toNat)\/(c.states=1/\c.rules=[]/\c.finals=[])
theorem Wn{s:Int}(h:¬(s=1\/s=2)):domL s=[]:=by
 unfold domL;rw[Ah (by omega),Ah (by omega)]
theorem z3c{d:Desc}(h:CS d=0):(d.in_=1\/d.in_=2)/\(d.out=1\/d.out=2):=by
 obtain⟨w1,_,_⟩:=Gd h;simp only[NO,Ad,Ak] at w1;constructor
 ·refine AL λhh=>?_
  have:=w1.1;rw[Wn hh] at this;simp at this
 ·refine AL λhh=>?_
  have:=w1.2.1;rw[Wn hh] at this;simp at this
theorem LL{d:Desc}(h:CS d=0):zep (GE d)/\(GE d).states<=d.states:=by
 have hw:=Iz h;obtain⟨n,hn,hn1,hn2⟩:=hw.n;have hs:=hw.start;unfold GE;split
 ·have e2:=TX (z3c h).1 (z3c h).2
  refine⟨⟨e2.2,?_,.inr ⟨rfl,rfl,rfl⟩⟩,by simp[K1];omega⟩;unfold GE;rw[Ai (by simp[Fe,endE,K1,Si])];rfl
 ·rename_i hb
  have hg:Reach (bwdE d) (endE d) d.start:=by
   have:Fe (bwdE d) (endE d) d.start.toNat=true:=by simpa using hb
   have:=ER.1 this
   rwa [Bq hs.1] at this
  have hc:=Ux h hg;have ht:=z3b hc (z3a h hg);exact⟨⟨hc,ht.1,.inl ht.2⟩,(IX h hg).2.2⟩
theorem z3d{d:Desc}(h:CS d=0):GI d:=by
 obtain⟨h1,h2,h3⟩:=Gd h;refine⟨λr hr t ht=>?_,λf hf t ht=>?_⟩
 ·have:=h2 r hr
  simp only[Io,Ad] at this;have:=(GC this.2.2.2.2).2 t ht;omega
 ·have:=h3 f hf
  simp only[GA,Ad] at this;have:=(GC this.2.2).2 t ht;omega
theorem SJ(d:Desc)(hf:GI d)(h:¬CS d=0):PC Tryz.prog 41 [Dh d] (.tup [Wm,.int .i64 2]):=by
 have hC:=GX d hf
 have e:CS d=2:=by
  unfold CS at h ⊢;split at h
  ·exact absurd rfl h
  ·rw[Ah (by assumption)]
 rw[e] at hC;have pR:=BS d.rules;have pF:=BI d.finals;refine BH MD ?_;unfold JJ;(with_reducible repeat'(first|(simp(disch:=omega)only[push_cast,↓zz,seval,pR,pF])|refine Aa ?_ ?_|(first|refine Ac ?_ ?_|refine Ab ?_ ?_)<;>intro hc<;>(try simp only[push_cast] at hc)|refine eK hC ?_|refine eQ hC ?_|refine eG hC ?_|((first|refine cK hC ?_|refine cQ hC ?_|refine cG hC ?_);(simp(disch:=omega)only[push_cast,↓zz,seval,pR,pF]);(fail_if_success change False))|omega|intro _))
 all_goals trace_state
set_option maxRecDepth 100000
end Go.Proofs.YtbcjoeadpjfcfaaGreat
set_option maxRecDepth 100000
namespace Go.Proofs.YtbcjoeadpjfcfaaGreat
open Abs
set_option maxRecDepth 100000
set_option linter.unusedSectionVars false
section
variable {α β:Type}[Inhabited α]
variable {W:Nat->List α}{g:Nat->α->List β}
end
structure WayOk(n:Nat)(w:Int × List Term):Prop where
 e:0<=w.1/\w.1<n
 l:w.2.length<=70000
 p:∀t∈w.2,t.parts.length<=4
set_option maxRecDepth 100000
abbrev pathV(p:List Nat):AV:=.lst 1 (p.map e1)
def resV:Option (List Nat)->AV
 |some x=>pathV x
 |none=>.nilS
set_option maxRecDepth 100000
end Go.Proofs.YtbcjoeadpjfcfaaGreat
namespace Go.Proofs.YtbcjoeadpjfcfaaGreat
open Abs
theorem SK{u v:Nat->Bool}:∀{n:Nat},(∀i,i<n->u i=v i)->cntB u n=cntB v n
 |0,_=>rfl
 |n+1,h=>by rw[Gq,Gq,h n (by omega),SK λi hi=>h i (by omega)]
theorem Wo{on:Nat->Bool}{s:Nat}(ho:on s=false):∀{n:Nat},s<n->cntB (setB on s) n=cntB on n+1
 |n+1,h=>by
  rw[Gq,Gq];by_cases hs:s=n
  ·subst hs
   rw[Ai (by simp[setB]),Ah (by simp[ho]),SK (u:=setB on s) (v:=on) λi hi=>by simp[setB];omega]
  ·have:=Wo ho (n:=n) (by omega)
   have e:setB on s n=on n:=by simp[setB];omega
   rw[e];split<;>omega
structure RInv(n:Nat)(F:List Int)(E:List (Int × Int))(on:Nat->Bool):Prop where
 sound:∀i:Nat,on i=true->Reach E F i
 base:∀s∈F,on s.toNat=true
theorem RInv.set{n:Nat}{F:List Int}{E:List (Int × Int)}{on:Nat->Bool}(h:RInv n F E on){x y:Nat}(hx:on x=true)(he:((x:Int),(y:Int))∈E):RInv n F E (setB on y) where
 sound i hi:=by
  unfold setB at hi;split at hi
  ·rename_i e;subst e;exact .step (h.sound x hx) he
  ·exact h.sound i hi
 base s hs:=by
  unfold setB;split
  ·rfl
  ·exact h.base s hs
structure RIn(n:Nat)(F:List Int)(E:List (Int × Int))(on0 on:Nat->Bool)(more:Bool)(i:Nat):Prop where
 inv:RInv n F E on
 no:more=false->on=on0/\∀j,j<i->on (nth E j).1.toNat=true->on (nth E j).2.toNat=true
 yes:more=true->cntB on0 n<cntB on n
theorem RIn.start{n:Nat}{F:List Int}{E:List (Int × Int)}{on:Nat->Bool}(h:RInv n F E on):RIn n F E on on false 0 :=
 ⟨h,λ_=>⟨rfl,λj hj=>absurd hj (Ba j)⟩,λh=>by cases h⟩
theorem RIn.skip{n i:Nat}{F:List Int}{E:List (Int × Int)}{on0 on:Nat->Bool}{more:Bool}(h:RIn n F E on0 on more i){x y:Nat}(he:nth E i=((x:Int),(y:Int)))(hs:on x=true->on y=true):RIn n F E on0 on more (i+1):=by
 refine⟨h.inv,λhm=>⟨(h.no hm).1,λj hj=>?_⟩,h.yes⟩;by_cases e:j=i
 ·subst e;rw[he];simpa using hs
 ·exact (h.no hm).2 j (by omega)
theorem RIn.take{n i:Nat}{F:List Int}{E:List (Int × Int)}{on0 on:Nat->Bool}{more:Bool}(h:RIn n F E on0 on more i){x y:Nat}(he:((x:Int),(y:Int))∈E)(hx:on x=true)(hy:on y=false)(hyn:y<n):RIn n F E on0 (setB on y) true (i+1):=by
 refine⟨h.inv.set hx he,λhm=>(by cases hm),λ_=>?_⟩;have h1:=Wo hy hyn;cases more with
 |true=>have:=h.yes rfl;omega
 |false=>have:=(h.no rfl).1;subst this;omega
theorem RIn.done{n:Nat}{F:List Int}{E:List (Int × Int)}{on0 on:Nat->Bool}(h:RIn n F E on0 on false E.length):∀e∈E,on e.1.toNat=true->on e.2.toNat=true:=λe he=>by
 obtain⟨j,hj,rfl⟩:=B8 he;have:=(h.no rfl).2 j hj;have e:nth E j=E[j]:=by simp[nth,List.getD,hj]
 rwa [e] at this
end Go.Proofs.YtbcjoeadpjfcfaaGreat
namespace Go.Proofs.YtbcjoeadpjfcfaaGreat
open Abs
end Go.Proofs.YtbcjoeadpjfcfaaGreat
namespace Go.Proofs.YtbcjoeadpjfcfaaGreat
open Abs
set_option maxRecDepth 100000
theorem zik{d:Desc}(h:CS d=0):¬cycP d.rules d.states.toNat:=λhc=>by
 obtain⟨h1,h2,h3⟩:=Gd h
 have h0:(GB d).1=0:=by
  unfold CS at h;split at h
  ·assumption
  ·omega
 rw[GB,Ah (by simp[h1]),Ir h2] at h0;simp only at h0;rw[Ir h3] at h0;simp only at h0;rw[Ai hc] at h0;simp at h0
theorem wf_n{d:Desc}(h:CS d=0):∃n:Nat,d.states=n/\1<=n/\n<=1024/\¬cycP d.rules n/\∀r∈d.rules,(0<=r.from_/\r.from_<n)/\0<=r.to_/\r.to_<n:=by
 have hw:=Iz h;obtain⟨n,hn,h1,h2⟩:=hw.n;refine⟨n,hn,h1,h2,?_,λr hr=>by have:=hw.r r hr;rw[hn] at this;exact this⟩;have:=zik h
 rwa [hn,Int.toNat_natCast] at this
end Go.Proofs.YtbcjoeadpjfcfaaGreat
