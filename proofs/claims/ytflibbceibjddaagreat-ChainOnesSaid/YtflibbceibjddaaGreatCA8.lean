/-
  Parts of the proof that the law holds whatever the input; without conditions.
-/
import Derived.Test.YtflibbceibjddaaGreatCA7
import Derived.Test.YtflibbceibjddaaGreatCA6
import Derived.Test.YtflibbceibjddaaGreatCA5
set_option linter.unusedSimpArgs false
set_option linter.unusedVariables false
set_option linter.unusedSectionVars false
set_option maxRecDepth 100000
namespace Go.Proofs.YtflibbceibjddaaGreat
open Abs O1 O2 O3
def plJ(l:List Part)(j:Nat):List Int:=(l.take j).foldl Fl []
def dJ(l:List Part)(j i:Nat):List Part:=atL (l.take j) (nth (plJ l j) i)
theorem zda{x:Int}:∀(l:List Int)(k:Int),(x∈l->∃i,i<l.length/\idxI x l k=k+i/\nth l i=x)/\(x∉l->idxI x l k=-1)
 |[],k=>⟨λh=>(by cases h),λ_=>rfl⟩
 |y::l,k=>by
  obtain⟨h1,h2⟩:=zda (x:=x) l (k+1);rw[idxI];refine⟨λh=>?_,λh=>?_⟩
  ·by_cases e:x=y
   ·exact⟨0,oc,by rw[Ae e];simp,e.symm⟩
   ·obtain⟨i,i1,i2,i3⟩:=h1 ((Af.1 h).resolve_left e)
    exact⟨i+1,by simp;omega,by rw[Ad e,i2];push_cast;omega,by rw[<-i3];rfl⟩
  ·rw[Af,Ch] at h
   rw[Ad h.1,h2 h.2]
theorem UL(l:List Part)(p:Part)(a:Int):atL (l++[p]) a=if p.at_=a then atL l a++[p] else atL l a:=by
 rw[atL,BZ];by_cases h:p.at_=a
 ·rw[Ae h];simp[h,atL]
 ·rw[Ad h];simp[h,atL]
theorem Po{l:List Part}{j:Nat}(h:j<l.length):plJ l (j+1)=if (nth l j).at_∈plJ l j then plJ l j else plJ l j++[(nth l j).at_]:=by
 rw[plJ,take_at h,E2];rfl
theorem Xt(l:List Part)(j:Nat):(plJ l j).Nodup:=(H7 (l.take j) [] Cm).1
theorem zqd(l:List Part)(j:Nat):(plJ l j).length<=l.length:=by
 have:=(H7 (l.take j) [] Cm).2.2;rw[Bb] at this;simp only[List.length_nil] at this;have e:(plJ l j).length=((l.take j).foldl Fl []).length:=rfl;omega
theorem zjd{l:List Part}{j:Nat}{a:Int}(h:a∉plJ l j):atL (l.take j) a=[]:=by
 rw[atL,List.filter_eq_nil_iff];intro p hp;simp only[Ah];intro e;exact h (((H7 (l.take j) [] Cm).2.1 a).2 (.inr ⟨p,hp,e⟩))
def bpH(t:Term)(x0 x1:AV)(m:Nat)(pl:List Int)(vp vt:Nat)(V:Nat->Nat)(D:Nat->List Part):List Grp :=
 bxH t x0 x1 (.ref 4 vp 0 m) (.ref 5 vt 0 m) .nilS (⟨1,vp,false,pl.map (AV.int .i64)⟩::⟨1,vt,false,fT 6 m V D⟩::fF 4 Dp m V D)
section
variable {t:Term}{x0 x1:AV}{m:Nat}{pl:List Int}{vp vt:Nat}{V:Nat->Nat}{D:Nat->List Part}
theorem zl4:Abs.hl (bpH t x0 x1 m pl vp vt V D)=Abs.hl (⟨6,1,true,[C9 t]⟩::⟨0,2,false,[]⟩::⟨6,1,true,[.agg [x0,x1,.ref 4 vp 0 m,.ref 5 vt 0 m,.nilS,.int .i64 0]]⟩::⟨1,1,true,[.ptr 2 1 0 0]⟩::⟨1,vp,false,pl.map (AV.int .i64)⟩::⟨1,vt,false,fT 6 m V D⟩::fF 4 Dp m V D):=rfl
theorem Mo:(bpH t x0 x1 m pl vp vt V D).length=m+6:=by simp[bpH,Jh,Ha]
theorem NR{k:Nat}(hk:m+6<=k)(h0:x0.pure=true)(h1:x1.pure=true):∀X∈bpH t x0 x1 m pl vp vt V D,ltL k X.xs :=
 G6 om (AL _ _ h0) (AL _ _ h1) (show 4<k by omega) (show 5<k by omega) trivial λX hX=>by
  simp only[Af] at hX;rcases hX with rfl|rfl|hX
  ·exact BU _ _ (C4 .i64 pl)
  ·exact WB hk
  ·exact O7 (λ_=>rfl) X hX
end
theorem zqe{l:List Part}{j q:Nat}(h:j<l.length)(hm:(nth l j).at_∈plJ l j)(hq:q<(plJ l j).length)(hqn:nth (plJ l j) q=(nth l j).at_){i:Nat}(hi:i<(plJ l j).length):dJ l (j+1) i=setD (dJ l j) q (dJ l j q++[nth l j]) i:=by
 rw[dJ,Po h,Ae hm,take_at h,UL];by_cases e:i=q
 ·subst e;rw[Ae hqn.symm,zbq];rfl
 ·rw[Ad λe2=>e (Xn (Xt l j) hi hq (by rw[hqn,e2])),setD,Ad e];rfl
theorem zv7{l:List Part}{j:Nat}(h:j<l.length)(hm:(nth l j).at_∉plJ l j):(∀i,i<(plJ l j).length->dJ l (j+1) i=dJ l j i)/\dJ l (j+1) (plJ l j).length=[nth l j]:=by
 refine⟨λi hi=>?_,?_⟩
 ·have e:nth (plJ l j++[(nth l j).at_]) i=nth (plJ l j) i:=by simp[nth,Ak,A9 hi]
  rw[dJ,Po h,Ad hm,take_at h,UL,e,Ad λe2=>hm (by rw[e2];exact Bi hi)];rfl
 ·have e:nth (plJ l j++[(nth l j).at_]) (plJ l j).length=(nth l j).at_:=by simp[nth]
  rw[dJ,Po h,Ad hm,take_at h,UL,e,Ae rfl,zjd hm];rfl
theorem zqf{α:Type}(o m:Nat)(V:Nat->Nat)(D:Nat->List α):fT o (m+1) V D=fT o m V D++[.ref (m+o) (V m) 0 (D m).length]:=by simp[fT,Dh]
theorem z2s{α:Type}{o m:Nat}{V V':Nat->Nat}{D D':Nat->List α}(h:∀i,i<m->V i=V' i/\D i=D' i):fT o m V D=fT o m V' D':=A6 λi hi=>by
 obtain⟨h1,h2⟩:=h i (AF.1 hi);rw[h1,h2]
theorem zje(t:Term)(x0 x1:AV)(h0:x0.pure=true)(h1:x1.pure=true)(hl:t.parts.length<=4){Q:Ex->Env->A4->Prop}:
 T Tryz.prog 281 0 (hdC (tlC 7 GP)) (BO [(3,.ptr 0 1 0 0),(9,.ptr 3 1 0 0)]) (Abs.hl (bxH t x0 x1 .nilS .nilS .nilS []))
  (Ex.then (λenv' H'=>∃vp vt V,Ent 281 0 env' H' (BO [(9,.ptr 3 1 0 0)]) (Abs.hl (bpH t x0 x1 (plJ t.parts.reverse t.parts.length).length (plJ t.parts.reverse t.parts.length) vp vt V (dJ t.parts.reverse t.parts.length)))) Q):=by
 have pp:=Cx t.parts;have hB:=ON t.parts om;have hit:=z6t t.parts om;have px1:AJ [x0,x1]=true:=by simp[AJ,h0,h1]
 refine DK (DR Te (W_T ?_));have f_:=Aa h0 h1;have e_:=hB;refine ywD ?_;clear f_ e_;refine W_T ?_;generalize hrv:t.parts.reverse=l at *;have hll:l.length=t.parts.length:=by rw[<-hrv,List.length_reverse]
 refine Kv (zl0 (σ:=Nat × Nat × Nat × (Nat->Nat)) (λj q=>q.1=j) [(9,.ptr 3 1 0 0),(87,.fn 219 [.cptr (Cu t.parts)])]
  (λq=>bpH t x0 x1 (plJ l q.1).length (plJ l q.1) q.2.1 q.2.2.1 q.2.2.2 (dJ l q.1)) 6 (λx l'=>False)
  (0,1,1,λ_=>1) hit ?_ ?_ ?_ rfl ?_ rfl rfl (z6s _) (zd8 _) oc rfl ?_ ?_ ?_)
 ·refine (Ea [(9,.ptr 3 1 0 0),(87,.fn 219 [.cptr (Cu t.parts)])] (Dq (m:=4) ⟨rfl,(show 3<4 by omega),rfl,⟨oy,oy⟩,oy⟩)).trans ((Hk [1,1] oc).trans (GY ?_ λi _=>Bn _ _))
  refine⟨⟨rfl,rfl,id,AN _ _⟩,⟨rfl,rfl,id,AN _ _⟩,⟨rfl,rfl,id,?_⟩,⟨rfl,rfl,id,AN _ _⟩,⟨rfl,rfl,λh=>(by cases h),AN _ _⟩,⟨rfl,rfl,λh=>(by cases h),AN _ _⟩,oy⟩;exact⟨⟨Bn _ _,Bn _ _,⟨rfl,rfl,rfl,(show (0:Nat)<1 by omega),rfl,rfl,oc⟩,⟨rfl,rfl,rfl,(show (0:Nat)<1 by omega),rfl,rfl,oc⟩,Bn _ _,Bn _ _,rfl⟩,rfl⟩
 ·rw[Mo];simp[plJ]
 ·intro _ q _;rw[Mo];omega
 ·simp[AJ,AV.pure,pp,Cu]
 ·rintro j row ⟨j',vp,vt,V⟩ hrow hj'
  simp only at hj';subst hj';obtain⟨hj,rfl⟩:=zd7 hrow;have hjl:j'<l.length:=om
  have hpj:nth t.parts (t.parts.length-1-j')=nth l j':=by
   rw[<-hrv,nth,nth,Ak,Ak,List.getElem?_reverse hj]
  rw[hpj];generalize hp:nth l j'=p at *;simp only;have hpl:=zqd l j';have hnd:=Xt l j';have hst:=Po hjl;rw[hp] at hst;have hI:=slices_Index (plJ l j') p.at_ om;have hig:=zda (x:=p.at_) (plJ l j') 0;have hcl:=NR (t:=t) (x0:=x0) (x1:=x1) (m:=(plJ l j').length) (pl:=plJ l j') (vp:=vp) (vt:=vt) (V:=V) (D:=dJ l j') (Ab _) h0 h1;have hbl:(bpH t x0 x1 (plJ l j').length (plJ l j') vp vt V (dJ l j')).length=(plJ l j').length+6:=Mo;rw[<-hbl] at hcl;generalize hL0:bpH t x0 x1 (plJ l j').length (plJ l j') vp vt V (dJ l j')=L0 at *;refine W_T ?_;have f_:=Aa Rb Zn;refine ywB ?_;clear f_;have hL6:6<=L0.length:=om
  refine I8 ((Ea [(9,.ptr 3 1 0 0),(14,.ptr L0.length 1 0 0)] (Dq (m:=L0.length+1) ⟨rfl,(show 3<_ by omega),rfl,(show _<_ by omega),oy⟩)).trans ((UI (F:=L0) (w:=4) (x:=Dp p) 14 rfl ox hL6 hcl rfl (λj _ hne=>by
   simp only[BO];rw[Ad hne];split
   ·exact (show 3<_ by omega)
   ·trivial)).trans (Ea [(9,.ptr 3 1 0 0),(14,.cptr (Dp p))] (Dq (m:=L0.length) ⟨rfl,(show 3<_ by omega),rfl,oy,oy⟩)))) ?_
  subst hL0;have hFl:(fF 4 Dp (plJ l j').length V (dJ l j')).length=(plJ l j').length:=Ha;have hTl:(fT 6 (plJ l j').length V (dJ l j')).length=(plJ l j').length:=W9;refine DR zl4 (W_T ?_);generalize hF:fF 4 Dp (plJ l j').length V (dJ l j')=F at *;generalize hT:fT 6 (plJ l j').length V (dJ l j')=Tb at *;(with_reducible repeat'(first|simp(disch:=omega)only[push_cast,↓zz,seval]|refine sp_ ?_ ?_<;>try(intro hc;push_cast at hc)|refine ee hI ?_|(refine cc hI ?_;simp(disch:=omega)only[push_cast,↓zz,seval];fail_if_success change False)|omega|intro _))
  ·have hSS:∀i (l:List Grp),Cw i [4,5] l l:=λ_ _=>FP
   have hS2:∀i (l:List Grp),Cw i [2] l l:=λ_ _=>FP;refine zgo [4,5] [2] [] [] oc ox ?_;(with_reducible repeat'(first|simp(disch:=omega)only[push_cast,↓zz,seval,yy,Af,An,A7,BC,Ch,AT,Co,Cn,hSS,hS2]|refine sp_ ?_ ?_<;>try(intro hc;push_cast at hc)|omega|intro _))
   have hx:p.at_∉plJ l j':=λhm=>by
    obtain⟨i,_,i2,_⟩:=hig.1 hm;omega
   have hSA:∀X,Cw 6 [] F (F++X):=λ_=>Mn _;have hTn:∀z,(Tb++[AV.nilS]).getD (plJ l j').length z=.nilS:=λz=>by rw[<-hTl];simp[Ak]
   have hTs:∀X,(Tb++[AV.nilS]).set (plJ l j').length X=Tb++[X]:=λX=>by rw[<-hTl];simp
   refine Gr [] ?_;(with_reducible repeat'(first|simp(disch:=omega)only[push_cast,↓zz,seval,xx,Af,An,A7,BC,Ch,AT,Co,Cn,hSA,hTn,hTs,hTl]|refine sp_ ?_ ?_<;>try(intro hc;push_cast at hc)|omega|intro _))
   all_goals
    obtain⟨d1,d2⟩:=zv7 hjl (by rw[hp];exact hx);rw[hp] at d2;have hV:∀i,i<(plJ l j').length->setV V (plJ l j').length 1 i=V i:=λi hi=>by rw[setV,Ad om]
    have hV2:setV V (plJ l j').length 1 (plJ l j').length=1:=by simp[setV]
    refine⟨(j'+1,vp+1,vt+1,setV V (plJ l j').length 1),B3 (gar:=[]) [] ?_ (by rw[Mo];omega) (NR (by rw[Mo];exact Ab _) h0 h1) trivial,rfl⟩;simp only;rw[hst,Ad hx,Ai,List.length_singleton,bpH,zcx,zqf,d2,hV2,z2s (λi hi=>⟨hV i hi,d1 i hi⟩),Pn (λi hi=>⟨hV i hi,d1 i hi⟩),hF,hT,hFl,Ax,Aw];rfl
  ·have hx:p.at_∈plJ l j':=B5 λhm=>by
    have:=hig.2 hm;omega
   obtain⟨q,hq,hqi,hqn⟩:=hig.1 hx;rw[Int.zero_add] at hqi;rw[hqi];have hTn:∀z,Tb.getD q z=.ref (q+6) (V q) 0 (dJ l j' q).length:=λz=>by rw[<-hT];exact zbo hq
   have gI:F.getD q default=gG 4 Dp (V q) (dJ l j' q):=by rw[<-hF];exact OH hq
   simp only[gG] at gI;have hEx:(!(dJ l j' q).isEmpty||((dJ l j' q).map Dp).isEmpty)=true:=YM (e:=Dp) _;have sI:∀X,setQ F q X=some (F.set q X):=λX=>Uy om;have hSB:∀X,Cw 6 [q+6] F (F.set q X):=λX=>ID (by simp;omega);have hSS:∀l,Cw 6 [q+6] l l:=λ_=>FP
   have hdl:(dJ l j' q).length<=l.length:=by
    have h1:=Bg (λp:Part=>decide (p.at_=nth (plJ l j') q)) (l.take j');rw[Bb] at h1;rw[dJ,atL];omega
   refine Gr [q+6] ?_;(with_reducible repeat'(first|simp(disch:=omega)only[push_cast,↓zz,seval,xx,Af,An,A7,BC,Ch,AT,Co,Cn,hTn,gI,sI,hEx,hSB,hSS,hTl]|refine sp_ ?_ ?_<;>try(intro hc;push_cast at hc)|omega|intro _))
   all_goals
    have d1:=λi (hi:i<(plJ l j').length)=>zqe hjl (by rw[hp];exact hx) hq (by rw[hp];exact hqn) hi;rw[hp] at d1
    have eT:fT 6 (plJ l j').length (setV V q (V q+1)) (dJ l (j'+1))=Tb.set q (.ref (q+6) (V q+1) 0 ((dJ l j' q).length+1)):=by
     have:=WA (o:=6) (V:=V) (D:=dJ l j') (l:=dJ l j' q++[p]) hq;rw[Ai,List.length_singleton,hT] at this;rw[this,z2s λi hi=>⟨rfl,d1 i hi⟩]
    have eF:fF 4 Dp (plJ l j').length (setV V q (V q+1)) (dJ l (j'+1))=F.set q ⟨4,V q+1,false,(dJ l j' q).map Dp++[Dp p]⟩:=by
     have:=SN (V:=V) (D:=dJ l j') (w:=4) (e:=Dp) (l:=dJ l j' q++[p]) oc hq;rw[Aw] at this;rw[Pn λi hi=>⟨rfl,d1 i hi⟩,<-this,hF];rfl
    refine⟨(j'+1,vp,vt,setV V q (V q+1)),B3 (gar:=[]) [] ?_ (by rw[Mo];omega) (NR (by rw[Mo];exact Ab _) h0 h1) trivial,rfl⟩;simp only;rw[hst,Ae hx,bpH,eT,eF,Ax];rfl
 ·rintro⟨j,vp,vt,V⟩ hj
  simp only at hj;subst hj;rw[Rh,<-hll];exact⟨vp,vt,V,Ea [(9,.ptr 3 1 0 0)] (Dq (m:=4) ⟨rfl,(show 3<4 by omega),oy⟩)⟩
 ·intro x l' h;exact h.elim
theorem zqg{q:Part}{s:List Span}(hb:EJ q=true):(imgL q s).length<=66060289:=by
 obtain⟨i1,i2⟩:=GI s hb
 have hbd:∀t∈imgL q s,((0:Nat):Int)<=t.lo/\t.hi<=((66060288:Nat):Int):=λt ht=>by
  have hle:=i1.1 t ht;obtain⟨x,_,hx,e⟩:=(i2 t.lo).1 ⟨t,ht,AE _,hle⟩;obtain⟨y,_,hy,e'⟩:=(i2 t.hi).1 ⟨t,ht,hle,AE _⟩;have:=CZ hb hx;have:=CZ hb hy;omega
 obtain⟨c1,c2,c3⟩:=Re i1 hbd om;omega
theorem z6u(s:List Span)(l:List Part)(q:Part):GF (s,l++[q])=GF (s,l)+(Lu (AR (imgL q s))).getD 0:=by simp[GF]
def mqL(pl:List Pl)(n q:Nat):List Int:=(List.range (n+1)).map λi=>if n<=i+q then Fs (pl.drop i) else 0
theorem Zr{pl:List Pl}{n q:Nat}:(mqL pl n q).length=n+1:=by simp[mqL]
theorem zl5{pl:List Pl}{n q i:Nat}(h:i<=n):nth (mqL pl n q) i=if n<=i+q then Fs (pl.drop i) else 0:=by simp[nth,mqL,show i<n+1 by omega]
theorem zjf{pl:List Pl}{n:Nat}(h:pl.length=n):mqL pl n 0=List.replicate (n+1) 0:=by
 refine BL (by simp[mqL]) λi h1 h2=>?_;simp only[mqL,Dt,D1,List.getElem_replicate,Nat.add_zero];split
 ·rw[Ao om];rfl
 ·rfl
theorem zqh{pl:List Pl}{n q:Nat}(hq:q<n):(mqL pl n q).set (n-1-q) (Fs (pl.drop (n-1-q)))=mqL pl n (q+1):=by
 refine BL (by simp[mqL]) λi h1 h2=>?_;simp only[mqL,List.getElem_set,Dt,D1];by_cases e:n-1-q=i
 ·rw[Ae e,Ae om,e]
 ·rw[Ad e]
  by_cases h:n<=i+q
  ·rw[Ae h,Ae om]
  ·rw[Ad h,Ad om]
def bmH(t:Term)(W:List Span)(G:List (List Span))(A:List Int)(P:List (List Part))(n:Nat)(M:List Int):List Grp:=bxH t (AA W) (AQ G) (FY A) (Hl P) (.ref 4 1 0 n) [⟨1,1,true,M.map (AV.int .i64)⟩]
section
variable {t:Term}{W:List Span}{G:List (List Span)}{A:List Int}{P:List (List Part)}{n:Nat}{M:List Int}
theorem Tf:Abs.hl (bmH t W G A P n M)=Abs.hl [⟨6,1,true,[C9 t]⟩,⟨0,2,false,[]⟩,⟨6,1,true,[.agg [AA W,AQ G,FY A,Hl P,.ref 4 1 0 n,.int .i64 0]]⟩,⟨1,1,true,[.ptr 2 1 0 0]⟩,⟨1,1,true,M.map (AV.int .i64)⟩]:=rfl
theorem Iw:∀X∈bmH t W G A P n M,ltL 5 X.xs :=
 G6 om (AL _ _ (Cs W)) (AL _ _ (B0 G)) (AL _ _ (C4 .i64 A)) (AL _ _ (CO (λl=>by simp[Cu,AV.pure,Cx]) P)) (show 4<5 by omega) λX hX=>by
  rw[Am] at hX;subst hX;exact BU _ _ (C4 .i64 M)
end
theorem zqi(t:Term)(W:List Span)(G:List (List Span))(A:List Int)(P:List (List Part))(ha:A.length<=4)(M0:List Int)(hM:M0=List.replicate (A.length+1) 0){Q:Ex->Env->A4->Prop}:
 T Tryz.prog 281 0 (hdC (tlC 8 GP)) (BO [(9,.ptr 3 1 0 0)]) (Abs.hl (bxH t (AA W) (AQ G) (FY A) (Hl P) .nilS []))
  (Ex.then (λenv' H'=>Ent 281 0 env' H' (BO [(9,.ptr 3 1 0 0)]) (Abs.hl (bmH t W G A P (A.length+1) M0))) Q):=by
 have pA:=C4 .i64 A;have pP:AJ (P.map Cu)=true:=CO (λl=>by simp[Cu,AV.pure,Cx]) P;refine DR Te (W_T ?_);dsimp only[hdC,tlC,GP];have f_:=Aa pA pP;refine ywB ?_;clear f_;refine B3 (gar:=[]) _ (by rw[hM];simp[bmH,bxH,List.replicate_succ]) (Ap _) Iw ⟨rfl,(show 3<5 by omega),oy⟩
theorem zqj(t:Term){W:List Span}{G:List (List Span)}{A:List Int}{P:List (List Part)}{M:List Int}{pl:List Pl}(h:Xq W G A P M pl){Q:Ex->Env->A4->Prop}:
 T Tryz.prog 281 0 (hdC (tlC 9 GP)) (BO [(9,.ptr 3 1 0 0)]) (Abs.hl (bmH t W G A P (A.length+1) (mqL pl A.length 0)))
  (Ex.then (λenv' H'=>Ent 281 0 env' H' (BO [(9,.ptr 3 1 0 0)]) (Abs.hl (bmH t W G A P (A.length+1) (mqL pl A.length A.length)))) Q):=by
 have pA:=C4 .i64 A;have pP:AJ (P.map Cu)=true:=CO (λl=>by simp[Cu,AV.pure,Cx]) P;have hal:=h.al;have hpN:=h.pn;have htop:=h.top;refine DK (DR Tf (W_T ?_));have f_:=Aa pA pP;refine ywB ?_;clear f_;refine W_T ?_
 refine Ba (D6 (σ:=Nat) (λq=>q<=A.length) (λq=>A.length-q)
  (λq=>BO [(9,.ptr 3 1 0 0),(16,.int .i64 ((A.length:Int)-1-q))]) (λq=>Abs.hl (bmH t W G A P (A.length+1) (mqL pl A.length q))) 0 (Ap _) ?_ ?_)
 ·refine B3 (gar:=[]) _ (by simp[bmH,bxH]) (Ap _) Iw ⟨rfl,(show 3<5 by omega),Bt (AV.int .i64) (show (A.length:Int)-1=A.length-1-((0:Nat):Int) by omega),oy,oy⟩
 intro q hq;rcases Aj q A.length with hql|hql
 ·obtain⟨k,hk⟩:∃k,k=A.length-1-q:=⟨_,rfl⟩
  have e16:(A.length:Int)-1-q=(k:Int):=om
  have hkl:k<A.length:=om
  rw[e16];have hm:nth pl k∈pl:=Bi (by rw[h.ll];exact hkl);have ha:=h.at_ k hkl;obtain⟨o1,o2,o3⟩:=h.ok _ hm;have hset:=h.sets k hkl;have hsl:=h.sl _ hm;rw[hset] at o1 o2 o3 hsl;simp only at o1 o2 o3 hsl;have hdr:pl.drop k=nth pl k::pl.drop (k+1):=drop_at (by rw[h.ll];exact hkl)
  have hsum:Fs (pl.drop k)=GF (nth G (nth A k).toNat,nth P k)+Fs (pl.drop (k+1)):=by
   rw[hdr,hset];simp[Fs]
  have hml:0<=Fs (pl.drop (k+1)):=MW λp hp=>h.ok p (Bc hp);have hmd:=Xr h.ok k;have hset2:=zqh (pl:=pl) hql;rw[<-hk] at hset2;have hnx:nth (mqL pl A.length q) (k+1)=Fs (pl.drop (k+1)):=by rw[zl5 om,Ae om]
  have hmq:(mqL pl A.length q).length=A.length+1:=Zr;have pM:=C4 .i64 (mqL pl A.length q);generalize hMq:mqL pl A.length q=Mq at *;generalize hS:nth G (nth A k).toNat=s at *;generalize hPs:nth P k=ps at *;generalize hb0:Fs (pl.drop (k+1))=b0 at *;have pps:=Cx ps;have ppv:(Cu ps).pure=true:=by simp[Cu,AV.pure,pps]
  have m0:=JV (s:=s) (ps:=ps) o3;refine DR Tf (W_T ?_);have f_:=Aa pA (Aa pP (Aa pM (Aa hnx (Aa hPs hmq))));refine ywB ?_;clear f_
  refine Ba (D6 (σ:=Nat) (λi=>i<=ps.length) (λi=>ps.length-i)
   (λi=>BO [(9,.ptr 3 1 0 0),(16,.int .i64 k),(180,Cu ps),(181,.int .i64 ps.length),(182,.int .i64 i)]) (λi=>Abs.hl (bmH t W G A P (A.length+1) (Mq.set k (b0+GF (s,ps.take i))))) 0 (Ap _) ?_ ?_)
  ·refine B3 (gar:=[]) _ (by simp[bmH,bxH,GF,List.map_set]) (Ap _) Iw ⟨rfl,(show 3<5 by omega),rfl,oy,rfl,AL _ _ ppv,rfl,oy,rfl,oy,oy⟩
  intro i hi;rcases Aj i ps.length with hil|hil
  ·have hb:=o3 _ (Bi hil)
   have hI:=Lb (nth ps i) s om;have hil4:=zqg (s:=s) hb;have hLa:=Ws (imgL (nth ps i) s) om;have e1:ps.take (i+1)=ps.take i++[nth ps i]:=take_at hil;have m1:=JV (s:=s) (ps:=ps.take i) λr hr=>o3 r (Be hr);have m2:=z1j (s:=s) hb;have hle:(ps.take i).length<=4:=by rw[Bb];omega
   have hw:IntKind.i64.wrap (b0+GF (s,ps.take i)+(Lu (AR (imgL (nth ps i) s))).getD 0)=b0+GF (s,ps.take i)+(Lu (AR (imgL (nth ps i) s))).getD 0:=IntWalk.i64_in _ om;have e2:b0+GF (s,ps.take (i+1))=b0+GF (s,ps.take i)+(Lu (AR (imgL (nth ps i) s))).getD 0:=by rw[e1,z6u];omega
   have pMs:=C4 .i64 (Mq.set k (b0+GF (s,ps.take i)));have hms:(Mq.set k (b0+GF (s,ps.take i))).length=A.length+1:=by rw[C3,hmq]
   have hmn:nth (Mq.set k (b0+GF (s,ps.take i))) k=b0+GF (s,ps.take i):=by simp[nth,hmq,show k<A.length+1 by omega]
   have hss:(Mq.set k (b0+GF (s,ps.take i))).set k (b0+GF (s,ps.take (i+1)))=Mq.set k (b0+GF (s,ps.take (i+1))):=List.set_set ..;generalize Mq.set k (b0+GF (s,ps.take i))=Ms at *;refine DR Tf (W_T ?_);have f_:=Aa pA (Aa pP (Aa pMs (Aa hmn (Aa hS (Aa hw hms)))));have e_:=hI;have e_1:=hLa;refine ywD ?_;clear f_ e_ e_1
   all_goals
    refine⟨i+1,B3 (gar:=[⟨4,1,true,[Dp (nth ps i)]⟩]) _ ?_ (Ap _) Iw ⟨rfl,(show 3<5 by omega),rfl,oy,rfl,AL _ _ ppv,rfl,oy,rfl,oy,oy⟩,om,om⟩;rw[<-hss,e2];simp[bmH,bxH,List.map_set]
  ·obtain rfl:i=ps.length:=om
   rw[As];refine DR Tf (W_T ?_);refine ywA ?_
   all_goals
    refine⟨q+1,B3 (gar:=[]) _ ?_ (Ap _) Iw ⟨rfl,(show 3<5 by omega),Bt (AV.int .i64) (show (k:Int)-1=A.length-1-((q+1:Nat):Int) by omega),oy,oy⟩,om,om⟩;rw[<-hset2,hsum,Int.add_comm];simp[bmH,bxH]
 ·obtain rfl:q=A.length:=om
  refine DR Tf (W_T ?_);refine ywA ?_;exact B3 (gar:=[]) _ (by simp[bmH,bxH]) (Ap _) Iw ⟨rfl,(show 3<5 by omega),oy⟩
abbrev boxR(q:Int × List (List (List Span))):AV:=.tup [.lst 1 (q.2.map AQ),.int .i64 q.1]
def boH(t:Term)(W:List Span)(G:List (List Span))(A:List Int)(P:List (List Part))(M:List Int)(st:Int)(v:Nat)(l:List (List (List Span)))(R:List Grp):List Grp:=⟨6,1,true,[C9 t]⟩::⟨0,2,false,[]⟩::⟨6,1,true,[fndV W G A P M st]⟩::⟨1,1,true,[.ptr 2 1 0 0]⟩::⟨1,v,false,l.map AQ⟩::R
section
variable {t:Term}{W:List Span}{G:List (List Span)}{A:List Int}{P:List (List Part)}{M:List Int}{st:Int}{v:Nat}{l:List (List (List Span))}{R:List Grp}
theorem Tg:Abs.hl (boH t W G A P M st v l R)=Abs.hl (⟨6,1,true,[C9 t]⟩::⟨0,2,false,[]⟩::⟨6,1,true,[.agg [AA W,AQ G,FY A,Hl P,FY M,.int .i64 st]]⟩::⟨1,1,true,[.ptr 2 1 0 0]⟩::⟨1,v,false,l.map AQ⟩::R):=rfl
theorem Pp(l:List (List (List Span))):AJ (l.map AQ)=true:=CO (λs=>by simp only[AQ,AV.pure,B0]) l
theorem Ti{k:Nat}(hk:5<=k)(hR:∀X∈R,ltL k X.xs):∀X∈boH t W G A P M st v l R,ltL k X.xs:=λX hX=>by
 simp only[boH,Af] at hX;rcases hX with rfl|rfl|rfl|rfl|rfl|hX
 ·exact⟨AL _ _ (by simp[C9,Cu,AV.pure,AJ,Cx]),oy⟩
 ·trivial
 ·exact⟨AL _ _ (IX W G A P M st),oy⟩
 ·exact⟨(show 2<k by omega),oy⟩
 ·exact BU _ _ (Pp l)
 ·exact hR X hX
end
theorem Ri{s:List Span}{a:Int}:∀(pl:List Int)(row:Row)(G:List (List Span)),row.length=pl.length->setRow G (pl++[a]) (row++[s])=(setRow G pl row).set a.toNat s
 |[],row,G,h=>by
  obtain rfl:row=[]:=Az h;rfl
 |b::pl,[],G,h=>by simp at h
 |b::pl,r::row,G,h=>by
  simp only[List.cons_append,setRow];exact Ri pl row _ (by simpa using h)
theorem Ln:∀(pl:List Int)(row:Row)(G:List (List Span)),(setRow G pl row).length=G.length
 |[],row,G=>by cases row<;>rfl
 |b::pl,[],G=>rfl
 |b::pl,r::row,G=>by rw[setRow,Ln pl row,C3]
theorem Xu{α:Type}{f:α->AV}{z:AV}(l:List α)[Inhabited α]{i:Nat}(h:i<l.length):((l.take i).map f++List.replicate (l.length-i) z).set i (f (nth l i))=(l.take (i+1)).map f++List.replicate (l.length-(i+1)) z:=by
 have e:l.length-i=(l.length-(i+1))+1:=om
 rw[take_at h,e,List.replicate_succ,List.set_append];have hl:((l.take i).map f).length=i:=by simp;omega
 rw[Ad om,hl,Nat.sub_self,List.set_cons_zero];simp
theorem Xv(G:List (List Span))(i:Nat):AJ ((G.take i).map AA++List.replicate (G.length-i) AV.nilS)=true:=Bz.2 λx hx=>by
 rcases Av.1 hx with hx|hx
 ·exact Bz.1 (B0 (G.take i)) x hx
 ·rw[(List.mem_replicate.1 hx).2];rfl
theorem zdb{m:Nat}{env:Env}{t:Term}{W:List Span}{G:List (List Span)}{A:List Int}{P:List (List Part)}{M:List Int}{st:Int}{v:Nat}{dn:List (List (List Span))}{b:List (List Span)}{X:Grp}(L:List (Nat × AV))(hL:IF 5 env L):
 Ent m 0 env (Abs.hl [⟨6,1,true,[C9 t]⟩,⟨0,2,false,[]⟩,⟨6,1,true,[fndV W G A P M st]⟩,⟨1,1,true,[.ptr 2 1 0 0]⟩,⟨1,v,false,dn.map AQ++[.ref 5 1 0 b.length]⟩,⟨1,1,true,b.map AA⟩,X]) (BO L) (Abs.hl (boH t W G A P M st v (dn++[b]) [])):=by
 generalize hl:([⟨6,1,true,[C9 t]⟩,⟨0,2,false,[]⟩,⟨6,1,true,[fndV W G A P M st]⟩,⟨1,1,true,[.ptr 2 1 0 0]⟩,⟨1,v,false,dn.map AQ++[.ref 5 1 0 b.length]⟩,⟨1,1,true,b.map AA⟩,X]:List Grp)=l
 have hat:((Abs.hl l).only [5]).at_ 5=⟨1,1,true,b.map AA⟩:=by
  rw[LO,Ae oc,Da,<-hl];rfl
 have h1:FrzM 1 (Abs.hl l) [5] (dn.map AQ++[.ref 5 1 0 b.length]) ((dn++[b]).map AQ):=by
  rw[Aw];refine FrzM.app (FrzM.refl _) ⟨_,_,rfl,.inl (.inr ⟨?_,?_⟩),rfl⟩
  ·refine⟨by rw[hat],by rw[hat];exact Nat.one_pos,by rw[hat];simp,λz hz=>?_⟩
   rw[hat] at hz;exact Bz.1 (B0 b) z (Bc (Be hz))
  ·show _=AV.lst _ _
   rw[hat,BH,Ay oc];exact Bt (AV.lst 1) ((A6 λx hx=>(rfl:frzV 0 _ x=x)).trans (DV _)).symm
 have h2:=Gw (n:=m) (b:=0) (env:=env) (l:=l) (l':=boH t W G A P M st v (dn++[b]) [(⟨1,1,true,b.map AA⟩:Grp).dead,X]) (g:=4) (w:=1) (v:=v) (d:=1) (ex:=false) (xs:=dn.map AQ++[.ref 5 1 0 b.length]) (ys:=(dn++[b]).map AQ) [5] ox (by rw[<-hl];simp) (by rw[<-hl];rfl) ox h1 (by rw[<-hl];rfl);exact h2.trans (B3 (l0:=boH t W G A P M st v (dn++[b]) []) (gar:=[(⟨1,1,true,b.map AA⟩:Grp).dead,X]) L rfl (Ap _) (Ti (Ab _) (λY hY=>by cases hY)) hL)
theorem zqk(t:Term){W:List Span}{G:List (List Span)}{A:List Int}{P:List (List Part)}{M:List Int}{pl:List Pl}(h:Xq W G A P M pl)(hGl:∀s∈G,s.length<=1000000000000){Q:Ex->Env->A4->Prop}{RV:Int × List (List (List Span))}
 (hRV:(match (He W pl 0 0).1 with|none=>(4,[])|some rows=>if 4096<rows.length then (4,[]) else (0,rows.map (setRow G A)))=RV)
 (hq:∀env l y c bs,RV=(c,bs)->env 6=y->env 7=.int .i64 c->Ent 1 0 (λ_=>.tup [y,.int .i64 c]) (Abs.hl l) (λ_=>boxR (c,bs)) (Abs.hl [])->Q .ret env (Abs.hl l)) :
 T Tryz.prog 281 0 (tlC 10 GP) (BO [(9,.ptr 3 1 0 0)]) (Abs.hl (bxH t (AA W) (AQ G) (FY A) (Hl P) (FY M) [])) Q:=by
 have pW:=Cs W;have pG:=B0 G;have pA:=C4 .i64 A;have pM:=C4 .i64 M;have pP:AJ (P.map Cu)=true:=CO (λl=>by simp[Cu,AV.pure,Cx]) P;have hF:=Rf h A.length 0 om 0 0 om (AE _) (by have:=h.top;simpa using this);rw[BH] at hF;have hgl:=h.gl;have hal:=h.al;have hro:=λrows k' (e:He W pl 0 0=(some rows,k'))=>(YK pl h.ok 0 0 rows k' (AE _) (by have:=h.top;omega) e).1;generalize hfr:He W pl 0 0=fr at *;obtain⟨o,st⟩:=fr;have pR:=JE o;refine DK (DR Te (W_T ?_));have f_:=Aa pA (Aa pP pM);refine ywB ?_;clear f_;have pF0:AJ [AA W,AQ G,FY A,Hl P,FY M,.int .i64 0]=true:=IX W G A P M 0
 (refine at_c [2] (hF) ox oc (by refine⟨?_,?_,?_,?_⟩<;>(simp(disch:=omega)only[push_cast,↓zz,seval,Af,An,A7,B6,Cr,BG,pF0,pW,pG,pA,pP,pM])) ?_)
 rintro y H' ⟨rfl,rfl⟩;refine⟨_,rfl,oc,?_⟩;have hnil:Ent 1 0 (λ_=>.tup [.nilS,.int .i64 4]) (Abs.hl []) (λ_=>boxR (4,[])) (Abs.hl []):=GY trivial λ_ _=>⟨⟨ox,rfl⟩,Bn _ _,rfl⟩;cases o with
 |none =>
  subst hRV;(with_reducible repeat'(first|simp(disch:=omega)only[push_cast,↓zz,seval,Kj,pP]|refine sp_ ?_ ?_<;>try(intro hc;push_cast at hc)|omega|intro _));refine DK (W_T ?_);refine ywA ?_;exact hq _ _ _ _ _ rfl rfl rfl (Lm rfl ⟨⟨ox,rfl⟩,Bn _ _,rfl⟩)
 |some rows =>
  have prs:AJ (rows.map AQ)=true:=Pp rows;(with_reducible repeat'(first|simp(disch:=omega)only[push_cast,↓zz,seval,Kj,prs,pP]|refine sp_ ?_ ?_<;>try(intro hc;push_cast at hc)|omega|intro _));refine DK (W_T ?_);(with_reducible repeat'(first|simp(disch:=omega)only[push_cast,↓zz,seval,prs]|refine sp_ ?_ ?_<;>try(intro hc;push_cast at hc)|omega|intro _))
  ·have:4096<rows.length:=om
   simp only[Ae this] at hRV;subst hRV;exact hq _ _ _ _ _ rfl rfl rfl (Lm rfl ⟨⟨ox,rfl⟩,Bn _ _,rfl⟩)
  have hlen:¬4096<rows.length:=om
  simp only[Ad hlen] at hRV;refine DK (W_T ?_);(with_reducible repeat'(first|simp(disch:=omega)only[push_cast,↓zz,seval]|refine sp_ ?_ ?_<;>try(intro hc;push_cast at hc)|omega|intro _));refine DK (W_T ?_);(with_reducible repeat'(first|simp(disch:=omega)only[push_cast,↓zz,seval,prs]|refine sp_ ?_ ?_<;>try(intro hc;push_cast at hc)|omega|intro _));refine W_T ?_
  refine Ba (D6 (σ:=Nat × Nat) (λq=>q.1<=rows.length) (λq=>rows.length-q.1)
   (λq=>BO [(9,.ptr 3 1 0 0),(228,IH rows),(229,.int .i64 rows.length),(230,.int .i64 q.1),(23,.ref 4 q.2 0 q.1)])
   (λq=>Abs.hl (boH t W G A P M st q.2 ((rows.take q.1).map (setRow G A)) [])) (0,1) (Ap _) ?_ ?_)
  ·refine (Ea [(9,.ptr 3 1 0 0),(228,IH rows),(229,.int .i64 rows.length),(230,.int .i64 0),(23,.nilS)] (Dq (m:=4) ⟨rfl,(show 3<4 by omega),rfl,AL _ _ (by simp[AV.pure,prs]),rfl,oy,rfl,oy,rfl,oy,oy⟩)).trans ((Hk [1] oc).trans (GY ?_ λi _=>?_))
   ·refine⟨⟨rfl,rfl,id,AN _ _⟩,⟨rfl,rfl,id,AN _ _⟩,⟨rfl,rfl,id,AN _ _⟩,⟨rfl,rfl,id,AN _ _⟩,⟨rfl,rfl,λh=>(by cases h),AN _ _⟩,oy⟩
   ·simp only[BO]
    repeat' split
    all_goals first|exact Bn _ _|exact⟨rfl,rfl,rfl,(show (0:Nat)<1 by omega),rfl,rfl,oc⟩
  rintro⟨j,v⟩ hj;simp only at hj ⊢;rcases Aj j rows.length with hjl|hjl
  ·refine DR Tg (W_T ?_)
   have f_:=Aa prs (Aa pA (Aa pM pP));refine ywB ?_;clear f_;obtain⟨row,hrow⟩:∃row,row=nth rows j:=⟨_,rfl⟩;obtain⟨hr1,hr2⟩:=hro rows st rfl row (by rw[hrow];exact Bi hjl);rw[h.ll] at hr1;rw[<-hrow];have prow:=B0 row;have hTk:((rows.take j).map (setRow G A)).length=j:=by rw[Au,Bb];omega
   have lr:(IH rows).pure=true:=by simp[AV.pure,prs]
   have hcl:∀(v:Nat)(dn:List (List (List Span)))(X:List AV),AJ X=true->∀Y∈boH t W G A P M st v dn [⟨1,1,true,X⟩],ltL 6 Y.xs:=λv dn X hX=>Ti om λY hY=>by
    rw[Am] at hY;subst hY;exact BU _ _ hX
   generalize hdn:(rows.take j).map (setRow G A)=dn at *
   refine Ba (D6 (σ:=Nat) (λi=>i<=G.length) (λi=>G.length-i)
    (λi=>BO [(9,.ptr 3 1 0 0),(228,IH rows),(229,.int .i64 rows.length),(230,.int .i64 j),(23,.ref 4 v 0 j),(25,AQ row),(26,.ref 5 1 0 G.length),(243,AQ G),(244,.int .i64 G.length),(245,.int .i64 i)])
    (λi=>Abs.hl (boH t W G A P M st v dn [⟨1,1,true,(G.take i).map AA++List.replicate (G.length-i) .nilS⟩])) 0 (Ap _) ?_ ?_)
   ·exact B3 (gar:=[]) _ (by simp[boH]) (Ap _) (hcl v dn _ (Xv G 0)) ⟨rfl,(show 3<6 by omega),rfl,AL _ _ lr,rfl,oy,rfl,oy,rfl,(show 4<6 by omega),rfl,AL _ _ prow,rfl,(show 5<6 by omega),rfl,AL _ _ pG,rfl,oy,rfl,oy,oy⟩
   intro i hi;rcases Aj i G.length with hil|hil
   ·have hC:=QF (nth G i) (hGl _ (Bi hil))
    have hsl:((G.take i).map AA++List.replicate (G.length-i) AV.nilS).length=G.length:=by simp;omega
    have hts:=Xu (f:=AA) (z:=AV.nilS) G hil;refine DR Tg (W_T ?_);have f_:=Aa prs (Aa pA (Aa pM (Aa pP (Aa hsl hts))));have e_:=hC;refine ywD ?_;clear f_ e_;exact⟨i+1,B3 (gar:=[]) _ (by simp[boH]) (Ap _) (hcl v dn _ (Xv G (i+1))) ⟨rfl,(show 3<6 by omega),rfl,AL _ _ lr,rfl,oy,rfl,oy,rfl,(show 4<6 by omega),rfl,AL _ _ prow,rfl,(show 5<6 by omega),rfl,AL _ _ pG,rfl,oy,rfl,oy,oy⟩,om,om⟩
   ·obtain rfl:i=G.length:=om
    rw[As,Nat.sub_self,List.replicate_zero,Ax];refine DR Tg (W_T ?_);refine ywA ?_;have hG0:G=setRow G (A.take 0) (row.take 0):=rfl
    refine Ba (D6 (σ:=Nat) (λi=>i<=row.length) (λi=>row.length-i)
     (λi=>BO [(9,.ptr 3 1 0 0),(228,IH rows),(229,.int .i64 rows.length),(230,.int .i64 j),(23,.ref 4 v 0 j),(26,.ref 5 1 0 G.length),(256,AQ row),(257,.int .i64 row.length),(258,.int .i64 i)])
     (λi=>Abs.hl (boH t W G A P M st v dn [⟨1,1,true,(setRow G (A.take i) (row.take i)).map AA⟩])) 0 (Ap _) ?_ ?_)
    ·exact B3 (gar:=[]) _ (by simp[boH,setRow]) (Ap _) (hcl v dn _ (B0 _)) ⟨rfl,(show 3<6 by omega),rfl,AL _ _ lr,rfl,oy,rfl,oy,rfl,(show 4<6 by omega),rfl,(show 5<6 by omega),rfl,AL _ _ prow,rfl,oy,rfl,oy,oy⟩
    intro i hi;have hsl:(setRow G (A.take i) (row.take i)).length=G.length:=Ln _ _ _;rcases Aj i row.length with hil|hil
    ·have hC:=QF (nth row i) (by have:=(hr2 _ (Bi hil)).1.len;omega)
     have ha:=h.at_ i om
     have hsn:setRow G (A.take (i+1)) (row.take (i+1))=(setRow G (A.take i) (row.take i)).set (nth A i).toNat (nth row i):=by
      rw[take_at (show i<A.length by omega),take_at hil];exact Ri _ _ _ (by simp;omega)
     generalize hb:setRow G (A.take i) (row.take i)=bb at *;refine DR Tg (W_T ?_);have f_:=Aa prs (Aa pA (Aa pM (Aa pP hsl)));have e_:=hC;refine ywD ?_;clear f_ e_;exact⟨i+1,B3 (gar:=[]) _ (by rw[hsn];simp[boH,List.map_set]) (Ap _) (hcl v dn _ (B0 _)) ⟨rfl,(show 3<6 by omega),rfl,AL _ _ lr,rfl,oy,rfl,oy,rfl,(show 4<6 by omega),rfl,(show 5<6 by omega),rfl,AL _ _ prow,rfl,oy,rfl,oy,oy⟩,om,om⟩
    ·obtain rfl:i=row.length:=om
     rw[As,hr1,As];refine DR Tg (W_T ?_);have f_:=prs;refine ywB ?_;clear f_;have e1:(rows.take (j+1)).map (setRow G A)=dn++[setRow G A row]:=by rw[take_at hjl,Aw,hdn,hrow];rfl
     refine⟨(j+1,v+1),?_,by simp only;omega,by simp only;omega⟩;simp only;rw[e1];have hs2:=Ln A row G;rw[<-hs2];exact zdb _ ⟨rfl,(show 3<5 by omega),rfl,AL _ _ lr,rfl,oy,rfl,oy,rfl,(show 4<5 by omega),oy⟩
  ·obtain rfl:j=rows.length:=om
   rw[As];refine DR Tg (W_T ?_);refine ywA ?_;refine DK (W_T ?_);refine ywA ?_;refine W_T ?_;refine ywA ?_;have hlz:(rows.map (setRow G A)).length=rows.length:=Au ..;rw[<-hlz];clear hlz;generalize rows.map (setRow G A)=bs at *;have pz:=Pp bs;refine hq _ _ _ _ _ hRV.symm rfl rfl (IW (l0:=[]) 4 [4] (z:=boxR (0,bs)) ?_ rfl (λg hg=>by cases hg) ?_ (by simp[AV.pure,AJ,pz]))
   ·(simp(disch:=omega)only[push_cast,↓zz,seval,pz])
   ·(simp(disch:=omega)only[push_cast,↓zz,seval,pz])
theorem Nk{P:Program}{n b:Nat}{x y:AC}{env:Env}{H:A4}{Q:Ex->Env->A4->Prop}{F:Env->A4->Prop}(h1:T P n b x env H (Ex.then F Q))(h2:∀env' H',F env' H'->T P n b y env' H' Q):T P n b (.seq x y) env H Q :=
 DK (T.mono h1 λz e h hh=>by
  cases z with
  |normal=>exact h2 _ _ hh
  |exit i=>exact hh
  |ret=>exact hh)
theorem z2t(s:List Span):(symI s).length<=s.length+1:=by
 rw[<-Ul];have h1:=MQ (AR s) (AR [⟨0,1114111⟩]);have h2:=En s;have h3:=En [⟨0,1114111⟩];simp only[List.length_cons,List.length_nil] at h3;omega
theorem zdc{p:Part}(ho:EJ p=true)(m:List Span):(preL p [⟨0,1114111⟩] m).length<=1114112:=by
 obtain⟨p1,p2⟩:=Uk [⟨0,1114111⟩] m ho
 have hbd:∀v,memL (preL p [⟨0,1114111⟩] m) v->0<=v/\v<=1114111:=λv hv=>by
  obtain⟨s,hs,h1,h2⟩:=((p2 v).1 hv).1;rw[Am] at hs;subst hs;exact⟨h1,h2⟩
 obtain⟨c1,c2,c3⟩:=Re (N:=1114111) (f:=0) p1 (λs hs=>by
  have hle:=p1.1 s hs;have:=hbd s.lo ⟨s,hs,AE _,hle⟩;have:=hbd s.hi ⟨s,hs,hle,AE _⟩
  omega) om
 omega
theorem zv8{t:Term}{gs:List (List Span)}{g:List Span}(ha:askT t gs.length=true)(he:(gs.all λs=>decide (0<((symI s).length:Int)))=true)(hgs:∀s∈gs,s.length<=90000):
 Xq (Ut t g) (gs.map symI) (Ge t) ((Ge t).map (atL t.parts.reverse)) (mqL (OG t gs) (Ge t).length (Ge t).length) (OG t gs):=by
 simp only[askT,Ac,Ah] at ha;obtain⟨h4,hn,hp⟩:=ha;have h4:gs.length<=4:=om
 rw[AP] at he
 have hsets:∀s∈gs,Ur (symI s):=λs hs=>by
  have:=he s hs;simp only[Ah] at this;exact⟨Q7 s,Cz.1 om⟩
 have hnum:=hn;simp only[DN,Ac,Ah] at hnum;obtain⟨⟨_,ho⟩,_,hl⟩:=hnum;have hpr:∀p∈t.parts,EP p gs.length=true:=AP.1 hp;obtain⟨pn,pm,pc⟩:=H7 t.parts.reverse [] Cm
 have hpl:∀a∈Ge t,0<=a/\a<gs.length:=λa ha=>by
  rcases (pm a).1 ha with h|⟨p,hp,rfl⟩
  ·cases h
  ·exact JR (hpr p (List.mem_reverse.1 hp))
 have hbits:∀a,∀q∈atL t.parts.reverse a,EJ q=true:=λa q hq=>by
  have:=hpr q (List.mem_reverse.1 (AW.1 hq).1);simp only[EP,Ac] at this;exact this.2
 have hok:PlOk (OG t gs):=λp hp=>by
  obtain⟨a,ha,rfl⟩:=Al.1 hp;have:=hpl a ha;refine⟨hsets _ (Bi om),?_,hbits a⟩;have:=Bg (λp:Part=>decide (p.at_=a)) t.parts.reverse;rw[List.length_reverse] at this;simp only[atL];omega
 have hmost:Fs (OG t gs)<=264241152:=by
  have h1:Fs (OG t gs)<=((Ge t).map λa=>((atL t.parts.reverse a).length:Int) * 66060288).sum:=by
   rw[Fs,OG,BP];exact zkq λa ha=>(JV (s:=symI (nth gs a.toNat)) (hbits a)).2
  rw[zbj,SI t.parts.reverse (Ge t) pn (λp hp=>(pm _).2 (.inr ⟨p,hp,rfl⟩)),List.length_reverse] at h1;omega
 have hll:(OG t gs).length=(Ge t).length:=by rw[OG,Au]
 have hpc:(Ge t).length<=4:=by
  have e:(Ge t).length=(t.parts.reverse.foldl Fl []).length:=rfl;rw[List.length_reverse] at pc;simp only[List.length_nil] at pc;omega
 refine⟨hpc,by rw[Au],by rw[Zr],hll,by rw[Au];exact h4,?_,λi hi=>?_,λi hi=>?_,λp hp=>?_,hok,λi hi=>?_,om⟩
 ·have:=zdc ho (Gs g (-t.base))
  have:=Pa (preL t.outer [⟨0,1114111⟩] (Gs g (-t.base))) (-t.sum);rw[Ut];omega
 ·rw[Au];exact hpl _ (Bi hi)
 ·have:=hpl _ (Bi hi)
  simp only[OG,nth,Ak,Df,Ar hi,Option.map_some,Option.getD_some];refine Prod.ext ?_ rfl;simp only;have hz:(Ge t)[i].toNat<gs.length:=by have:=hpl _ (BM hi);omega
  simp[hz]
 ·obtain⟨a,ha,rfl⟩:=Al.1 hp
  have:=hpl a ha;have h1:=z2t (nth gs a.toNat);have h2:=hgs _ (Bi (l:=gs) (i:=a.toNat) om);simp only;omega
 ·rw[zl5 hi,Ae om]
theorem z6v{m:Nat}{env:Env}{t:Term}{v:Nat}{b:List (List Span)}(L:List (Nat × AV))(hL:IF 4 env L):
 Ent m 0 env (Abs.hl (bxH t .nilS (.ref 4 v 0 b.length) .nilS .nilS .nilS [⟨1,v,false,b.map AA⟩])) (BO L) (Abs.hl (bxH t .nilS (AQ b) .nilS .nilS .nilS [])):=by
 generalize hl:bxH t .nilS (.ref 4 v 0 b.length) .nilS .nilS .nilS [⟨1,v,false,b.map AA⟩]=l
 have hat:((Abs.hl l).only [4]).at_ 4=⟨1,v,false,b.map AA⟩:=by
  rw[LO,Ae oc,Da,<-hl];rfl
 have h1:FrzM 1 (Abs.hl l) [4] [.agg [.nilS,.ref 4 v 0 b.length,.nilS,.nilS,.nilS,.int .i64 0]] [.agg [.nilS,AQ b,.nilS,.nilS,.nilS,.int .i64 0]]:=by
  refine⟨_,[],rfl,.inr ⟨_,_,rfl,rfl,_,_,rfl,.inl rfl,_,_,rfl,.inr ⟨?_,?_⟩,_,_,rfl,.inl rfl,_,_,rfl,.inl rfl,_,_,rfl,.inl rfl,_,_,rfl,.inl rfl,rfl⟩,rfl⟩
  ·refine⟨by rw[hat],by rw[hat];exact Nat.one_pos,by rw[hat];simp,λz hz=>?_⟩
   rw[hat] at hz;exact Bz.1 (B0 b) z (Bc (Be hz))
  ·show _=AV.lst _ _
   rw[hat,BH,Ay oc];exact Bt (AV.lst 1) ((A6 λx hx=>(rfl:frzV 0 _ x=x)).trans (DV _)).symm
 have h2:=Gw (n:=m) (b:=0) (env:=env) (l:=l) (l':=bxH t .nilS (AQ b) .nilS .nilS .nilS [(⟨1,v,false,b.map AA⟩:Grp).dead]) (g:=2) (w:=6) (v:=1) (d:=1) (ex:=true) (xs:=[.agg [.nilS,.ref 4 v 0 b.length,.nilS,.nilS,.nilS,.int .i64 0]]) (ys:=[.agg [.nilS,AQ b,.nilS,.nilS,.nilS,.int .i64 0]]) [4] ox (by rw[<-hl];simp[bxH]) (by rw[<-hl];rfl) ox h1 (by rw[<-hl];rfl);exact h2.trans (B3 (l0:=bxH t .nilS (AQ b) .nilS .nilS .nilS []) (gar:=[(⟨1,v,false,b.map AA⟩:Grp).dead]) L rfl (Ap _) (G6 (by rw[Jh];simp) trivial (AL _ _ (B0 b)) trivial trivial trivial λX h=>by cases h) hL)
theorem zdd{m w v:Nat}{ex:Bool}{env:Env}{t:Term}{xs ys X:List AV}{n:Nat}{R R':List Grp}(hw:0<w)(pX:AJ X=true)(hX:X.length=n)
 (hxy:FrzL 1 (Abs.hl (⟨6,1,true,[C9 t]⟩::⟨0,2,false,[]⟩::⟨6,1,true,[.agg xs]⟩::⟨1,1,true,[.ptr 2 1 0 0]⟩::⟨w,v,ex,X⟩::R)) [4] xs ys) (hR:Ec 5 [4] R=R') :
 Ent m 0 env (Abs.hl (⟨6,1,true,[C9 t]⟩::⟨0,2,false,[]⟩::⟨6,1,true,[.agg xs]⟩::⟨1,1,true,[.ptr 2 1 0 0]⟩::⟨w,v,ex,X⟩::R)) env (Abs.hl (⟨6,1,true,[C9 t]⟩::⟨0,2,false,[]⟩::⟨6,1,true,[.agg ys]⟩::⟨1,1,true,[.ptr 2 1 0 0]⟩::(⟨w,v,ex,X⟩:Grp).dead::R')):=by
 subst hR;exact Gw (g:=2) (w:=6) (v:=1) (d:=1) (ex:=true) (xs:=[.agg xs]) (ys:=[.agg ys]) [4] ox oc rfl ox ⟨_,[],rfl,.inr ⟨_,_,rfl,rfl,hxy⟩,rfl⟩ rfl
theorem z2u{l:List Grp}{w v n:Nat}{ex:Bool}{X:List AV}(hg:l.getD 4 default=⟨w,v,ex,X⟩)(hw:0<w)(pX:AJ X=true)(hX:X.length=n):Frz1 1 (Abs.hl l) [4] (.ref 4 v 0 n) (.lst w X):=by
 have hat:((Abs.hl l).only [4]).at_ 4=⟨w,v,ex,X⟩:=by
  rw[LO,Ae oc,Da,hg]
 subst hX;refine .inr ⟨?_,?_⟩
 ·refine⟨by rw[hat],by rw[hat];exact hw,by rw[hat];simp,λz hz=>?_⟩
  rw[hat] at hz;exact Bz.1 pX z (Bc (Be hz))
 ·show _=AV.lst _ _
  rw[hat,BH,Ay oc];exact Bt (AV.lst w) ((A6 λx hx=>(rfl:frzV 0 _ x=x)).trans (DV _)).symm
theorem Xw:∀(F:List Grp)(p:Nat),4<p->Ec p [4] F=F
 |[],_,_=>rfl
 |X::F,p,h=>by rw[CM,Ad (by simp;omega),Xw F (p+1) om]
theorem zde{m:Nat}{env:Env}{t:Term}{W:List Span}{G:List (List Span)}{A:List Int}{P:List (List Part)}{n:Nat}{M:List Int}(hM:M.length=n)(L:List (Nat × AV))(hL:IF 4 env L):
 Ent m 0 env (Abs.hl (bmH t W G A P n M)) (BO L) (Abs.hl (bxH t (AA W) (AQ G) (FY A) (Hl P) (FY M) [])):=by
 rw[Tf];refine (zdd (w:=1) (n:=n) (R':=[]) (ys:=[AA W,AQ G,FY A,Hl P,FY M,.int .i64 0]) ox (C4 .i64 M) (by simp[hM]) ?_ rfl).trans ?_
 ·exact⟨_,_,rfl,.inl rfl,_,_,rfl,.inl rfl,_,_,rfl,.inl rfl,_,_,rfl,.inl rfl,_,_,rfl,z2u rfl ox (C4 .i64 M) (by simp[hM]),_,_,rfl,.inl rfl,rfl⟩
 ·exact B3 (l0:=bxH t (AA W) (AQ G) (FY A) (Hl P) (FY M) []) L rfl (Ap _) (G6 (by rw[Jh];simp) (AL _ _ (Cs W)) (AL _ _ (B0 G)) (AL _ _ (C4 .i64 A)) (AL _ _ (CO (λl=>by simp[Cu,AV.pure,Cx]) P)) (AL _ _ (C4 .i64 M)) λX h=>by cases h) hL
theorem zdf{m:Nat}{env:Env}{t:Term}{x0 x1:AV}{k:Nat}{pl:List Int}{vp vt:Nat}{V:Nat->Nat}{D:Nat->List Part}{P:List (List Part)}(p0:x0.pure=true)(p1:x1.pure=true)(hk:pl.length=k)(hP:P=(List.range k).map D)(L:List (Nat × AV))(hL:IF 4 env L):
 Ent m 0 env (Abs.hl (bpH t x0 x1 k pl vp vt V D)) (BO L) (Abs.hl (bxH t x0 x1 (FY pl) (Hl P) .nilS [])):=by
 rw[zl4];refine (zdd (w:=1) (n:=k) (R':=(⟨1,vt,false,fT 6 k V D⟩:Grp)::fF 4 Dp k V D) (ys:=[x0,x1,FY pl,.ref 5 vt 0 k,.nilS,.int .i64 0]) ox (C4 .i64 pl) (by simp[hk]) ?_ (Xw _ _ ox)).trans ?_
 ·exact⟨_,_,rfl,.inl rfl,_,_,rfl,.inl rfl,_,_,rfl,z2u rfl ox (C4 .i64 pl) (by simp[hk]),_,_,rfl,.inl rfl,_,_,rfl,.inl rfl,_,_,rfl,.inl rfl,rfl⟩
 generalize hl:(⟨6,1,true,[C9 t]⟩::⟨0,2,false,[]⟩::⟨6,1,true,[.agg [x0,x1,FY pl,.ref 5 vt 0 k,.nilS,.int .i64 0]]⟩::⟨1,1,true,[.ptr 2 1 0 0]⟩::(⟨1,vp,false,pl.map (AV.int .i64)⟩:Grp).dead::⟨1,vt,false,fT 6 k V D⟩::fF 4 Dp k V D:List Grp)=l;have h1:(Abs.hl l).at_ 5=⟨1,vt,false,fT 6 k V D⟩:=by rw[<-hl];rfl
 have h2:∀i,i<k->(Abs.hl l).at_ (i+6)=gG 4 Dp (V i) (D i):=λi hi=>by
  rw[<-hl,Da];simp only[BK];exact OH hi
 obtain⟨f1,f2⟩:=QJ (w:=4) (e:=Dp) ox (λ_=>rfl) h1 h2;have hfD:fD 4 Dp k D=P.map Cu:=by rw[hP,BP];rfl
 rw[hfD] at f2;have n0:∀j,j<5->j∉fKs 5 6 k:=λj hj=>Jd om om;have m5:(5:Nat)∈fKs 5 6 k:=by simp[fKs]
 have hF:Ec 6 (fKs 5 6 k) (fF 4 Dp k V D)=(fF 4 Dp k V D).map Grp.dead:=MZ λj hj=>by
  rw[Ha] at hj;rw[BX];exact QI hj
 have h3:=Gw (n:=m) (b:=0) (env:=env) (l:=l) (l':=bxH t x0 x1 (FY pl) (Hl P) .nilS []++((⟨1,vp,false,pl.map (AV.int .i64)⟩:Grp).dead::(⟨1,vt,false,fT 6 k V D⟩:Grp).dead::(fF 4 Dp k V D).map Grp.dead)) (g:=2) (w:=6) (v:=1) (d:=2) (ex:=true) (xs:=[.agg [x0,x1,FY pl,.ref 5 vt 0 k,.nilS,.int .i64 0]]) (ys:=[.agg [x0,x1,FY pl,Hl P,.nilS,.int .i64 0]]) (fKs 5 6 k) ox (by rw[<-hl];simp) (by rw[<-hl];rfl) (n0 2 ox)
  ⟨_,[],rfl,.inr ⟨_,_,rfl,rfl,_,_,rfl,.inl rfl,_,_,rfl,.inl rfl,_,_,rfl,.inl rfl,_,_,rfl,.inr ⟨f1,f2.symm⟩,_,_,rfl,.inl rfl,_,_,rfl,.inl rfl,rfl⟩,rfl⟩ (by
   rw[<-hl,CM,CM,CM,CM,CM,CM,Ad (n0 0 ox),Ad (n0 1 ox),Ad (n0 2 ox),Ad (n0 3 ox),Ad (n0 4 ox),Ae m5,hF]
   rfl)
 exact h3.trans (B3 (l0:=bxH t x0 x1 (FY pl) (Hl P) .nilS []) L rfl (Ap _) (G6 (by rw[Jh];simp) (AL _ _ p0) (AL _ _ p1) (AL _ _ (C4 .i64 pl)) (AL _ _ (CO (λl=>by simp[Cu,AV.pure,Cx]) P)) trivial λX h=>by cases h) hL)
theorem zdg(t:Term)(gs:List (List Span))(g:List Span)(h64:∀x∈[t.base,t.sum],-9223372036854775808<x/\x<=9223372036854775807)(hl:t.parts.length<=1000000000000)(hgl:gs.length<=1000000)(hgs:∀s∈gs,s.length<=90000)(hg:g.length<=1000000000):
 PC Tryz.prog 173 [C9 t,AQ gs,AA g] (boxR (boxV t gs g)):=by
 have pg:=B0 gs;have pgg:=Cs g;have hR:=zcq t gs.length h64 hl;generalize hRV:boxV t gs g=RV
 have h:B9 Tryz.prog 173 [C9 t,AQ gs,AA g] (Abs.hl []) λy H'=>y=boxR RV/\H'=Abs.hl []:=by
  refine EU (IK Yo (DK (W_T ?_)));refine ywA ?_;refine DK (W_T ?_);(with_reducible repeat'(first|simp(disch:=omega)only[push_cast,↓zz,seval]|refine sp_ ?_ ?_<;>try(intro hc;push_cast at hc)|refine ee hR ?_|(refine cc hR ?_;simp(disch:=omega)only[push_cast,↓zz,seval];fail_if_success change False)|omega|intro _))
  ·have e:RV=(1,[]):=by rw[<-hRV,boxV,Ae hc]
   exact⟨boxR (1,[]),_,Lm rfl ⟨⟨ox,rfl⟩,Bn _ _,rfl⟩,by rw[e],rfl⟩
  refine KN [(1,AQ gs),(2,AA g),(3,.ptr 0 1 0 0),(8,AA [⟨0,1114111⟩])] (Abs.hl [⟨6,1,true,[C9 t]⟩,⟨0,2,false,[]⟩]) (W_T ?_) ?_
  ·(with_reducible repeat'(first|simp(disch:=omega)only[push_cast,↓zz,seval]|refine sp_ ?_ ?_<;>try(intro hc;push_cast at hc)|omega|intro _))
   refine (Pj 8 1 2 1 1 ox oc rfl rfl rfl rfl rfl).trans (Ea _ (Dq (m:=2) ⟨rfl,AL _ _ (by simp[AV.pure,pg]),rfl,AL _ _ (by simp[AV.pure,pgg]),rfl,(show 0<2 by omega),rfl,AL _ _ rfl,oy⟩))
  refine KN [(1,AQ gs),(2,AA g),(3,.ptr 0 1 0 0),(8,AA [⟨0,1114111⟩]),(9,.ptr 3 1 0 0)] (Abs.hl (bxH t .nilS .nilS .nilS .nilS .nilS [])) (W_T ?_) ?_
  ·(with_reducible repeat'(first|simp(disch:=omega)only[push_cast,↓zz,seval]|refine sp_ ?_ ?_<;>try(intro hc;push_cast at hc)|omega|intro _))
   refine B3 (gar:=[]) _ rfl (Ap _) (G6 (by rw[Jh];simp) trivial trivial trivial trivial trivial λX h=>by cases h) ⟨rfl,AL _ _ (by simp[AV.pure,pg]),rfl,AL _ _ (by simp[AV.pure,pgg]),rfl,(show 0<4 by omega),rfl,AL _ _ rfl,rfl,(show 3<4 by omega),oy⟩
  refine Nk (zd9 t gs g hgl (λs hs=>by have:=hgs s hs;omega) λhe env l e6 e7=>?_) λenv' H' hh=>?_
  ·have e:RV=(0,[]):=by rw[<-hRV,boxV,Ad (by rw[hc];decide),Ae he]
   have f_:=Aa e6 e7;refine ywB ?_;clear f_;exact⟨boxR (0,[]),_,Lm rfl ⟨⟨ox,rfl⟩,Bn _ _,rfl⟩,by rw[e],rfl⟩
  ·obtain⟨hall,v,he⟩:=hh
   have hF:=zv8 (g:=g) hc hall hgs;have hgm:(gs.map symI).length=gs.length:=Au ..;rw[<-hgm] at he;refine I8 (he.trans (z6v [(2,AA g),(3,.ptr 0 1 0 0),(8,AA [⟨0,1114111⟩]),(9,.ptr 3 1 0 0)] ⟨rfl,AL _ _ (by simp[AV.pure,pgg]),rfl,(show 0<4 by omega),rfl,AL _ _ rfl,rfl,(show 3<4 by omega),oy⟩)) ?_;have hc0:=hc;simp only[askT,Ac,Ah] at hc;obtain⟨h4,hn,hp⟩:=hc;have hnum:=hn;simp only[DN,Ac,Ah] at hnum;obtain⟨⟨⟨hb,hs⟩,ho⟩,_,hpl⟩:=hnum;have hsm:=GH hs;have hbm:=GH hb;have w1:IntKind.i64.wrap (-t.base)=-t.base:=IntWalk.i64_in _ om;have w2:IntKind.i64.wrap (-t.sum)=-t.sum:=IntWalk.i64_in _ om;have hM1:=MP g (-t.base) om;have hml:=Pa g (-t.base);have hPr:=Uj t.outer [⟨0,1114111⟩] (Gs g (-t.base)) oc om;have hWl:=hF.wl;have hpl4:t.parts.length<=4:=om
   have hpr:(preL t.outer [⟨0,1114111⟩] (Gs g (-t.base))).length<=1000000000000:=by have:=zdc ho (Gs g (-t.base));omega
   have hto:t.outer=⟨0,t.drop,t.take,t.up⟩:=rfl;have pG:=B0 (gs.map symI);have hM2:=MP (preL t.outer [⟨0,1114111⟩] (Gs g (-t.base))) (-t.sum) hpr;have pW:=Cs (Ut t g);have hWe:Gs (preL t.outer [⟨0,1114111⟩] (Gs g (-t.base))) (-t.sum)=Ut t g:=rfl;rw[hWe] at hM2;refine DK (DR Te (W_T ?_));have f_:=Aa w1 w2;have e_:=hM1;have e_1:=hPr;refine ywD ?_;clear f_ e_ e_1;refine KN [(3,.ptr 0 1 0 0),(9,.ptr 3 1 0 0)] (Abs.hl (bxH t (AA (Ut t g)) (AQ (gs.map symI)) .nilS .nilS .nilS [])) (W_T ?_) ?_
   ·have f_:=Aa w1 w2;have e_:=hM2;refine ywD ?_;clear f_ e_
    exact B3 (gar:=[]) _ rfl (Ap _) (G6 (by rw[Jh];simp) (AL _ _ pW) (AL _ _ pG) trivial trivial trivial λX h=>by cases h) ⟨rfl,(show 0<4 by omega),rfl,(show 3<4 by omega),oy⟩
   refine Nk (zje t (AA (Ut t g)) (AQ (gs.map symI)) pW pG hpl4) λenv' H' hh=>?_;obtain⟨vp,vt,V,he⟩:=hh;have hpe:plJ t.parts.reverse t.parts.length=Ge t:=by rw[plJ,<-List.length_reverse,As];rfl
   rw[hpe] at he
   have hD:(Ge t).map (atL t.parts.reverse)=(List.range (Ge t).length).map (dJ t.parts.reverse t.parts.length):=by
    conv=>lhs;rw[<-QZ (Ge t)]
    rw[BP];refine A6 λi _=>?_;show _=atL _ _;rw[hpe,<-List.length_reverse,As];rfl
   refine I8 (he.trans (zdf (x0:=AA (Ut t g)) (x1:=AQ (gs.map symI)) pW pG rfl hD [(9,.ptr 3 1 0 0)] ⟨rfl,(show 3<4 by omega),oy⟩)) ?_;refine Nk (zqi t _ _ _ _ hF.al (mqL (OG t gs) (Ge t).length 0) (zjf hF.ll)) λenv' H' he=>I8 he ?_;refine Nk (zqj t hF) λenv' H' he=>I8 (he.trans (zde Zr [(9,.ptr 3 1 0 0)] ⟨rfl,(show 3<4 by omega),oy⟩)) ?_;refine zqk t hF (λs hs=>?_) (RV:=RV) ?_ λenv l y c bs hR2 e6 e7 he=>?_
   ·obtain⟨s',hs',rfl⟩:=Al.1 hs
    have h1:=z2t s';have h2:=hgs s' hs';omega
   ·rw[<-hRV,boxV,Ad (by rw[hc0];decide),Ad (by rw[hall];decide)]
    generalize (He (Ut t g) (OG t gs) 0 0).1=o;cases o<;>rfl
   ·(with_reducible repeat'(first|simp(disch:=omega)only[push_cast,↓zz,seval,e6,e7]|refine sp_ ?_ ?_<;>try(intro hc;push_cast at hc)|omega|intro _))
    exact⟨_,_,he,by rw[hR2],rfl⟩
 rw[PC,P7];exact h
abbrev wyV(w:Way):AV:=.agg [.int .i64 w.state,AQ w.guards,C5 w.out]
abbrev wysV(l:List Way):AV:=.lst 3 (l.map wyV)
theorem HD(l:List Way):AJ (l.map wyV)=true:=CO (λw=>by simp[wyV,AV.pure,AJ,B0,Cy]) l
def wayR:Option (List Way)->AV
 |none=>.tup [.nilS,.bool false]
 |some l=>.tup [wysV l,.bool true]
def lkH(a b:Desc)(LR LF:AV)(R:List Rule)(v:Nat)(F:List DO)(u:Nat)(s:Int):List Grp :=
 [⟨21,1,true,[.agg [.int .i64 a.in_,.int .i64 a.out,.int .i64 a.states,.int .i64 a.start,CB a.rules,Cv a.finals,.int .i64 b.in_,.int .i64 b.out,.int .i64 b.states,.int .i64 b.start,CB b.rules,Cv b.finals,LR,LF,
  .int .i64 a.in_,.int .i64 b.out,.int .i64 (a.states * b.states),.int .i64 (a.start * b.states+b.start),.ref 1 v 0 R.length,.ref 2 u 0 F.length,.int .i64 s]]⟩,⟨5,v,false,R.map DD⟩,⟨3,u,false,F.map CY⟩]
theorem z6w{a b:Desc}{LR LF:AV}(h1:LR.pure=true)(h2:LF.pure=true){R:List Rule}{v:Nat}{F:List DO}{u:Nat}{s:Int}:∀X∈lkH a b LR LF R v F u s,ltL 3 X.xs:=λX hX=>by
 have p1:ltV 3 LR:=AL _ _ h1;have p2:ltV 3 LF:=AL _ _ h2;have r1:ltV 3 (CB a.rules):=AL _ _ (BJ _);have r2:ltV 3 (CB b.rules):=AL _ _ (BJ _);have f1:ltV 3 (Cv a.finals):=AL _ _ (BD _);have f2:ltV 3 (Cv b.finals):=AL _ _ (BD _);simp only[lkH,Af,An,A7] at hX;rcases hX with rfl|rfl|rfl
 ·exact⟨⟨oy,oy,oy,oy,r1,f1,oy,oy,oy,oy,r2,f2,p1,p2,oy,oy,oy,oy,(show 1<3 by omega),(show 2<3 by omega),oy,oy⟩,oy⟩
 ·exact BU _ _ (BJ R)
 ·exact BU _ _ (BD F)
theorem z2v{t:Term}:∀{l o:List Term},Ml t l=some o->o.length=l.length
 |[],o,h=>by obtain rfl:=A5 h;rfl
 |u::l,o,h=>by
  rw[Ml] at h;split at h
  ·cases h
  split at h
  ·cases h
  rename_i r hr;obtain rfl:=A5 h;simp[z2v hr]
theorem Xx{t:Term}:∀{l o:List Term}{u v:Term},Ml t l=some o->putT u t=some v->Ml t (l++[u])=some (o++[v])
 |[],o,u,v,h,h2=>by obtain rfl:=A5 h;simp[Ml,h2]
 |x::l,o,u,v,h,h2=>by
  rw[Ml] at h;split at h
  ·cases h
  rename_i y hy;split at h
  ·cases h
  rename_i r hr;obtain rfl:=A5 h;simp[Ml,hy,Xx hr h2]
theorem z2w{t:Term}:∀{l:List Term}{u:Term},u∈l->putT u t=none->Ml t l=none
 |x::l,u,h,h2=>by
  rw[Ml];rcases Af.1 h with rfl|h
  ·rw[h2]
  ·split
   ·rfl
   ·rw[z2w h h2]
mutual
theorem zjg{m k:Nat}(h:m<=k):∀x:AV,ltV m x->ltV k x
 |.any,_|.bool _,_|.int _ _,_|.str _,_|.nilS,_|.nul,_|.emp,_|.nilP,_|.nilF,_|.yld _,_|.lst _ _,_|.full _ _,_|.cptr _,_=>trivial
 |.map g _,hx=>AO hx h
 |.ref g _ _ _,hx=>AO hx h
 |.ptr g _ _ _,hx=>AO hx h
 |.agg cs,hx=>Lp h cs hx
 |.tup cs,hx=>Lp h cs hx
 |.fn f cs,hx=>Lp h cs hx
theorem Lp{m k:Nat}(h:m<=k):∀xs:List AV,ltL m xs->ltL k xs
 |[],_=>trivial
 |x::xs,hx=>⟨zjg h x hx.1,Lp h xs hx.2⟩
end
theorem z2x{env:Env}:∀{L:List (Nat × AV)},(∀q∈L,env q.1=q.2)->∀p∈L,BO L p.1=p.2
 |[],_,p,hp=>by cases hp
 |q::L,h,p,hp=>by
  simp only[BO];split
  ·rename_i e
   rw[<-h q oc,<-h p hp,e]
  ·rename_i e
   rcases Af.1 hp with rfl|hp
   ·exact absurd rfl e
   ·exact z2x (λq hq=>h q (by simp[hq])) p hp
theorem Io{n b:Nat}{env:Env}{F:List Grp}{w:Nat}{x:AV}(i:Nat)(L:List (Nat × AV))(hx:x.pure=true)(hw:0<w)(hb:b<=F.length)(hcl:∀X∈F,ltL F.length X.xs)(hi:env i=.ptr F.length 1 0 0)(hL:IF F.length env L)(hni:∀p∈L,p.1≠i):
 Ent n b env (Abs.hl (F++[(⟨w,1,true,[x]⟩:Grp)])) (BO ((i,.cptr x)::L)) (Abs.hl F):=by
 have hm:=Dq hL;refine (Ea ((i,.ptr F.length 1 0 0)::L) λp hp=>?_).trans ((UI (F:=F) i hx hw hb hcl ?_ λj _ hne=>?_).trans (Ea _ λp hp=>?_))
 ·rcases Af.1 hp with rfl|hp
  ·exact hi
  ·exact hm p hp
 ·simp[BO]
 ·simp only[BO]
  rw[Ad hne];exact J8 hL j
 ·rcases Af.1 hp with rfl|hp
  ·exact AM _ _ _
  ·show (if p.1=i then _ else _)=_
   rw[Ad (hni p hp)];simp only[BO];rw[Ad (hni p hp)];exact z2x hm p hp
theorem z6x{P:Program}{f w:Nat}{H:A4}{K:AV->A4->Prop}(h1:B9 P f [.nilS] H K)(h2:B9 P f [.emp] H K):B9 P f [.lst w []] H K:=by
 refine⟨h1.1,λS cargs hS hx=>?_⟩;obtain⟨v,r,rfl,⟨_,_,a,cap,vs,rfl,⟨_,hn⟩,_,_⟩,hr⟩:=hx;cases a with
 |none=>exact h1.2 S _ hS ⟨_,r,rfl,by rw[hn rfl];rfl,hr⟩
 |some a=>exact h2.2 S _ hS ⟨_,r,rfl,⟨a,cap,rfl⟩,hr⟩
theorem zdh(l:List Term)(hl:l.length<=1000000000000):B9 Tryz.prog 174 [C5 l] (Abs.hl []) λy H'=>(y=.nilS/\l=[]/\H'=Abs.hl [])\/(∃ex,y=.ref 0 2 0 l.length/\H'=Abs.hl [⟨6,2,ex,l.map C9⟩]):=by
 cases l with
 |cons u us=>exact B9.mono (WS (u::us) oc hl) λy H' hh=>.inr ⟨false,hh⟩
 |nil =>
  refine z6x ?_ ?_
  ·refine Gh (b:=0) Eh rfl ?_
   unfold Dc;exact gwA
  ·refine Gh (b:=0) Eh rfl ?_
   unfold Dc;refine ywA ?_;exact⟨true,rfl⟩
theorem z6y(w:Way)(t:Term)(r:Rule)(A0 A1 A2:Grp)(hcl:∀X∈[A0,A1,A2],ltL 3 X.xs)(hr:0<r.guards.length)(ht:t.parts.length<=1000000000000)
 (hwo:w.out.length<=1000000) (hro:r.out.length<=1000000) (hbl:(boxV t w.guards (nth r.guards 0)).2.length<=4096) (hb2:∀b∈(boxV t w.guards (nth r.guards 0)).2,b.length<=1000000)
 (hB:PC Tryz.prog 173 [C9 t,AQ w.guards,AA (nth r.guards 0)] (boxR (boxV t w.guards (nth r.guards 0)))) :
 B9 Tryz.prog 146 [.ptr 0 1 0 0,wyV w,C9 t,DD r] (Abs.hl [A0,A1,A2]) λy H'=>y=wayR (Ng w t r)/\H'=Abs.hl [A0,A1,A2]:=by
 have pg:=B0 r.guards;have po:=Cy r.out;have pwg:=B0 w.guards;have pwo:=Cy w.out;have ptp:AJ (t.parts.map Dp)=true:=Cx t.parts;have pw:(wyV w).pure=true:=by simp[wyV,AV.pure,AJ,pwg,pwo]
 have pt:(C9 t).pure=true:=by simp[C9,Cu,AV.pure,AJ,ptp]
 have pr:(DD r).pure=true:=by simp[DD,AV.pure,AJ,pg,po]
 have hcl':∀(k:Nat),3<=k->∀(R:List Grp),(∀X∈R,AJ X.xs=true)->∀X∈[A0,A1,A2]++R,ltL k X.xs:=λk hk R hR X hX=>by
  rcases Av.1 hX with hX|hX
  ·exact Lp hk _ (hcl X hX)
  ·exact BU _ _ (hR X hX)
 generalize hRV:Ng w t r=RV;rw[Ng] at hRV;generalize hbv:boxV t w.guards (nth r.guards 0)=q at *;obtain⟨e,bs⟩:=q;simp only at hRV hbl hb2;have pbs:AJ (bs.map AQ)=true:=Pp bs
 have fin0:∀(bb:Bool){Y:AV},leS [A0,A1,A2] (.tup [.nilS,.bool bb]) Y->∀(l gar:List Grp),l=[A0,A1,A2]++gar->Ent 1 3 (λ_=>.tup [.nilS,.bool bb]) (Abs.hl l) (λ_=>Y) (Abs.hl [A0,A1,A2]):=λbb Y hY l gar hl =>
  (IU hl (Ab _) hcl (AL _ _ rfl)).trans (GY (H9 _ _) λ_ _=>hY)
 refine EU (IK MF ?_);refine KN [(5,.cptr (wyV w)),(6,.cptr (C9 t)),(7,.cptr (DD r))] (Abs.hl [A0,A1,A2]) (W_T ?_) ?_
 ·refine ywA ?_
  refine (Io (F:=[A0,A1,A2,⟨3,1,true,[wyV w]⟩,⟨6,1,true,[C9 t]⟩]) 7 [(5,.ptr 3 1 0 0),(6,.ptr 4 1 0 0)] pr ox oc (hcl' 5 om [_,_] ?_) rfl ⟨rfl,(show 3<5 by omega),rfl,(show 4<5 by omega),oy⟩ oc).trans
   ((Io (F:=[A0,A1,A2,⟨3,1,true,[wyV w]⟩]) 6 [(7,.cptr (DD r)),(5,.ptr 3 1 0 0)] pt ox oc (hcl' 4 om [_] ?_) rfl ⟨rfl,oy,rfl,(show 3<4 by omega),oy⟩ oc).trans
   ((Io (F:=[A0,A1,A2]) 5 [(6,.cptr (C9 t)),(7,.cptr (DD r))] pw ox oc hcl rfl ⟨rfl,oy,rfl,oy,oy⟩ oc)))
  ·simp[AJ,pw,pt]
  ·simp[AJ,pw]
 refine DK (W_T ?_);have f_:=pbs;have e_:=hB;refine ywD ?_;clear f_ e_;refine DK (W_T ?_);(with_reducible repeat'(first|simp(disch:=omega)only[push_cast,↓zz,seval]|refine sp_ ?_ ?_<;>try(intro hc;push_cast at hc)|omega|intro _))
 ·rw[Ad om] at hRV
  subst hRV;exact⟨_,_,fin0 false (Y:=wayR none) (Bn _ _) _ [] rfl,rfl,rfl⟩
 rw[Ae om] at hRV;refine DK (W_T ?_);(with_reducible repeat'(first|simp(disch:=omega)only[push_cast,↓zz,seval,pbs]|refine sp_ ?_ ?_<;>try(intro hc;push_cast at hc)|omega|intro _))
 ·rw[Ae (List.length_eq_zero_iff.1 om)] at hRV
  subst hRV;exact⟨_,_,fin0 true (Y:=wayR (some [])) ⟨⟨ox,rfl⟩,rfl,rfl⟩ _ [] rfl,rfl,rfl⟩
 rw[Ad (λh=>by have:bs.length=0:=(by rw[h];rfl);omega)] at hRV
 have hCl:=zdh w.out om;generalize hwo':w.out=wo at *;refine Nk (F:=λenv' H'=>∃V,Ent 80 3 env' H' (BO [(6,.cptr (C9 t)),(7,.cptr (DD r)),(10,.lst 1 (bs.map AQ)),(12,.ref 3 V 0 wo.length)]) (Abs.hl [A0,A1,A2,⟨6,V,false,wo.map C9⟩])) (W_T ?_) ?_
 ·(with_reducible repeat'(first|simp(disch:=omega)only[push_cast,↓zz,seval,hwo']|refine sp_ ?_ ?_<;>try(intro hc;push_cast at hc)|omega|intro _))
  (refine at_c [] (hCl) ox oc (by refine⟨?_,?_,?_,?_⟩<;>(simp(disch:=omega)only[push_cast,↓zz,seval,Af,An,A7,B6,Cr,BG,pwo])) ?_)
  rintro y H' (⟨rfl,rfl,rfl⟩|⟨ex,rfl,rfl⟩)
  ·refine⟨_,rfl,oc,?_⟩
   (with_reducible repeat'(first|simp(disch:=omega)only[push_cast,↓zz,seval]|refine sp_ ?_ ?_<;>try(intro hc;push_cast at hc)|omega|intro _));refine⟨1,(Ea [(6,.cptr (C9 t)),(7,.cptr (DD r)),(10,.lst 1 (bs.map AQ)),(12,.nilS)] (Dq (m:=3) ⟨rfl,oy,rfl,oy,rfl,oy,rfl,oy,oy⟩)).trans ((Hk [6] oc).trans (GY ⟨⟨rfl,rfl,id,AN _ _⟩,⟨rfl,rfl,id,AN _ _⟩,⟨rfl,rfl,id,AN _ _⟩,⟨rfl,rfl,λh=>(by cases h),AN _ _⟩,oy⟩ λi _=>?_))⟩;simp only[BO]
   repeat' split
   all_goals first|exact Bn _ _|exact⟨rfl,rfl,rfl,(show (0:Nat)<6 by omega),rfl,rfl,oc⟩
  ·refine⟨_,rfl,oc,?_⟩
   (with_reducible repeat'(first|simp(disch:=omega)only[push_cast,↓zz,seval]|refine sp_ ?_ ?_<;>try(intro hc;push_cast at hc)|omega|intro _));refine⟨2,(B3 (l0:=[A0,A1,A2,⟨6,2,ex,wo.map C9⟩]) (gar:=[]) [(6,.cptr (C9 t)),(7,.cptr (DD r)),(10,.lst 1 (bs.map AQ)),(12,.ref 3 2 0 wo.length)] rfl oc (hcl' 4 om [_] (by simp[pwo])) ⟨rfl,oy,rfl,oy,rfl,oy,rfl,(show 3<4 by omega),oy⟩).trans (GY ⟨⟨rfl,rfl,id,AN _ _⟩,⟨rfl,rfl,id,AN _ _⟩,⟨rfl,rfl,id,AN _ _⟩,⟨rfl,rfl,λh=>(by cases h),AN _ _⟩,oy⟩ λi _=>Bn _ _)⟩
 rintro env' H' ⟨V,he⟩;refine I8 he ?_;clear he hCl;refine DK (W_T ?_);(with_reducible repeat'(first|simp(disch:=omega)only[push_cast,↓zz,seval]|refine sp_ ?_ ?_<;>try(intro hc;push_cast at hc)|omega|intro _));refine W_T ?_;have pto:∀o:List Term,AJ ((wo++o).map C9)=true:=λo=>Cy (wo++o)
 refine Ba (D6 (σ:=Nat × Nat × List Term) (λq=>q.1<=r.out.length/\Ml t (r.out.take q.1)=some q.2.2) (λq=>r.out.length-q.1)
  (λq=>BO [(6,.cptr (C9 t)),(7,.cptr (DD r)),(10,.lst 1 (bs.map AQ)),(12,.ref 3 q.2.1 0 (wo++q.2.2).length),(40,C5 r.out),(41,.int .i64 r.out.length),(42,.int .i64 q.1)])
  (λq=>Abs.hl [A0,A1,A2,⟨6,q.2.1,false,(wo++q.2.2).map C9⟩]) (0,V,[]) ⟨Ap _,rfl⟩ ?_ ?_)
 ·refine B3 (gar:=[]) _ oc oc (hcl' 4 om [_] (by simpa using pto [])) ⟨rfl,oy,rfl,oy,rfl,oy,by simp;rfl,(show 3<4 by omega),rfl,oy,rfl,oy,rfl,oy,oy⟩
 rintro⟨i,V,o⟩ ⟨hi,ho⟩;simp only at hi ho ⊢;have hol:=z2v ho;rw[Bb,Dj hi] at hol;have hto:=pto o;have hwl:(wo++o).length<=2000000:=by rw[Ai];omega
 rcases Aj i r.out.length with hil|hil
 ·have hPut:=zgf (nth r.out i) t ht
  have htk:r.out.take (i+1)=r.out.take i++[nth r.out i]:=take_at hil;generalize hpq:putT (nth r.out i) t=pq at *;refine W_T ?_;(with_reducible repeat'(first|simp(disch:=omega)only[push_cast,↓zz,seval]|refine sp_ ?_ ?_<;>try(intro hc;push_cast at hc)|refine ee hPut ?_|(refine cc hPut ?_;simp(disch:=omega)only[push_cast,↓zz,seval];fail_if_success change False)|omega|intro _))
  ·have e1:pq=none:=by cases pq with|none=>rfl|some v=>cases hc
   rw[z2w (Bi hil) (hpq.trans e1)] at hRV;subst hRV;exact⟨_,_,fin0 false (Y:=wayR none) (Bn _ _) _ [_,_,_] rfl,rfl,rfl⟩
  ·cases pq with
   |none=>cases hc
   |some v =>
    refine⟨(i+1,V+1,o++[v]),B3 (gar:=[⟨6,1,true,[C9 (nth r.out i)]⟩,⟨6,1,true,[C9 v]⟩,⟨6,1,true,[C9 v]⟩]) _ oc oc (hcl' 4 om [_] (by simpa using pto (o++[v]))) ⟨rfl,oy,rfl,oy,rfl,oy,by simp;rfl,(show 3<4 by omega),rfl,oy,rfl,oy,rfl,oy,oy⟩,⟨by simp only;omega,?_⟩,by simp only;omega⟩;simp only;rw[htk];exact Xx ho hpq
 ·obtain rfl:i=r.out.length:=om
  rw[As] at ho;rw[ho] at hRV;simp only at hRV;refine W_T ?_;refine ywA ?_;refine DK (W_T ?_);(with_reducible repeat'(first|simp(disch:=omega)only[push_cast,↓zz,seval]|refine sp_ ?_ ?_<;>try(intro hc;push_cast at hc)|omega|intro _))
  ·rw[Ae (by rw[Ai] at *;omega)] at hRV
   subst hRV;exact⟨_,_,fin0 false (Y:=wayR none) (Bn _ _) _ [_] rfl,rfl,rfl⟩
  rw[Ad (by rw[Ai] at *;omega)] at hRV;generalize hW:wo++o=W at *;have pW:AJ (W.map C9)=true:=Cy W;refine KN [(7,.cptr (DD r)),(10,.lst 1 (bs.map AQ)),(12,C5 W),(17,.nilS)] (Abs.hl [A0,A1,A2]) (W_T ?_) ?_
  ·refine ywA ?_
   refine (Pj 12 3 6 V (wo.length+o.length) ox oc rfl (by rw[<-Aw,hW];exact pW) oc rfl rfl).trans (B3 (l0:=[A0,A1,A2]) (gar:=[_]) _ rfl oc hcl ⟨rfl,oy,rfl,oy,?_,oy,rfl,oy,oy⟩);show AV.lst 6 (wo.map C9++o.map C9)=_;rw[<-Aw,hW]
  refine DK (W_T ?_);have f_:=pbs;refine ywB ?_;clear f_;refine W_T ?_;have pws:∀l:List (List (List Span)),AJ ((l.map λb=>(⟨r.to_,b,W⟩:Way)).map wyV)=true:=λl=>HD _
  refine Ba (D6 (σ:=Nat × Nat) (λq=>q.1<=bs.length/\(bs.take q.1).any z6b=false) (λq=>bs.length-q.1)
   (λq=>BO [(7,.cptr (DD r)),(12,C5 W),(62,.lst 1 (bs.map AQ)),(63,.int .i64 bs.length),(64,.int .i64 q.1),(17,.ref 3 q.2 0 q.1)])
   (λq=>Abs.hl [A0,A1,A2,⟨3,q.2,false,((bs.take q.1).map λb=>(⟨r.to_,b,W⟩:Way)).map wyV⟩]) (0,1) ⟨Ap _,rfl⟩ ?_ ?_)
  ·refine (Ea [(7,.cptr (DD r)),(12,C5 W),(62,.lst 1 (bs.map AQ)),(63,.int .i64 bs.length),(64,.int .i64 0),(17,.nilS)] (Dq (m:=3) ⟨rfl,oy,rfl,oy,rfl,oy,rfl,oy,rfl,oy,rfl,oy,oy⟩)).trans ((Hk [3] oc).trans (GY ⟨⟨rfl,rfl,id,AN _ _⟩,⟨rfl,rfl,id,AN _ _⟩,⟨rfl,rfl,id,AN _ _⟩,⟨rfl,rfl,λh=>(by cases h),AN _ _⟩,oy⟩ λi _=>?_))
   simp only[BO]
   repeat' split
   all_goals first|exact Bn _ _|exact⟨rfl,rfl,rfl,(show (0:Nat)<3 by omega),rfl,rfl,oc⟩
  rintro⟨j,v⟩ ⟨hj,hwd⟩;simp only at hj hwd ⊢;have pwj:=pws (bs.take j);have hjl:(bs.take j).length=j:=by rw[Bb];omega
  rcases Aj j bs.length with hjb|hjb
  ·have hCF:PC Tryz.prog 176 [AQ (nth bs j),.fn 177 []] (.bool (z6b (nth bs j))):=OM (nth bs j) (by have:=hb2 _ (Bi hjb);omega)
   have htk:bs.take (j+1)=bs.take j++[nth bs j]:=take_at hjb;refine W_T ?_;(with_reducible repeat'(first|simp(disch:=omega)only[push_cast,↓zz,seval,pbs,hjl]|refine sp_ ?_ ?_<;>try(intro hc;push_cast at hc)|refine ee hCF ?_|(refine cc hCF ?_;simp(disch:=omega)only[push_cast,↓zz,seval,pbs,hjl];fail_if_success change False)|omega|intro _))
   ·rw[Ae (Ct.2 ⟨nth bs j,Bi hjb,hc⟩)] at hRV
    subst hRV;exact⟨_,_,fin0 false (Y:=wayR none) (Bn _ _) _ [_] rfl,rfl,rfl⟩
   ·refine⟨(j+1,v+1),B3 (gar:=[⟨3,1,true,[wyV ⟨r.to_,nth bs j,W⟩]⟩]) _ (by simp[htk]) oc (hcl' 4 om [_] (by simpa using pws (bs.take (j+1)))) ⟨rfl,oy,rfl,oy,rfl,oy,rfl,oy,rfl,oy,rfl,(show 3<4 by omega),oy⟩,⟨by simp only;omega,?_⟩,by simp only;omega⟩
    simp only;rw[htk,List.any_append,hwd];simp[hc]
  ·obtain rfl:j=bs.length:=om
   rw[As] at hwd;rw[Ad (by rw[hwd];decide)] at hRV;rw[As];refine W_T ?_;refine ywA ?_;refine DK (W_T ?_);refine ywA ?_;refine W_T ?_;refine ywA ?_;subst hRV;have hlz:(bs.map λb=>(⟨r.to_,b,W⟩:Way)).length=bs.length:=Au ..;rw[<-hlz];clear hlz;generalize (bs.map λb=>(⟨r.to_,b,W⟩:Way))=ws at *;have pz:=HD ws;refine⟨_,_,IW (l0:=[A0,A1,A2]) 4 [3] (z:=wayR (some ws)) ?_ rfl hcl ?_ (by simp[wayR,AV.pure,AJ,pz]),rfl,rfl⟩
   ·(simp(disch:=omega)only[push_cast,↓zz,seval,pz])
   ·(simp(disch:=omega)only[push_cast,↓zz,seval,pz])
    rfl
def tabR(b:Desc)(n:Nat):List (List Rule):=(List.range n).map λ(q:Nat)=>zck b q
def tabF(b:Desc)(n:Nat):List (List DO):=(List.range n).map λ(q:Nat)=>zcl b q
abbrev Kk(b:Desc)(n:Nat):AV:=.lst 1 ((tabR b n).map CB)
abbrev Xy(b:Desc)(n:Nat):AV:=.lst 1 ((tabF b n).map Cv)
theorem HO(b:Desc)(n:Nat):AJ ((tabR b n).map CB)=true:=CO (λl=>by simp[CB,AV.pure,BJ]) _
theorem IG(b:Desc)(n:Nat):AJ ((tabF b n).map Cv)=true:=CO (λl=>by simp[Cv,AV.pure,BD]) _
theorem zql{b:Desc}{n:Nat}{q:Int}(h:0<=q/\q<n):nth (tabR b n) q.toNat=zck b q:=by
 have h1:q.toNat<n:=om
 have h2:((q.toNat:Nat):Int)=q:=om
 simp[nth,tabR,h1,h2]
theorem zqm{b:Desc}{n:Nat}{q:Int}(h:0<=q/\q<n):nth (tabF b n) q.toNat=zcl b q:=by
 have h1:q.toNat<n:=om
 have h2:((q.toNat:Nat):Int)=q:=om
 simp[nth,tabF,h1,h2]
theorem zjh(b:Desc)(n:Nat):(tabR b n).length=n:=by simp[tabR]
theorem zji(b:Desc)(n:Nat):(tabF b n).length=n:=by simp[tabF]
structure Xz(b:Desc)(n:Nat):Prop where
 st:b.states=n
 n0:n<=1024
 rl:b.rules.length<=1000000
 to_:∀r∈b.rules,0<=r.to_/\r.to_<n
 g:∀r∈b.rules,0<r.guards.length/\(nth r.guards 0).length<=1000000000
 o:∀r∈b.rules,r.out.length<=1000000
structure WyOk(n:Nat)(w:Way):Prop where
 st:0<=w.state/\w.state<n
 o:w.out.length<=64
 g:w.guards.length<=1000000
 s:∀s∈w.guards,s.length<=90000
structure z2y(t:Term):Prop where
 b:∀x∈[t.base,t.sum],-9223372036854775808<x/\x<=9223372036854775807
 p:t.parts.length<=1000000000000
theorem z2z(t:Term)(gs:List (List Span))(g:List Span):(boxV t gs g).2.length<=4096:=by
 unfold boxV;split
 ·simp
 split
 ·simp
 split
 ·simp
 split
 ·simp
 ·simp only[Au];omega
theorem Rj{t:Term}{gs:List (List Span)}{g:List Span}:∀b∈(boxV t gs g).2,b.length=gs.length:=λb hb=>by
 unfold boxV at hb;split at hb
 ·cases hb
 split at hb
 ·cases hb
 split at hb
 ·cases hb
 split at hb
 ·cases hb
 ·obtain⟨row,_,rfl⟩:=Al.1 hb
  rw[Ln,Au]
theorem zjj{b:Desc}{n:Nat}(hb:Xz b n){w:Way}(hw:WyOk n w){t:Term}(ht:z2y t){r:Rule}(hr:r∈b.rules)(A0 A1 A2:Grp)(hcl:∀X∈[A0,A1,A2],ltL 3 X.xs):
 B9 Tryz.prog 146 [.ptr 0 1 0 0,wyV w,C9 t,DD r] (Abs.hl [A0,A1,A2]) λy H'=>y=wayR (Ng w t r)/\H'=Abs.hl [A0,A1,A2] :=
 z6y w t r A0 A1 A2 hcl (hb.g r hr).1 ht.p (by have:=hw.o;omega) (hb.o r hr) (z2z _ _ _) (λb hb=>by rw[Rj b hb];exact hw.g) (zdg t w.guards (nth r.guards 0) ht.b ht.p hw.g hw.s (hb.g r hr).2)
theorem zqn{b:Desc}{n:Nat}(hb:Xz b n){w:Way}(hw:WyOk n w){t:Term}{r:Rule}(hr:r∈b.rules){more:List Way}(h:Ng w t r=some more):∀y∈more,WyOk n y:=λy hy=>by
 obtain⟨bs,o,bx,h1,h2,h3,h4,h5,rfl⟩:=Xa h y hy;refine⟨hb.to_ r hr,h3,?_,λs hs=>?_⟩
 ·have:=Rj (t:=t) (gs:=w.guards) (g:=nth r.guards 0) bx (by rw[h1];exact h4)
  have:=hw.g;simp only;omega
 ·simp only[z6b,List.any_eq_false,Ah] at h5
  have:=h5 s hs;omega
structure WayB(n:Nat)(w:Way):Prop where
 st:0<=w.state/\w.state<n
 g:w.guards.length<=4
 s:∀s∈w.guards,s.length<=64
 o:w.out.length<=64
 p:∀t∈w.out,t.parts.length<=1000000000
theorem zdi{u t v:Term}(h:putT u t=some v):v.parts.length<=t.parts.length:=by
 unfold putT at h;split at h
 ·obtain rfl:=A5 h;omega
 split at h
 ·cases h
 split at h
 ·cases h
 split at h
 ·cases h
 split at h
 ·split at h
  ·cases h
  split at h
  ·cases h
  obtain rfl:=A5 h;exact Ab _
 split at h
 ·cases h
 split at h
 ·cases h
 split at h
 ·cases h
 obtain rfl:=A5 h;exact Ab _
theorem Tj{t:Term}{n:Nat}(ht:t.parts.length<=n):∀{l o:List Term},Ml t l=some o->∀v∈o,v.parts.length<=n
 |[],o,h,v,hv=>by obtain rfl:=A5 h;cases hv
 |u::l,o,h,v,hv=>by
  rw[Ml] at h;split at h
  ·cases h
  rename_i y hy;split at h
  ·cases h
  rename_i r hr;obtain rfl:=A5 h;rcases Af.1 hv with rfl|hv
  ·have:=zdi hy;omega
  ·exact Tj ht hr v hv
theorem Zs{b:Desc}{n:Nat}(hb:Xz b n){ts:List Term}(ht:∀t∈ts,t.parts.length<=1000000000){w0:Way}(hw:WayB n w0){k:Nat}{zs:List Way}{k':Nat}(e:Jf b ts [w0] k=(some zs,k')):∀y∈zs,WayB n y :=
 WZ (b:=b) (P:=WayB n) ts (λw t htm hw r hr more hm y hy=>by
  obtain⟨bs,o,bx,h1,h2,h3,h4,h5,rfl⟩:=Xa hm y hy;refine⟨hb.to_ r hr,?_,λs hs=>?_,h3,λv hv=>?_⟩
  ·have:=Rj (t:=t) (gs:=w.guards) (g:=nth r.guards 0) bx (by rw[h1];exact h4)
   have:=hw.g;simp only;omega
  ·simp only[z6b,List.any_eq_false,Ah] at h5
   have:=h5 s hs;omega
  ·rcases Av.1 hv with hv|hv
   ·exact hw.p v hv
   ·exact Tj (ht t htm) h2 v hv) [w0] (λw h=>by rw[Am] at h;rw[h];exact hw) k zs k' e
theorem take_len{w:Way}{t:Term}{r:Rule}{more:List Way}(h:Ng w t r=some more):more.length<=4096:=by
 have hl:=z2z t w.guards (nth r.guards 0);rw[Ng] at h;split at h
 ·split at h
  ·obtain rfl:=A5 h;simp
  split at h
  ·cases h
  split at h
  ·cases h
  split at h
  ·cases h
  obtain rfl:=A5 h;rw[Au];exact hl
 ·cases h
abbrev lkL(a b:Desc)(n:Nat)(R:List Rule)(v:Nat)(F:List DO)(u:Nat)(s:Int):List Grp:=lkH a b (Kk b n) (Xy b n) R v F u s
theorem Ix{a b:Desc}{n:Nat}{R:List Rule}{v:Nat}{F:List DO}{u:Nat}{s:Int}{k:Nat}(hk:3<=k){M:List Grp}(hM:∀X∈M,AJ X.xs=true):∀X∈lkL a b n R v F u s++M,ltL k X.xs:=λX hX=>by
 rcases Av.1 hX with hX|hX
 ·exact Lp hk _ (z6w (LR:=Kk b n) (LF:=Xy b n) (HO b n) (IG b n) X hX)
 ·exact BU _ _ (hM X hX)
theorem FQ{a b:Desc}{n:Nat}{R:List Rule}{v:Nat}{F:List DO}{u:Nat}{s:Int}(M:List Grp):Abs.hl (lkL a b n R v F u s++M)=Abs.hl (⟨21,1,true,[.agg [.int .i64 a.in_,.int .i64 a.out,.int .i64 a.states,.int .i64 a.start,CB a.rules,Cv a.finals,.int .i64 b.in_,.int .i64 b.out,.int .i64 b.states,.int .i64 b.start,CB b.rules,Cv b.finals,Kk b n,Xy b n,
 .int .i64 a.in_,.int .i64 b.out,.int .i64 (a.states * b.states),.int .i64 (a.start * b.states+b.start),.ref 1 v 0 R.length,.ref 2 u 0 F.length,.int .i64 s]]⟩::⟨5,v,false,R.map DD⟩::⟨3,u,false,F.map CY⟩::M):=rfl
def zl6(l:List Grp):List (Nat × AV)->List (Nat × AV)->Prop
 |[],[]=>True
 |p::L,q::L'=>p.1=q.1/\leS l p.2 q.2/\zl6 l L L'
 |_,_=>False
theorem z37{l:List Grp}:∀{L L':List (Nat × AV)},zl6 l L L'->∀i,leS l (BO L i) (BO L' i)
 |[],[],_,_=>Bn _ _
 |p::L,q::L',h,i=>by
  obtain⟨h1,h2,h3⟩:=h;simp only[BO];rw[h1];split
  ·exact h2
  ·exact z37 h3 i
 |[],_::_,h,_=>h.elim
 |_::_,[],h,_=>h.elim
theorem UM{y:AV}{V:Option (List Way)}{a b:Desc}{n:Nat}{R:List Rule}{v:Nat}{F:List DO}{u:Nat}{s:Int}(M:List Grp)(hy:y=.tup [.nilS,.bool false])(hV:V=none):Ent 1 3 (λ_=>y) (Abs.hl (lkL a b n R v F u s++M)) (λ_=>wayR V) (Abs.hl (lkL a b n R v F u s)):=by
 subst hy hV;exact (IU (l0:=lkL a b n R v F u s) (gar:=M) rfl (Ab 3) (λX hX=>Ix (M:=[]) (Ab 3) (λ_ h=>by cases h) X (by simpa using hX)) (AL _ _ rfl)).trans (GY (H9 _ _) λ_ _=>Bn _ _)
set_option maxHeartbeats 8000000 in
theorem Rk{a b:Desc}{n:Nat}(hb:Xz b n)(R:List Rule)(v:Nat)(F:List DO)(u:Nat)(ts:List Term)(htl:ts.length<=1000000)(hts:∀t∈ts,z2y t)(w0:Way)(hw0:WyOk n w0)(k0:Nat)(hk0:k0<=65536):
 B9 Tryz.prog 119 [.ptr 0 1 0 0,wyV w0,C5 ts] (Abs.hl (lkL a b n R v F u k0)) λy H'=>y=wayR (Jf b ts [w0] k0).1/\H'=Abs.hl (lkL a b n R v F u (Jf b ts [w0] k0).2):=by
 have pw:(wyV w0).pure=true:=by simp[wyV,AV.pure,AJ,B0,Cy]
 have pR:=BJ R;have pF:=BD F;have pra:=BJ a.rules;have pfa:=BD a.finals;have prb:=BJ b.rules;have pfb:=BD b.finals;have ptR:=HO b n;have ptF:=IG b n;have hcl0:∀(k:Int),∀X∈lkL a b n R v F u k,ltL 3 X.xs:=λk X hX=>Ix (M:=[]) (Ab 3) (λ_ h=>by cases h) X (by simpa using hX);have hcl1:∀(k:Int)(v':Nat)(nx:List Way),∀X∈lkL a b n R v F u k++[⟨3,v',false,nx.map wyV⟩],ltL 4 X.xs:=λk v' nx X hX=>Ix om (λY hY=>by rw[Am] at hY;subst hY;exact HD nx) X hX;generalize hRV:Jf b ts [w0] k0=RV;refine EU (IK LW ?_);refine KN [(0,.ptr 0 1 0 0),(2,C5 ts),(4,.cptr (wyV w0))] (Abs.hl (lkL a b n R v F u k0)) (DR (FQ []) (W_T ?_)) ?_
 ·refine ywA ?_
  exact Ent.trans (Io (F:=lkL a b n R v F u k0) (w:=3) (x:=wyV w0) 4 [(0,.ptr 0 1 0 0),(2,C5 ts)] pw ox (Ab _) (hcl0 _) rfl ⟨rfl,(show 0<3 by omega),rfl,oy,oy⟩ oc)
   (Ea [(0,.ptr 0 1 0 0),(2,C5 ts),(4,.cptr (wyV w0))] (Dq (m:=3) ⟨rfl,(show 0<3 by omega),rfl,oy,rfl,oy,oy⟩))
 refine KN [(0,.ptr 0 1 0 0),(2,C5 ts),(8,wysV [w0])] (Abs.hl (lkL a b n R v F u k0)) (DR (FQ []) (W_T ?_)) ?_
 ·have f_:=pw;refine ywB ?_;clear f_
  exact (Pj 8 3 3 1 1 ox oc rfl (by simpa [AJ] using pw) rfl rfl rfl).trans (B3 (l0:=lkL a b n R v F u k0) (gar:=[_]) _ rfl (Ab _) (hcl0 _) ⟨rfl,(show 0<3 by omega),rfl,oy,rfl,oy,oy⟩)
 refine DK (DR (FQ []) (W_T ?_));refine ywA ?_;refine W_T ?_
 refine Ba (D6 (σ:=Nat × List Way × Nat) (λq=>q.1<=ts.length/\(∀w∈q.2.1,WyOk n w)/\q.2.2<=65536/\q.2.1.length<=4096/\Jf b (ts.drop q.1) q.2.1 q.2.2=RV) (λq=>ts.length-q.1)
  (λq=>BO [(0,.ptr 0 1 0 0),(8,wysV q.2.1),(20,C5 ts),(21,.int .i64 ts.length),(22,.int .i64 q.1)]) (λq=>Abs.hl (lkL a b n R v F u q.2.2)) (0,[w0],k0) ⟨Ap _,λw hw=>by rw[Am] at hw;rw[hw];exact hw0,hk0,oc,hRV⟩ ?_ ?_)
 ·exact B3 (l0:=lkL a b n R v F u k0) (gar:=[]) _ rfl (Ab _) (hcl0 _) ⟨rfl,(show 0<3 by omega),rfl,oy,rfl,oy,rfl,oy,rfl,oy,oy⟩
 rintro⟨i,ws,k⟩ ⟨hi,hws,hk,hwl,hE⟩;simp only at hi hws hk hwl hE ⊢;have pws:=HD ws;rcases Aj i ts.length with hil|hil
 ·obtain⟨t,htd⟩:∃t,t=nth ts i:=⟨_,rfl⟩
  have ht:z2y t:=by rw[htd];exact hts _ (Bi hil)
  have pt:(C9 t).pure=true:=by simp[C9,Cu,AV.pure,AJ,Cx]
  have ptp:=Cx t.parts;rw[drop_at hil,<-htd,Jf] at hE;refine DR (FQ []) (W_T ?_);(with_reducible repeat'(first|simp(disch:=omega)only[push_cast,↓zz,seval,pws,<-htd]|refine sp_ ?_ ?_<;>try(intro hc;push_cast at hc)|omega|intro _))
  refine Ba (D6 (σ:=Nat × List Way × Nat × Nat) (λq=>q.1<=ws.length/\(∀w∈q.2.1,WyOk n w)/\q.2.2.1<=65536/\q.2.1.length<=4096 /\
   (match OI b t (ws.drop q.1) q.2.1 q.2.2.1 with|(none,k')=>(none,k')|(some nx',k')=>Jf b (ts.drop (i+1)) nx' k')=RV) (λq=>ws.length-q.1)
   (λq=>BO [(10,.cptr (C9 t)),(0,.ptr 0 1 0 0),(11,.ref 3 q.2.2.2 0 q.2.1.length),(20,C5 ts),(21,.int .i64 ts.length),(22,.int .i64 i),(26,wysV ws),(27,.int .i64 ws.length),(28,.int .i64 q.1)])
   (λq=>Abs.hl (lkL a b n R v F u q.2.2.1++[⟨3,q.2.2.2,false,q.2.1.map wyV⟩])) (0,[],k,1) ⟨Ap _,λw hw=>(by cases hw),hk,oc,hE⟩ ?_ ?_)
  ·refine Ent.trans (Io (F:=lkL a b n R v F u k) (w:=6) (x:=C9 t) 10 [(0,.ptr 0 1 0 0),(11,.nilS),(20,C5 ts),(21,.int .i64 ts.length),(22,.int .i64 i),(26,wysV ws),(27,.int .i64 ws.length),(28,.int .i64 0)] pt ox (Ab _) (hcl0 _) rfl ⟨rfl,(show 0<3 by omega),rfl,oy,rfl,oy,rfl,oy,rfl,oy,rfl,oy,rfl,oy,rfl,oy,oy⟩ oc)
    ((Hk [3] oc).trans (GY (NQ _ (X:=Jo 3) (Y:=⟨3,1,false,[]⟩) ⟨rfl,rfl,λh=>(by cases h),AN _ _⟩ (lkL a b n R v F u k)) λi _=>z37 ?_ i))
   exact⟨rfl,Bn _ _,rfl,Bn _ _,rfl,⟨rfl,rfl,rfl,(show (0:Nat)<3 by omega),rfl,rfl,(show 3<4 by omega)⟩,rfl,Bn _ _,rfl,Bn _ _,rfl,Bn _ _,rfl,Bn _ _,rfl,Bn _ _,rfl,Bn _ _,oy⟩
  rintro⟨j,nx,k,v'⟩ ⟨hj,hnx,hk,hnl,hE⟩;simp only at hj hnx hk hnl hE ⊢;rcases Aj j ws.length with hjl|hjl
  ·obtain⟨w,hwd⟩:∃w,w=nth ws j:=⟨_,rfl⟩
   have hw:WyOk n w:=by rw[hwd];exact hws _ (Bi hjl)
   have pwv:(wyV w).pure=true:=by simp[wyV,AV.pure,AJ,B0,Cy]
   have pwg:=B0 w.guards;have pwo:=Cy w.out;rw[drop_at hjl,<-hwd,OI] at hE;have hst:=hw.st;have htb:=zql (b:=b) hst;have htl2:=zjh b n;obtain⟨rs,hrs⟩:∃rs,rs=zck b w.state:=⟨_,rfl⟩;rw[<-hrs] at hE htb;refine DR (FQ _) (W_T ?_);(with_reducible repeat'(first|simp(disch:=omega)only[push_cast,↓zz,seval,pws,<-hwd,ptR,htb,htl2,ptF]|refine sp_ ?_ ?_<;>try(intro hc;push_cast at hc)|omega|intro _));have hrl:rs.length<=1000000:=by rw[hrs];exact Bl (Bg _ _) hb.rl
   refine Ba (D6 (σ:=Nat × List Way × Nat × Nat) (λq=>q.1<=rs.length/\(∀w∈q.2.1,WyOk n w)/\q.2.2.1<=65536/\q.2.1.length<=4096 /\
    (match (match QT w t (rs.drop q.1) q.2.1 q.2.2.1 with|(none,k')=>(none,k')|(some nx',k')=>OI b t (ws.drop (j+1)) nx' k') with|(none,k')=>(none,k')|(some nx',k')=>Jf b (ts.drop (i+1)) nx' k')=RV) (λq=>rs.length-q.1)
    (λq=>BO [(13,.cptr (wyV w)),(10,.cptr (C9 t)),(0,.ptr 0 1 0 0),(11,.ref 3 q.2.2.2 0 q.2.1.length),(20,C5 ts),(21,.int .i64 ts.length),(22,.int .i64 i),(26,wysV ws),(27,.int .i64 ws.length),(28,.int .i64 j),(39,CB rs),(40,.int .i64 rs.length),(41,.int .i64 q.1)])
    (λq=>Abs.hl (lkL a b n R v F u q.2.2.1++[⟨3,q.2.2.2,false,q.2.1.map wyV⟩])) (0,nx,k,v') ⟨Ap _,hnx,hk,hnl,hE⟩ ?_ ?_)
   ·refine Ent.trans (Io (F:=lkL a b n R v F u k++[(⟨3,v',false,nx.map wyV⟩:Grp)]) (w:=3) (x:=wyV w) 13 [(10,.cptr (C9 t)),(0,.ptr 0 1 0 0),(11,.ref 3 v' 0 nx.length),(20,C5 ts),(21,.int .i64 ts.length),(22,.int .i64 i),(26,wysV ws),(27,.int .i64 ws.length),(28,.int .i64 j),(39,CB rs),(40,.int .i64 rs.length),(41,.int .i64 0)] pwv ox (show 3<=4 by omega) (hcl1 _ _ _) rfl ⟨rfl,oy,rfl,(show 0<4 by omega),rfl,(show 3<4 by omega),rfl,oy,rfl,oy,rfl,oy,rfl,oy,rfl,oy,rfl,oy,rfl,oy,rfl,oy,rfl,oy,oy⟩ oc) Ent.refl
   clear hE hnl hk hnx;rintro⟨m,nx,k,v'⟩ ⟨hm,hnx,hk,hnl,hE⟩;simp only at hm hnx hk hnl hE ⊢;rcases Aj m rs.length with hml|hml
   ·obtain⟨r,hrd⟩:∃r,r=nth rs m:=⟨_,rfl⟩
    have hr:r∈b.rules:=by
     have h1:r∈rs:=by rw[hrd];exact Bi hml
     rw[hrs] at h1;exact (AW.1 h1).1
    have prv:(DD r).pure=true:=by simp[DD,AV.pure,AJ,B0,Cy]
    have prg:=B0 r.guards;have pro:=Cy r.out;rw[drop_at hml,<-hrd,QT] at hE;have pnx:=HD nx;have hOne:=zjj hb hw ht hr;have hto:=λmore=>zqn (t:=t) (more:=more) hb hw hr;have htl3:=λmore=>take_len (w:=w) (t:=t) (r:=r) (more:=more);generalize Ng w t r=tk at *;have hwn:wayR none=.tup [.nilS,.bool false]:=rfl;have hwsm:∀more,wayR (some more)=.tup [wysV more,.bool true]:=λ_=>rfl;refine DR (FQ _) (W_T ?_);(with_reducible repeat'(first|simp(disch:=omega)only[push_cast,↓zz,seval,<-hrd,pnx]|refine sp_ ?_ ?_<;>try(intro hc;push_cast at hc)|omega|intro _))
    ·rw[Ae om] at hE
     simp only at hE;subst hE;exact⟨_,_,UM (s:=((k+1:Nat):Int)) [_,_] rfl rfl,rfl,rfl⟩
    rw[Ad om] at hE;have hO:B9 Tryz.prog 146 [.ptr 0 1 0 0,wyV w,C9 t,DD r] (Abs.hl (lkL a b n R v F u ((k:Int)+1))) λy H'=>y=wayR tk/\H'=Abs.hl (lkL a b n R v F u ((k:Int)+1)):=hOne _ _ _ (hcl0 _);unfold lkL lkH at hO;have ptk:(wayR tk).pure=true:=by cases tk<;>simp[wayR,AV.pure,AJ,HD]
    (refine at_c [0,1,2] (hO) ox oc (by refine⟨?_,?_,?_,?_⟩<;>(simp(disch:=omega)only[push_cast,↓zz,seval,Af,An,A7,B6,Cr,BG,pR,pF,pra,pfa,prb,pfb,ptR,ptF,pwg,pwo,ptp,prg,pro,pnx])) ?_)
    rintro y H' ⟨rfl,rfl⟩;refine⟨_,rfl,oc,?_⟩;cases tk with
    |none =>
     simp only at hE;subst hE;have f_:=Aa hwn (Aa ptR (Aa ptF pnx));refine ywB ?_;clear f_
     all_goals exact⟨_,_,UM (s:=((k+1:Nat):Int)) [_,_] rfl rfl,rfl,rfl⟩
    |some more =>
     have pm:=HD more;have hmo:=hto more rfl;have hml4:=htl3 more rfl;have hwr:IntKind.i64.wrap ((nx.length:Int)+more.length)=nx.length+more.length:=IntWalk.i64_in _ om;simp only at hE;(with_reducible repeat'(first|simp(disch:=omega)only[push_cast,↓zz,seval,hwsm,hwr,ptR,ptF,pnx,pm]|refine sp_ ?_ ?_<;>try(intro hc;push_cast at hc)|omega|intro _))
     ·rw[Ae om] at hE
      simp only at hE;subst hE;exact⟨_,_,UM (s:=((k+1:Nat):Int)) [_,_] rfl rfl,rfl,rfl⟩
     ·rw[Ad om] at hE
      refine⟨(m+1,nx++more,k+1,v'+1),B3 (l0:=lkL a b n R v F u ((k+1:Nat):Int)++[(⟨3,v'+1,false,(nx++more).map wyV⟩:Grp)]) (gar:=[⟨5,1,true,[DD r]⟩]) _ (by rw[Aw];rfl) (show 3<=4 by omega) (hcl1 _ _ _) ⟨rfl,oy,rfl,oy,rfl,(show 0<4 by omega),by simp;rfl,(show 3<4 by omega),rfl,oy,rfl,oy,rfl,oy,rfl,oy,rfl,oy,rfl,oy,rfl,oy,rfl,oy,rfl,oy,oy⟩,⟨by simp only;omega,λy hy=>?_,by simp only;omega,by simp only[Ai];omega,hE⟩,by simp only;omega⟩;rcases Av.1 hy with hy|hy
      ·exact hnx y hy
      ·exact hmo y hy
   ·obtain rfl:m=rs.length:=om
    rw[List.drop_length,QT] at hE;refine DR (FQ _) (W_T ?_);refine ywA ?_;exact⟨(j+1,nx,k,v'),B3 (l0:=lkL a b n R v F u k++[(⟨3,v',false,nx.map wyV⟩:Grp)]) (gar:=[]) _ rfl (show 3<=4 by omega) (hcl1 _ _ _) ⟨rfl,oy,rfl,(show 0<4 by omega),rfl,(show 3<4 by omega),rfl,oy,rfl,oy,rfl,oy,rfl,oy,rfl,oy,rfl,oy,oy⟩,⟨by simp only;omega,hnx,hk,hnl,hE⟩,by simp only;omega⟩
  ·obtain rfl:j=ws.length:=om
   rw[List.drop_length,OI] at hE;have pnx:=HD nx;refine DR (FQ _) (W_T ?_);refine ywA ?_;refine⟨(i+1,nx,k),(Pj 8 3 3 v' nx.length ox oc rfl pnx oc rfl rfl).trans (B3 (l0:=lkL a b n R v F u k) (gar:=[_]) _ rfl (Ab _) (hcl0 _) ⟨rfl,(show 0<3 by omega),rfl,oy,rfl,oy,rfl,oy,rfl,oy,oy⟩),⟨by simp only;omega,hnx,hk,hnl,hE⟩,by simp only;omega⟩
 ·obtain rfl:i=ts.length:=om
  rw[List.drop_length,Jf] at hE;subst hE;refine DR (FQ []) (W_T ?_);refine ywA ?_;refine DK (W_T ?_);refine ywA ?_;refine W_T ?_;(with_reducible repeat'(first|simp(disch:=omega)only[push_cast,↓zz,seval]|refine sp_ ?_ ?_<;>try(intro hc;push_cast at hc)|omega|intro _));exact⟨_,_,IU (l0:=lkL a b n R v F u k) (gar:=[]) rfl (Ab _) (hcl0 _) (AL _ _ (by simp[AV.pure,AJ,pws])),rfl,rfl⟩
theorem Iy{t:Term}{i o:Int}{gs:List (List Span)}(h:Kg t i o gs=true):z2y t/\t.parts.length<=4:=by
 rw[Kg,Ac] at h;have h:=h.1;obtain⟨h1,h2⟩:=Mi h;simp only[DN,Ac,Ah] at h1;have hb:=GH h1.1.1.1;have hs:=GH h1.1.1.2;refine⟨⟨λx hx=>?_,om⟩,om⟩;simp only[Af,An,A7] at hx;rcases hx with rfl|rfl<;>omega
theorem NS{i:Int}{gs:List (List Span)}(h:Fo i gs=true):gs.length<=4/\∀s∈gs,s.length<=64:=by
 obtain⟨h1,h2⟩:=z6o.1 h;exact⟨h1,λs hs=>(Zl.1 (h2 s hs)).2.1⟩
section
variable {a b:Desc}
theorem Two.feedOk(h:Two a b){n:Nat}(hn:b.states=n):Xz b n:=by
 have hw:=NJ h.cb;obtain⟨_,hr,_⟩:=ET h.cb;obtain⟨m,m1,m2,m3⟩:=hw.n;refine⟨hn,om,by have:=hw.rl;omega,λr hr'=>by have:=(hw.r r hr').2;omega,λr hr'=>?_,λr hr'=>?_⟩
 ·obtain⟨g,hg⟩:=h.ones.r r hr'
  have:=(NS (Iv (hr r hr')).2.2.1).2 g (by rw[hg];simp);rw[hg];exact⟨oc,by show g.length<=_;omega⟩
 ·have:=(HA (Iv (hr r hr')).2.2.2.2).1
  omega
theorem zqo{i:Int}{gs:List (List Span)}(h:Fo i gs=true){n:Nat}{q:Int}(hq:0<=q/\q<n):WayB n ⟨q,gs,[]⟩:=by
 obtain⟨h1,h2⟩:=NS h;exact⟨hq,h1,h2,oc,λt ht=>by cases ht⟩
theorem zv9{i:Int}{gs:List (List Span)}(h:Fo i gs=true){n:Nat}{q:Int}(hq:0<=q/\q<n):WyOk n ⟨q,gs,[]⟩:=by
 obtain⟨h1,h2⟩:=NS h;exact⟨hq,oc,by simp only;omega,λs hs=>by have:=h2 s hs;omega⟩
end
theorem z38{w:Way}{t:Term}:∀(rs:List Rule)(nx:List Way)(k:Nat)(zs:List Way)(k':Nat),k<=65536->QT w t rs nx k=(some zs,k')->k'<=65536
 |[],nx,k,zs,k',hk,e=>by obtain⟨_,rfl⟩:=Prod.mk.inj e;exact hk
 |r::rs,nx,k,zs,k',hk,e=>by
  rw[QT] at e;split at e
  ·cases (Prod.mk.inj e).1
  split at e
  ·cases (Prod.mk.inj e).1
  split at e
  ·cases (Prod.mk.inj e).1
  exact z38 rs _ _ zs k' om e
theorem z3a{b:Desc}{t:Term}:∀(ws nx:List Way)(k:Nat)(zs:List Way)(k':Nat),k<=65536->OI b t ws nx k=(some zs,k')->k'<=65536
 |[],nx,k,zs,k',hk,e=>by obtain⟨_,rfl⟩:=Prod.mk.inj e;exact hk
 |w::ws,nx,k,zs,k',hk,e=>by
  rw[OI] at e;split at e
  ·cases (Prod.mk.inj e).1
  rename_i nx' k1 hR;exact z3a ws _ _ zs k' (z38 _ _ _ _ _ hk hR) e
theorem UN{b:Desc}:∀(ts:List Term)(ws:List Way)(k:Nat)(zs:List Way)(k':Nat),k<=65536->Jf b ts ws k=(some zs,k')->k'<=65536
 |[],ws,k,zs,k',hk,e=>by obtain⟨_,rfl⟩:=Prod.mk.inj e;exact hk
 |t::ts,ws,k,zs,k',hk,e=>by
  rw[Jf] at e;split at e
  ·cases (Prod.mk.inj e).1
  rename_i nx k1 hW;exact UN ts _ _ zs k' (z3a _ _ _ _ _ hk hW) e
theorem X0{w:Way}{t:Term}:∀(rs:List Rule)(nx:List Way)(k:Nat)(zs:List Way)(k':Nat),nx.length<=4096->QT w t rs nx k=(some zs,k')->zs.length<=4096
 |[],nx,k,zs,k',hk,e=>by obtain⟨h,_⟩:=Prod.mk.inj e;obtain rfl:=A5 h;exact hk
 |r::rs,nx,k,zs,k',hk,e=>by
  rw[QT] at e;split at e
  ·cases (Prod.mk.inj e).1
  split at e
  ·cases (Prod.mk.inj e).1
  split at e
  ·cases (Prod.mk.inj e).1
  exact X0 rs _ _ zs k' (by rw[Ai];omega) e
theorem X3{b:Desc}{t:Term}:∀(ws nx:List Way)(k:Nat)(zs:List Way)(k':Nat),nx.length<=4096->OI b t ws nx k=(some zs,k')->zs.length<=4096
 |[],nx,k,zs,k',hk,e=>by obtain⟨h,_⟩:=Prod.mk.inj e;obtain rfl:=A5 h;exact hk
 |w::ws,nx,k,zs,k',hk,e=>by
  rw[OI] at e;split at e
  ·cases (Prod.mk.inj e).1
  rename_i nx' k1 hR;exact X3 ws _ _ zs k' (X0 _ _ _ _ _ hk hR) e
theorem Rl{b:Desc}:∀(ts:List Term)(ws:List Way)(k:Nat)(zs:List Way)(k':Nat),ws.length<=4096->Jf b ts ws k=(some zs,k')->zs.length<=4096
 |[],ws,k,zs,k',hk,e=>by obtain⟨h,_⟩:=Prod.mk.inj e;obtain rfl:=A5 h;exact hk
 |t::ts,ws,k,zs,k',hk,e=>by
  rw[Jf] at e;split at e
  ·cases (Prod.mk.inj e).1
  rename_i nx k1 hW;exact Rl ts _ _ zs k' (X3 _ _ _ _ _ oc hW) e
theorem zl7{n q:Nat}(h:q<n):nth (idsN n) q=q:=by simp[nth,idsN,h]
theorem UO(n:Nat):(idsN n).length=n:=by simp[idsN]
theorem X4{x y:Int}(hx:0<=x/\x<=1024)(hy:0<=y/\y<=1024):0<=x * y/\x * y<=1048576:=by
 have h1:=Fv hx.2 hy.2 hy.1 (by decide:(0:Int)<=1024);exact⟨DU hx.1 hy.1,om⟩
theorem Tk{P:Program}{f:Nat}{xs ys:List AV}{l:List Grp}{K:AV->A4->Prop}(h:B9 P f ys (Abs.hl l) K)(hle:leSL l xs ys):B9 P f xs (Abs.hl l) K:=⟨h.1,λS cargs hS hx=>h.2 S cargs hS (Kp (.inl hS) _ hle hx)⟩
set_option maxHeartbeats 8000000 in
theorem z6z{a b:Desc}(h:Two a b){n:Nat}(hn:b.states=n){Q:Ex->Env->A4->Prop}
 (hq:∀env l,(OJ b a.rules [] 0).1=none->3<=l.length->env 2=.bool false->Q .ret env (Abs.hl l)) :
 T Tryz.prog 206 3 (hdC (tlC 1 GN)) (BO [(0,.ptr 0 1 0 0)]) (Abs.hl (lkL a b n [] 1 [] 1 0))
  (Ex.then (λenv' H'=>∃R k v,k<=65536/\R.length<=4096/\OJ b a.rules [] 0=(some R,k)/\Ent 206 3 env' H' (BO [(0,.ptr 0 1 0 0)]) (Abs.hl (lkL a b n R v [] 1 (k:Nat)))) Q):=by
 have pra:=BJ a.rules;have pfa:=BD a.finals;have prb:=BJ b.rules;have pfb:=BD b.finals;have ptR:=HO b n;have ptF:=IG b n;have hfo:=h.feedOk hn;have hwa:=NJ h.ca;have hrl0:=hwa.rl;obtain⟨ma,ma1,ma2,ma3⟩:=hwa.n;obtain⟨_,hra,_⟩:=ET h.ca;have hcl0:∀(R:List Rule)(v:Nat)(k:Int),∀X∈lkL a b n R v [] 1 k,ltL 3 X.xs:=λR v k X hX=>Ix (M:=[]) (Ab 3) (λ_ h=>by cases h) X (by simpa using hX);generalize hRU:OJ b a.rules [] 0=RU at *;refine DK (DR (FQ []) (W_T ?_));refine ywA ?_;refine W_T ?_
 refine Ba (D6 (σ:=Nat × List Rule × Nat × Nat) (λq=>q.1<=a.rules.length/\q.2.2.1<=65536/\q.2.1.length<=4096/\OJ b (a.rules.drop q.1) q.2.1 q.2.2.1=RU) (λq=>a.rules.length-q.1)
  (λq=>BO [(0,.ptr 0 1 0 0),(23,CB a.rules),(24,.int .i64 a.rules.length),(25,.int .i64 q.1)]) (λq=>Abs.hl (lkL a b n q.2.1 q.2.2.2 [] 1 q.2.2.1)) (0,[],0,1) ⟨Ap _,oc,oc,hRU⟩ ?_ ?_)
 ·exact B3 (l0:=lkL a b n [] 1 [] 1 0) (gar:=[]) _ rfl (Ab _) (hcl0 _ _ _) ⟨rfl,(show 0<3 by omega),rfl,oy,rfl,oy,rfl,oy,oy⟩
 rintro⟨i,R,k,v⟩ ⟨hi,hk,hRl,hE⟩;simp only at hi hk hRl hE ⊢;have pR:=BJ R;rcases Aj i a.rules.length with hil|hil
 ·obtain⟨r,hrd⟩:∃r,r=nth a.rules i:=⟨_,rfl⟩
  have hr:r∈a.rules:=by rw[hrd];exact Bi hil
  have prv:(DD r).pure=true:=by simp[DD,AV.pure,AJ,B0,Cy]
  rw[drop_at hil,<-hrd,OJ,hn] at hE;refine DR (FQ []) (W_T ?_);(with_reducible repeat'(first|simp(disch:=omega)only[push_cast,↓zz,seval,<-hrd]|refine sp_ ?_ ?_<;>try(intro hc;push_cast at hc)|omega|intro _));rw[show (n:Int).toNat=n from Int.toNat_natCast n] at hE;have hfn:=hfo.n0
  refine Ba (D6 (σ:=Nat × List Rule × Nat × Nat) (λq=>q.1<=n/\q.2.2.1<=65536/\q.2.1.length<=4096 /\
   (match Zc b r ((idsN n).drop q.1) q.2.1 q.2.2.1 with|(none,k')=>(none,k')|(some R',k')=>OJ b (a.rules.drop (i+1)) R' k')=RU) (λq=>n-q.1)
   (λq=>BO [(4,.cptr (DD r)),(0,.ptr 0 1 0 0),(23,CB a.rules),(24,.int .i64 a.rules.length),(25,.int .i64 i),(33,.int .i64 b.states),(34,.int .i64 q.1)]) (λq=>Abs.hl (lkL a b n q.2.1 q.2.2.2 [] 1 q.2.2.1)) (0,R,k,v) ⟨Ap _,hk,hRl,hE⟩ ?_ ?_)
  ·exact Ent.trans (Io (F:=lkL a b n R v [] 1 k) (w:=5) (x:=DD r) 4 [(0,.ptr 0 1 0 0),(23,CB a.rules),(24,.int .i64 a.rules.length),(25,.int .i64 i),(33,.int .i64 b.states),(34,.int .i64 0)] prv ox (Ab _) (hcl0 _ _ _) rfl ⟨rfl,(show 0<3 by omega),rfl,oy,rfl,oy,rfl,oy,rfl,oy,rfl,oy,oy⟩ oc) Ent.refl
  clear hE hRl hk pR;rintro⟨q,R,k,v⟩ ⟨hq',hk,hRl,hE⟩;simp only at hq' hk hRl hE ⊢;have pR:=BJ R;rcases Aj q n with hqn|hqn
  ·have hr2:=Iv (hra r hr)
   have prg:=B0 r.guards;have pro:=Cy r.out;rw[drop_at (by rw[UO];exact hqn),zl7 hqn,Zc] at hE;have hwy:WyOk n ⟨(q:Int),r.guards,[]⟩:=zv9 hr2.2.2.1 om;have hwf:=HA hr2.2.2.2.2;have hfit:=(h.ruleFit r hr).2;have hFd:=Rk (a:=a) hfo R v [] 1 r.out om (λt ht=>(Iy (hwf.2 t ht)).1) ⟨(q:Int),r.guards,[]⟩ hwy k hk;have hok:=λzs k' e=>Zs (zs:=zs) (k':=k') hfo (λt ht=>by have:=(Iy (hwf.2 t ht)).2;omega) (zqo hr2.2.2.1 om) e (w0:=⟨(q:Int),r.guards,[]⟩) (k:=k);have hle:=λzs k'=>UN (b:=b) r.out [⟨(q:Int),r.guards,[]⟩] k zs k' hk;have hlw:=λzs k'=>Rl (b:=b) r.out [⟨(q:Int),r.guards,[]⟩] k zs k' oc;generalize hfd:Jf b r.out [⟨(q:Int),r.guards,[]⟩] k=fd at *;obtain⟨o,k1⟩:=fd;simp only at hFd;have hFd:=Tk (xs:=[.ptr 0 1 0 0,.agg [.int .i64 q,AQ r.guards,.nilS],C5 r.out]) hFd ⟨Bn _ _,⟨Bn _ _,Bn _ _,⟨ox,rfl⟩,rfl⟩,Bn _ _,rfl⟩;unfold lkL lkH at hFd;refine DR (FQ []) (W_T ?_);have f_:=Aa ptR ptF;refine ywB ?_;clear f_
   (refine at_c [0,1,2] (hFd) ox oc (by refine⟨?_,?_,?_,?_⟩<;>(simp(disch:=omega)only[push_cast,↓zz,seval,Af,An,A7,B6,Cr,BG,pR,pra,pfa,prb,pfb,ptR,ptF,prg,pro])) ?_)
   rintro y H' ⟨rfl,rfl⟩;refine⟨_,rfl,oc,?_⟩;have hwn:wayR none=.tup [.nilS,.bool false]:=rfl;have hwsm:∀more,wayR (some more)=.tup [wysV more,.bool true]:=λ_=>rfl;cases o with
   |none =>
    simp only at hE;have f_:=Aa hwn (Aa ptR ptF);refine ywB ?_;clear f_;exact hq _ _ (by rw[<-hE]) oc rfl
   |some ws =>
    have pws:=HD ws;have hok:=hok ws k1 rfl;have hle:=hle ws k1 rfl;have hlw:=hlw ws k1 rfl;simp only at hE;have f_:=Aa hwsm (Aa pws (Aa ptR ptF));refine ywB ?_;clear f_
    refine Ba (D6 (σ:=Nat × Nat) (λp=>p.1<=ws.length) (λp=>ws.length-p.1)
     (λp=>BO [(4,.cptr (DD r)),(0,.ptr 0 1 0 0),(5,.int .i64 q),(23,CB a.rules),(24,.int .i64 a.rules.length),(25,.int .i64 i),(33,.int .i64 b.states),(34,.int .i64 q),(50,wysV ws),(51,.int .i64 ws.length),(52,.int .i64 p.1)])
     (λp=>Abs.hl (lkL a b n (R++(ws.take p.1).map (IV b.states r q)) p.2 [] 1 k1)) (0,v) (Ap _) ?_ ?_)
    ·exact B3 (l0:=lkL a b n (R++(ws.take 0).map (IV b.states r q)) v [] 1 k1) (gar:=[]) _ (by simp[lkL,lkH]) (Ab _) (hcl0 _ _ _) ⟨rfl,oy,rfl,(show 0<3 by omega),rfl,oy,rfl,oy,rfl,oy,rfl,oy,rfl,oy,rfl,oy,rfl,oy,rfl,oy,rfl,oy,oy⟩
    rintro⟨m,v⟩ hm;simp only at hm ⊢;have hRm:(R++(ws.take m).map (IV b.states r q)).length=R.length+m:=by rw[Ai,Au,Bb];omega
    rcases Aj m ws.length with hml|hml
    ·obtain⟨w,hwd⟩:∃w,w=nth ws m:=⟨_,rfl⟩
     have hwm:=hok w (by rw[hwd];exact Bi hml);have htk:ws.take (m+1)=ws.take m++[w]:=by rw[hwd];exact take_at hml
     have gl1:=hwm.g;have gl2:=hwm.s;have hOwn:=Xh w.guards om (λg hg=>by have:=gl2 g hg;omega);have hCop:=OB w.out (by have:=hwm.o;omega) (λt ht=>by have:=hwm.p t ht;omega);generalize hRg:R++(ws.take m).map (IV b.states r q)=Rm at *;refine DR (FQ []) (W_T ?_);have hb1:0<=r.from_ * b.states/\r.from_ * b.states<=1048576:=X4 om om;have hb2:0<=r.to_ * b.states/\r.to_ * b.states<=1048576:=X4 om om;have hw1:IntKind.i64.wrap (r.from_ * b.states)=r.from_ * b.states:=IntWalk.i64_in _ om;have hw2:IntKind.i64.wrap (r.to_ * b.states)=r.to_ * b.states:=IntWalk.i64_in _ om;have hw3:IntKind.i64.wrap (r.from_ * b.states+q)=r.from_ * b.states+q:=IntWalk.i64_in _ om;have hw4:IntKind.i64.wrap (r.to_ * b.states+w.state)=r.to_ * b.states+w.state:=IntWalk.i64_in _ (by have:=hwm.st;omega);(with_reducible repeat'(first|simp(disch:=omega)only[push_cast,↓zz,seval,pws,<-hwd,ptR,ptF]|refine sp_ ?_ ?_<;>try(intro hc;push_cast at hc)|omega|intro _));have hSS:∀i (l:List Grp),Cw i [1] l l:=λ_ _=>FP;refine Gr [1] ?_;(with_reducible repeat'(first|simp(disch:=omega)only[push_cast,↓zz,seval,xx,Af,An,A7,BC,Ch,AT,Co,Cn,ptR,ptF,hw1,hw2,hw3,hw4,hSS,hRm]|refine sp_ ?_ ?_<;>try(intro hc;push_cast at hc)|refine ee hOwn ?_|refine ee hCop ?_|((first|refine cc hOwn ?_|refine cc hCop ?_);simp(disch:=omega)only[push_cast,↓zz,seval,xx,Af,An,A7,BC,Ch,AT,Co,Cn,ptR,ptF,hw1,hw2,hw3,hw4,hSS,hRm];fail_if_success change False)|omega|intro _));have e1:R++(ws.take (m+1)).map (IV b.states r q)=Rm++[IV b.states r q w]:=by rw[htk,Aw,<-A3,hRg];rfl
     refine⟨(m+1,v+1),?_,by simp only;omega,by simp only;omega⟩;simp only;rw[e1];exact B3 (l0:=lkL a b n (Rm++[IV b.states r q w]) (v+1) [] 1 k1) (gar:=[⟨3,1,true,[wyV w]⟩]) _ (by simp[lkL,lkH,IV,hRm]) (Ab _) (hcl0 _ _ _) ⟨rfl,oy,rfl,(show 0<3 by omega),rfl,oy,rfl,oy,rfl,oy,rfl,oy,rfl,oy,rfl,oy,rfl,oy,rfl,oy,rfl,oy,oy⟩
    ·obtain rfl:m=ws.length:=om
     rw[As] at hRm ⊢;refine DR (FQ []) (W_T ?_);(with_reducible repeat'(first|simp(disch:=omega)only[push_cast,↓zz,seval]|refine sp_ ?_ ?_<;>try(intro hc;push_cast at hc)|omega|intro _))
     ·exact hq _ _ (by rw[<-hE,Ae (by rw[hRm];omega)]) oc rfl
     ·rw[Ad (by rw[hRm];omega)] at hE
      exact⟨(q+1,R++ws.map (IV b.states r q),k1,v),B3 (l0:=lkL a b n (R++ws.map (IV b.states r q)) v [] 1 k1) (gar:=[]) _ (by simp[lkL,lkH]) (Ab _) (hcl0 _ _ _) ⟨rfl,oy,rfl,(show 0<3 by omega),rfl,oy,rfl,oy,rfl,oy,rfl,oy,rfl,oy,oy⟩,⟨by simp only;omega,hle,by simp only;omega,hE⟩,by simp only;omega⟩
  ·obtain rfl:q=n:=om
   rw[Ao (by rw[UO];omega),Zc] at hE;refine DR (FQ []) (W_T ?_);refine ywA ?_;exact⟨(i+1,R,k,v),B3 (l0:=lkL a b q R v [] 1 k) (gar:=[]) _ rfl (Ab _) (hcl0 _ _ _) ⟨rfl,(show 0<3 by omega),rfl,oy,rfl,oy,rfl,oy,oy⟩,⟨by simp only;omega,hk,hRl,hE⟩,by simp only;omega⟩
 ·obtain rfl:i=a.rules.length:=om
  rw[List.drop_length,OJ] at hE;subst hE;refine DR (FQ []) (W_T ?_);refine ywA ?_;exact⟨R,k,v,hk,hRl,rfl,B3 (l0:=lkL a b n R v [] 1 k) (gar:=[]) _ rfl (Ab _) (hcl0 _ _ _) ⟨rfl,(show 0<3 by omega),oy⟩⟩
theorem z71{b:Desc}{f:DO}{q:Int}(ws:List Way)(w:Way):Ki b f q (ws++[w])=Ki b f q ws++(zcl b w.state).map (OK b.states f q w):=by simp[Ki]
theorem Rn{α β:Type}{f:α->List β}{k:Nat}:∀(l:List α),(∀x∈l,(f x).length<=k)->(l.flatMap f).length<=l.length * k
 |[],_=>by simp
 |x::l,h=>by
  have h1:=h x oc;have h2:=Rn l λy hy=>h y (by simp[hy]);rw[BI,Ai,List.length_cons,AS];omega
theorem zdj{b:Desc}{f:DO}{q:Int}(hl:b.finals.length<=4096)(ws:List Way):(Ki b f q ws).length<=ws.length * 4096 :=
 Rn ws λw _=>by rw[Au];exact Bl (Bg _ _) hl
set_option maxHeartbeats 8000000 in
theorem Zt{a b:Desc}(h:Two a b){n:Nat}(hn:b.states=n)(R:List Rule)(vR:Nat)(k0:Nat)(hk0:k0<=65536){Q:Ex->Env->A4->Prop}
 (hq:∀env l,(R4 b a.finals [] k0).1=none->3<=l.length->env 2=.bool false->Q .ret env (Abs.hl l)) :
 T Tryz.prog 206 3 (hdC (tlC 2 GN)) (BO [(0,.ptr 0 1 0 0)]) (Abs.hl (lkL a b n R vR [] 1 k0))
  (Ex.then (λenv' H'=>∃F k u,F.length<=4096/\R4 b a.finals [] k0=(some F,k)/\Ent 206 3 env' H' (BO [(0,.ptr 0 1 0 0)]) (Abs.hl (lkL a b n R vR F u (k:Nat)))) Q):=by
 have pra:=BJ a.rules;have pfa:=BD a.finals;have prb:=BJ b.rules;have pfb:=BD b.finals;have ptR:=HO b n;have ptF:=IG b n;have pR:=BJ R;have hfo:=h.feedOk hn;have hwa:=NJ h.ca;have hwb:=NJ h.cb;have hfl0:=hwa.fl;have hflb:=hwb.fl;obtain⟨ma,ma1,ma2,ma3⟩:=hwa.n;obtain⟨_,_,hfa⟩:=ET h.ca;obtain⟨_,_,hfb⟩:=ET h.cb;have hcl0:∀(F:List DO)(u:Nat)(k:Int),∀X∈lkL a b n R vR F u k,ltL 3 X.xs:=λF u k X hX=>Ix (M:=[]) (Ab 3) (λ_ h=>by cases h) X (by simpa using hX);generalize hRU:R4 b a.finals [] k0=RU at *;refine DK (DR (FQ []) (W_T ?_));refine ywA ?_;refine W_T ?_
 refine Ba (D6 (σ:=Nat × List DO × Nat × Nat) (λq=>q.1<=a.finals.length/\q.2.2.1<=65536/\q.2.1.length<=4096/\R4 b (a.finals.drop q.1) q.2.1 q.2.2.1=RU) (λq=>a.finals.length-q.1)
  (λq=>BO [(0,.ptr 0 1 0 0),(111,Cv a.finals),(112,.int .i64 a.finals.length),(113,.int .i64 q.1)]) (λq=>Abs.hl (lkL a b n R vR q.2.1 q.2.2.2 q.2.2.1)) (0,[],k0,1) ⟨Ap _,hk0,oc,hRU⟩ ?_ ?_)
 ·exact B3 (l0:=lkL a b n R vR [] 1 k0) (gar:=[]) _ rfl (Ab _) (hcl0 _ _ _) ⟨rfl,(show 0<3 by omega),rfl,oy,rfl,oy,rfl,oy,oy⟩
 rintro⟨i,F,k,u⟩ ⟨hi,hk,hRl,hE⟩;simp only at hi hk hRl hE ⊢;have pF:=BD F;rcases Aj i a.finals.length with hil|hil
 ·obtain⟨f,hfd⟩:∃f,f=nth a.finals i:=⟨_,rfl⟩
  have hf:f∈a.finals:=by rw[hfd];exact Bi hil
  have pfv:(CY f).pure=true:=by simp[CY,AV.pure,AJ,B0,Cy]
  rw[drop_at hil,<-hfd,R4,hn] at hE;refine DR (FQ []) (W_T ?_);(with_reducible repeat'(first|simp(disch:=omega)only[push_cast,↓zz,seval,<-hfd]|refine sp_ ?_ ?_<;>try(intro hc;push_cast at hc)|omega|intro _));rw[show (n:Int).toNat=n from Int.toNat_natCast n] at hE;have hfn:=hfo.n0
  refine Ba (D6 (σ:=Nat × List DO × Nat × Nat) (λq=>q.1<=n/\q.2.2.1<=65536/\q.2.1.length<=4096 /\
   (match zcm b f ((idsN n).drop q.1) q.2.1 q.2.2.1 with|(none,k')=>(none,k')|(some R',k')=>R4 b (a.finals.drop (i+1)) R' k')=RU) (λq=>n-q.1)
   (λq=>BO [(11,.cptr (CY f)),(0,.ptr 0 1 0 0),(111,Cv a.finals),(112,.int .i64 a.finals.length),(113,.int .i64 i),(121,.int .i64 b.states),(122,.int .i64 q.1)]) (λq=>Abs.hl (lkL a b n R vR q.2.1 q.2.2.2 q.2.2.1)) (0,F,k,u) ⟨Ap _,hk,hRl,hE⟩ ?_ ?_)
  ·exact Ent.trans (Io (F:=lkL a b n R vR F u k) (w:=3) (x:=CY f) 11 [(0,.ptr 0 1 0 0),(111,Cv a.finals),(112,.int .i64 a.finals.length),(113,.int .i64 i),(121,.int .i64 b.states),(122,.int .i64 0)] pfv ox (Ab _) (hcl0 _ _ _) rfl ⟨rfl,(show 0<3 by omega),rfl,oy,rfl,oy,rfl,oy,rfl,oy,rfl,oy,oy⟩ oc) Ent.refl
  clear hE hRl hk pF;rintro⟨q,F,k,u⟩ ⟨hq',hk,hRl,hE⟩;simp only at hq' hk hRl hE ⊢;have pF:=BD F;rcases Aj q n with hqn|hqn
  ·have hr2:=Mm (hfa f hf)
   have prg:=B0 f.guards;have pro:=Cy f.out;rw[drop_at (by rw[UO];exact hqn),zl7 hqn,zcm] at hE;have hwy:WyOk n ⟨(q:Int),f.guards,[]⟩:=zv9 hr2.2.1 om;have hwf:=HA hr2.2.2;have hfit:=(h.finFit f hf).2;have hFd:=Rk (a:=a) hfo R vR F u f.out om (λt ht=>(Iy (hwf.2 t ht)).1) ⟨(q:Int),f.guards,[]⟩ hwy k hk;have hok:=λzs k' e=>Zs (zs:=zs) (k':=k') hfo (λt ht=>by have:=(Iy (hwf.2 t ht)).2;omega) (zqo hr2.2.1 om) e (w0:=⟨(q:Int),f.guards,[]⟩) (k:=k);have hle:=λzs k'=>UN (b:=b) f.out [⟨(q:Int),f.guards,[]⟩] k zs k' hk;have hlw:=λzs k'=>Rl (b:=b) f.out [⟨(q:Int),f.guards,[]⟩] k zs k' oc;generalize hfd2:Jf b f.out [⟨(q:Int),f.guards,[]⟩] k=fd at *;obtain⟨o,k1⟩:=fd;simp only at hFd;have hFd:=Tk (xs:=[.ptr 0 1 0 0,.agg [.int .i64 q,AQ f.guards,.nilS],C5 f.out]) hFd ⟨Bn _ _,⟨Bn _ _,Bn _ _,⟨ox,rfl⟩,rfl⟩,Bn _ _,rfl⟩;unfold lkL lkH at hFd;refine DR (FQ []) (W_T ?_);have f_:=Aa ptR ptF;refine ywB ?_;clear f_
   (refine at_c [0,1,2] (hFd) ox oc (by refine⟨?_,?_,?_,?_⟩<;>(simp(disch:=omega)only[push_cast,↓zz,seval,Af,An,A7,B6,Cr,BG,pR,pF,pra,pfa,prb,pfb,ptR,ptF,prg,pro])) ?_)
   rintro y H' ⟨rfl,rfl⟩;refine⟨_,rfl,oc,?_⟩;have hwn:wayR none=.tup [.nilS,.bool false]:=rfl;have hwsm:∀more,wayR (some more)=.tup [wysV more,.bool true]:=λ_=>rfl;cases o with
   |none =>
    simp only at hE;have f_:=Aa hwn (Aa ptR ptF);refine ywB ?_;clear f_;exact hq _ _ (by rw[<-hE]) oc rfl
   |some ws =>
    have pws:=HD ws;have hok:=hok ws k1 rfl;have hle:=hle ws k1 rfl;have hlw:=hlw ws k1 rfl;simp only at hE;have f_:=Aa hwsm (Aa pws (Aa ptR ptF));refine ywB ?_;clear f_
    refine Ba (D6 (σ:=Nat × Nat) (λp=>p.1<=ws.length) (λp=>ws.length-p.1)
     (λp=>BO [(11,.cptr (CY f)),(0,.ptr 0 1 0 0),(12,.int .i64 q),(111,Cv a.finals),(112,.int .i64 a.finals.length),(113,.int .i64 i),(121,.int .i64 b.states),(122,.int .i64 q),(138,wysV ws),(139,.int .i64 ws.length),(140,.int .i64 p.1)])
     (λp=>Abs.hl (lkL a b n R vR (F++Ki b f q (ws.take p.1)) p.2 k1)) (0,u) (Ap _) ?_ ?_)
    ·exact B3 (l0:=lkL a b n R vR (F++Ki b f q (ws.take 0)) u k1) (gar:=[]) _ (by simp[lkL,lkH,Ki]) (Ab _) (hcl0 _ _ _) ⟨rfl,oy,rfl,(show 0<3 by omega),rfl,oy,rfl,oy,rfl,oy,rfl,oy,rfl,oy,rfl,oy,rfl,oy,rfl,oy,rfl,oy,oy⟩
    rintro⟨m,u⟩ hm;simp only at hm ⊢;have hfw:=zdj (f:=f) (q:=(q:Int)) hflb (ws.take m);rw[Bb,Dj hm] at hfw;rcases Aj m ws.length with hml|hml
    ·obtain⟨w,hwd⟩:∃w,w=nth ws m:=⟨_,rfl⟩
     have hwm:=hok w (by rw[hwd];exact Bi hml);have htk:ws.take (m+1)=ws.take m++[w]:=by rw[hwd];exact take_at hml
     have pwg:=B0 w.guards;have pwo:=Cy w.out;have pwv:(wyV w).pure=true:=by simp[wyV,AV.pure,AJ,pwg,pwo]
     have gl1:=hwm.g;have gl2:=hwm.s;have hOwn:=Xh w.guards om (λg hg=>by have:=gl2 g hg;omega);have hst:0<=w.state/\w.state<n:=by have:=hwm.st;omega
     have htb:=zqm (b:=b) hst;have htl2:=zji b n;obtain⟨fs,hfs⟩:∃fs,fs=zcl b w.state:=⟨_,rfl⟩;rw[<-hfs] at htb;have hfsl:fs.length<=4096:=by rw[hfs];exact Bl (Bg _ _) hflb
     have e0:F++Ki b f q (ws.take (m+1))=F++Ki b f q (ws.take m)++fs.map (OK b.states f q w):=by rw[htk,z71,<-hfs,A3]
     have hFm:(F++Ki b f q (ws.take m)).length<=4096+m * 4096:=by rw[Ai];omega
     generalize hFg:F++Ki b f q (ws.take m)=Fm at *;refine DR (FQ []) (W_T ?_);(with_reducible repeat'(first|simp(disch:=omega)only[push_cast,↓zz,seval,pws,<-hwd,ptR,ptF,htb,htl2]|refine sp_ ?_ ?_<;>try(intro hc;push_cast at hc)|omega|intro _))
     refine Ba (D6 (σ:=Nat × Nat) (λp=>p.1<=fs.length) (λp=>fs.length-p.1)
      (λp=>BO [(16,.cptr (wyV w)),(11,.cptr (CY f)),(0,.ptr 0 1 0 0),(12,.int .i64 q),(111,Cv a.finals),(112,.int .i64 a.finals.length),(113,.int .i64 i),(121,.int .i64 b.states),(122,.int .i64 q),(138,wysV ws),(139,.int .i64 ws.length),(140,.int .i64 m),(151,Cv fs),(152,.int .i64 fs.length),(153,.int .i64 p.1)])
      (λp=>Abs.hl (lkL a b n R vR (Fm++(fs.take p.1).map (OK b.states f q w)) p.2 k1)) (0,u) (Ap _) ?_ ?_)
     ·exact Ent.trans (Io (F:=lkL a b n R vR Fm u k1) (w:=3) (x:=wyV w) 16 [(11,.cptr (CY f)),(0,.ptr 0 1 0 0),(12,.int .i64 q),(111,Cv a.finals),(112,.int .i64 a.finals.length),(113,.int .i64 i),(121,.int .i64 b.states),(122,.int .i64 q),(138,wysV ws),(139,.int .i64 ws.length),(140,.int .i64 m),(151,Cv fs),(152,.int .i64 fs.length),(153,.int .i64 0)] pwv ox (Ab _) (hcl0 _ _ _) rfl ⟨rfl,oy,rfl,(show 0<3 by omega),rfl,oy,rfl,oy,rfl,oy,rfl,oy,rfl,oy,rfl,oy,rfl,oy,rfl,oy,rfl,oy,rfl,oy,rfl,oy,rfl,oy,oy⟩ oc) (GY (l':=lkL a b n R vR (Fm++(fs.take 0).map (OK b.states f q w)) u k1) (by rw[List.take_zero,AX,Ax];exact H9 _ _) λ_ _=>Bn _ _)
     rintro⟨p,u⟩ hp;simp only at hp ⊢;have hFp:(Fm++(fs.take p).map (OK b.states f q w)).length=Fm.length+p:=by rw[Ai,Au,Bb];omega
     rcases Aj p fs.length with hpl|hpl
     ·obtain⟨g,hgd⟩:∃g,g=nth fs p:=⟨_,rfl⟩
      have hg:g∈b.finals:=by
       have h1:g∈fs:=by rw[hgd];exact Bi hpl
       rw[hfs] at h1;exact (AW.1 h1).1
      have hg2:=Mm (hfb g hg);have hgw:=HA hg2.2.2;have htk2:fs.take (p+1)=fs.take p++[g]:=by rw[hgd];exact take_at hpl
      have pgo:=Cy g.out;have hwol:=hwm.o;have hCon:=z5s w.out g.out om
      have hCop:=OB (w.out++g.out) (by rw[Ai];omega) (λt ht=>by
       rcases Av.1 ht with ht|ht
       ·have:=hwm.p t ht;omega
       ·have:=(Iy (hgw.2 t ht)).2;omega)
      have pcc:AJ [C5 w.out,C5 g.out]=true:=by simp[AJ,AV.pure,pwo,pgo]
      have hb1:0<=f.from_ * b.states/\f.from_ * b.states<=1048576:=X4 om om;have hw1:IntKind.i64.wrap (f.from_ * b.states)=f.from_ * b.states:=IntWalk.i64_in _ om;have hw3:IntKind.i64.wrap (f.from_ * b.states+q)=f.from_ * b.states+q:=IntWalk.i64_in _ om;have e1:Fm++(fs.take (p+1)).map (OK b.states f q w)=Fm++(fs.take p).map (OK b.states f q w)++[OK b.states f q w g]:=by rw[htk2,Aw,<-A3];rfl
      generalize hFpg:Fm++(fs.take p).map (OK b.states f q w)=Fp at *;refine DR (FQ []) (W_T ?_);(with_reducible repeat'(first|simp(disch:=omega)only[push_cast,↓zz,seval,<-hgd,ptR,ptF]|refine sp_ ?_ ?_<;>try(intro hc;push_cast at hc)|omega|intro _));have hSS:∀i (l:List Grp),Cw i [2] l l:=λ_ _=>FP;refine Gr [2] ?_;(with_reducible repeat'(first|simp(disch:=omega)only[push_cast,↓zz,seval,xx,Af,An,A7,BC,Ch,AT,Co,Cn,ptR,ptF,pcc,hw1,hw3,hSS,hFp]|refine sp_ ?_ ?_<;>try(intro hc;push_cast at hc)|refine ee hOwn ?_|refine ee hCon ?_|refine ee hCop ?_|((first|refine cc hOwn ?_|refine cc hCon ?_|refine cc hCop ?_);simp(disch:=omega)only[push_cast,↓zz,seval,xx,Af,An,A7,BC,Ch,AT,Co,Cn,ptR,ptF,pcc,hw1,hw3,hSS,hFp];fail_if_success change False)|omega|intro _));refine⟨(p+1,u+1),?_,by simp only;omega,by simp only;omega⟩;simp only;rw[e1];exact B3 (l0:=lkL a b n R vR (Fp++[OK b.states f q w g]) (u+1) k1) (gar:=[⟨3,1,true,[CY g]⟩]) _ (by simp[lkL,lkH,OK,hFp]) (Ab _) (hcl0 _ _ _) ⟨rfl,oy,rfl,oy,rfl,(show 0<3 by omega),rfl,oy,rfl,oy,rfl,oy,rfl,oy,rfl,oy,rfl,oy,rfl,oy,rfl,oy,rfl,oy,rfl,oy,rfl,oy,rfl,oy,oy⟩
     ·obtain rfl:p=fs.length:=om
      rw[As,<-e0];refine DR (FQ []) (W_T ?_);refine ywA ?_;exact⟨(m+1,u),B3 (l0:=lkL a b n R vR (F++Ki b f q (ws.take (m+1))) u k1) (gar:=[]) _ (by simp[lkL,lkH]) (Ab _) (hcl0 _ _ _) ⟨rfl,oy,rfl,(show 0<3 by omega),rfl,oy,rfl,oy,rfl,oy,rfl,oy,rfl,oy,rfl,oy,rfl,oy,rfl,oy,rfl,oy,oy⟩,by simp only;omega,by simp only;omega⟩
    ·obtain rfl:m=ws.length:=om
     rw[As] at hfw ⊢;have hFm:(F++Ki b f q ws).length=F.length+(Ki b f q ws).length:=Ai ..;refine DR (FQ []) (W_T ?_);(with_reducible repeat'(first|simp(disch:=omega)only[push_cast,↓zz,seval]|refine sp_ ?_ ?_<;>try(intro hc;push_cast at hc)|omega|intro _))
     ·exact hq _ _ (by rw[<-hE,Ae (by rw[hFm];omega)]) oc rfl
     ·rw[Ad (by rw[hFm];omega)] at hE
      exact⟨(q+1,F++Ki b f q ws,k1,u),B3 (l0:=lkL a b n R vR (F++Ki b f q ws) u k1) (gar:=[]) _ (by simp[lkL,lkH]) (Ab _) (hcl0 _ _ _) ⟨rfl,oy,rfl,(show 0<3 by omega),rfl,oy,rfl,oy,rfl,oy,rfl,oy,rfl,oy,oy⟩,⟨by simp only;omega,hle,by simp only;omega,hE⟩,by simp only;omega⟩
  ·obtain rfl:q=n:=om
   rw[Ao (by rw[UO];omega),zcm] at hE;refine DR (FQ []) (W_T ?_);refine ywA ?_;exact⟨(i+1,F,k,u),B3 (l0:=lkL a b q R vR F u k) (gar:=[]) _ rfl (Ab _) (hcl0 _ _ _) ⟨rfl,(show 0<3 by omega),rfl,oy,rfl,oy,rfl,oy,oy⟩,⟨by simp only;omega,hk,hRl,hE⟩,by simp only;omega⟩
 ·obtain rfl:i=a.finals.length:=om
  rw[List.drop_length,R4] at hE;subst hE;refine DR (FQ []) (W_T ?_);refine ywA ?_;exact⟨F,k,u,hRl,rfl,B3 (l0:=lkL a b n R vR F u k) (gar:=[]) _ rfl (Ab _) (hcl0 _ _ _) ⟨rfl,(show 0<3 by omega),oy⟩⟩
abbrev zjk(a b:Desc)(n:Nat)(x y:AV)(s:Int):AV:=.agg [.int .i64 a.in_,.int .i64 a.out,.int .i64 a.states,.int .i64 a.start,CB a.rules,Cv a.finals,.int .i64 b.in_,.int .i64 b.out,.int .i64 b.states,.int .i64 b.start,CB b.rules,Cv b.finals,Kk b n,Xy b n,
 .int .i64 a.in_,.int .i64 b.out,.int .i64 (a.states * b.states),.int .i64 (a.start * b.states+b.start),x,y,.int .i64 s]
def lkD(a b:Desc)(n:Nat)(R:List Rule)(v:Nat)(F:List DO)(u:Nat)(s:Int):List Grp:=[⟨21,1,true,[zjk a b n (CB R) (Cv F) s]⟩,(⟨5,v,false,R.map DD⟩:Grp).dead,(⟨3,u,false,F.map CY⟩:Grp).dead]
theorem zdk{l:List Grp}{ks:List Nat}{g w v n:Nat}{ex:Bool}{X:List AV}(hg:l.getD g default=⟨w,v,ex,X⟩)(hk:g∈ks)(hw:0<w)(pX:AJ X=true)(hX:X.length=n):Frz1 1 (Abs.hl l) ks (.ref g v 0 n) (.lst w X):=by
 have hat:((Abs.hl l).only ks).at_ g=⟨w,v,ex,X⟩:=by
  rw[LO,Ae hk,Da,hg]
 subst hX;refine .inr ⟨?_,?_⟩
 ·refine⟨by rw[hat],by rw[hat];exact hw,by rw[hat];simp,λz hz=>?_⟩
  rw[hat] at hz;exact Bz.1 pX z (Bc (Be hz))
 ·show _=AV.lst _ _
  rw[hat,BH,Ay oc];exact Bt (AV.lst w) ((A6 λx hx=>(rfl:frzV 0 _ x=x)).trans (DV _)).symm
theorem zdl{m bb:Nat}{env:Env}{a b:Desc}{n:Nat}{R:List Rule}{v:Nat}{F:List DO}{u:Nat}{s:Int}:Ent m bb env (Abs.hl (lkL a b n R v F u s)) env (Abs.hl (lkD a b n R v F u s)):=by
 refine Gw (l:=lkL a b n R v F u s) (g:=0) (w:=21) (v:=1) (d:=1) (ex:=true) (xs:=[zjk a b n (.ref 1 v 0 R.length) (.ref 2 u 0 F.length) s]) (ys:=[zjk a b n (CB R) (Cv F) s]) [1,2] ox (by simp[lkL,lkH]) rfl ox ?_ rfl
 exact⟨_,[],rfl,.inr ⟨_,_,rfl,rfl,_,_,rfl,.inl rfl,_,_,rfl,.inl rfl,_,_,rfl,.inl rfl,_,_,rfl,.inl rfl,_,_,rfl,.inl rfl,_,_,rfl,.inl rfl,_,_,rfl,.inl rfl,_,_,rfl,.inl rfl,_,_,rfl,.inl rfl,_,_,rfl,.inl rfl,_,_,rfl,.inl rfl,_,_,rfl,.inl rfl,_,_,rfl,.inl rfl,_,_,rfl,.inl rfl,_,_,rfl,.inl rfl,_,_,rfl,.inl rfl,_,_,rfl,.inl rfl,_,_,rfl,.inl rfl,
  _,_,rfl,zdk rfl oc ox (BJ R) oc,_,_,rfl,zdk rfl oc ox (BD F) oc,_,_,rfl,.inl rfl,rfl⟩,rfl⟩
theorem z3b{b:Desc}{n:Nat}{r:Rule}{P:Rule->Prop}(hF:∀(q:Int)(k:Nat)(zs:List Way)(k':Nat),0<=q/\q<n->Jf b r.out [⟨q,r.guards,[]⟩] k=(some zs,k')->∀y∈zs,WayB n y)(hP:∀q w,WayB n w->P (IV b.states r q w)):
 ∀(qs:List Int),(∀q∈qs,0<=q/\q<n)->∀(R:List Rule)(k:Nat)(R':List Rule)(k':Nat),Zc b r qs R k=(some R',k')->(∀s∈R,P s)->∀s∈R',P s
 |[],_,R,k,R',k',e,hR=>by
  obtain rfl:=A5 (Prod.mk.inj e).1;exact hR
 |q::qs,hq,R,k,R',k',e,hR=>by
  rw[Zc] at e;split at e
  ·cases (Prod.mk.inj e).1
  rename_i ws k1 hf;split at e
  ·cases (Prod.mk.inj e).1
  refine z3b hF hP qs (λq' hq'=>hq q' (by simp[hq'])) _ _ _ _ e λs hs=>?_;rcases Av.1 hs with hs|hs
  ·exact hR s hs
  ·obtain⟨w,hw,rfl⟩:=Al.1 hs
   exact hP q w (hF q _ _ _ (hq q oc) hf w hw)
theorem z3c{a b:Desc}(h:Two a b){n:Nat}(hn:b.states=n){P:Rule->Prop}(hP:∀r q w,WayB n w->P (IV b.states r q w)):
 ∀(rs:List Rule),(∀r∈rs,r∈a.rules)->∀(R:List Rule)(k:Nat)(R':List Rule)(k':Nat),OJ b rs R k=(some R',k')->(∀s∈R,P s)->∀s∈R',P s
 |[],_,R,k,R',k',e,hR=>by
  obtain rfl:=A5 (Prod.mk.inj e).1;exact hR
 |r::rs,hrs,R,k,R',k',e,hR=>by
  rw[OJ] at e;split at e
  ·cases (Prod.mk.inj e).1
  rename_i R1 k1 hQ;have hr2:=Iv ((ET h.ca).2.1 r (hrs r oc));have hwf:=HA hr2.2.2.2.2;exact z3c h hn hP rs (λr' hr'=>hrs r' (by simp[hr'])) _ _ _ _ e (z3b (λq k zs k' hq e=>Zs (h.feedOk hn) (λt ht=>by have:=(Iy (hwf.2 t ht)).2;omega) (zqo hr2.2.2.1 hq) e) (hP r) _ (λq hq=>by have:=Q0.1 hq;omega) _ _ _ _ hQ hR)
theorem Zu{a b:Desc}(h:Two a b){n:Nat}(hn:b.states=n):
 B9 Tryz.prog 77 [.ptr 0 1 0 0] (Abs.hl (lkL a b n [] 1 [] 1 0)) λy H' =>
  (∃c v u s,Nh a b=some c/\y=.bool true/\H'=Abs.hl (lkD a b n c.rules v c.finals u s))\/(Nh a b=none/\y=.bool false/\∃l',H'=Abs.hl l'/\3<=l'.length):=by
 have ptR:=HO b n;have ptF:=IG b n;have hcl0:∀X∈lkL a b n [] 1 [] 1 0,ltL 3 X.xs:=λX hX=>Ix (M:=[]) (Ab 3) (λ_ h=>by cases h) X (by simpa using hX);refine EU (IK LS ?_);refine KN [(0,.ptr 0 1 0 0)] (Abs.hl (lkL a b n [] 1 [] 1 0)) (DR (FQ []) (W_T ?_)) ?_
 ·refine ywA ?_
  exact B3 (l0:=lkL a b n [] 1 [] 1 0) (gar:=[]) _ rfl (Ab _) hcl0 ⟨rfl,(show 0<3 by omega),oy⟩
 have fail:∀(env:Env)(l:List Grp),Nh a b=none->3<=l.length->env 2=.bool false->Ret Tryz.prog [.slot 2] (λy H'=>∃y' H'',Ent 1 (lkL a b n [] 1 [] 1 0).length (λ_=>y) H' (λ_=>y') H''/\((∃c v u s,Nh a b=some c/\y'=.bool true/\H''=Abs.hl (lkD a b n c.rules v c.finals u s))\/(Nh a b=none/\y'=.bool false/\∃l',H''=Abs.hl l'/\3<=l'.length))) .ret env (Abs.hl l):=λenv l h1 h2 e2=>by
  have f_:=e2;refine ywB ?_;clear f_;exact⟨_,_,Ent.refl,.inr ⟨h1,rfl,l,rfl,h2⟩⟩
 refine Nk (z6z h hn λenv l h1 h2 e2=>fail env l ?_ h2 e2) λenv' H' hh=>?_
 ·unfold Nh
  generalize OJ b a.rules [] 0=q at *;obtain⟨o,k⟩:=q;simp only at h1;subst h1;rfl
 obtain⟨R,k,v,hk,hRl,hU,he⟩:=hh;refine I8 he ?_;refine Nk (Zt h hn R v k hk λenv l h1 h2 e2=>fail env l ?_ h2 e2) λenv' H' hh=>?_
 ·unfold Nh
  rw[hU];simp only;generalize R4 b a.finals [] k=q at *;obtain⟨o,k⟩:=q;simp only at h1;subst h1;rfl
 obtain⟨F,k2,u,hFl,hF,he⟩:=hh;refine I8 (he.trans zdl) ?_
 have hV:Nh a b=if W3 (R5 a b R F)<=64 then some (R5 a b R F) else none:=by
  unfold Nh;rw[hU];simp only;rw[hF]
 have hlen:lenR R:=z3c h hn (P:=λs=>s.guards.length<=9223372036854775807/\s.out.length<=9223372036854775807) (λr q w hw=>by
  have h1:=hw.g;have h2:=hw.o
  exact⟨by show (w.guards.map AR).length<=_;rw[Au];omega,by show w.out.length<=_;omega⟩) a.rules (λr hr=>hr) [] 0 R k hU (λs hs=>by cases hs)
 have hLo:PC Tryz.prog 123 [.agg [.int .i64 a.in_,.int .i64 b.out,.int .i64 (a.states * b.states),.int .i64 (a.start * b.states+b.start),CB R,Cv F]] (.int .i64 (W3 (R5 a b R F))):=W4 (R5 a b R F) (by show R.length<=_;omega) (by show F.length<=_;omega) hlen;generalize hLV:W3 (R5 a b R F)=LV at *;refine DK (W_T ?_);unfold lkD;have f_:=Aa ptR ptF;have e_:=hLo;refine ywD ?_;clear f_ e_;refine W_T ?_;refine ywA ?_;by_cases hL:LV<=64
 ·rw[Ae hL] at hV
  rw[Bv hL];exact⟨_,_,Ent.refl,.inl ⟨_,v,u,k2,hV,rfl,rfl⟩⟩
 ·rw[Ad hL] at hV
  rw[By hL];exact⟨_,_,Ent.refl,.inr ⟨hV,rfl,_,rfl,oc⟩⟩
abbrev zdV:AV:=.agg [.int .i64 0,.int .i64 0,.int .i64 0,.int .i64 0,.nilS,.nilS]
abbrev lkZ(a b:Desc)(x y:AV):AV:=.agg [.int .i64 a.in_,.int .i64 a.out,.int .i64 a.states,.int .i64 a.start,CB a.rules,Cv a.finals,.int .i64 b.in_,.int .i64 b.out,.int .i64 b.states,.int .i64 b.start,CB b.rules,Cv b.finals,x,y,
 .int .i64 0,.int .i64 0,.int .i64 0,.int .i64 0,.nilS,.nilS,.int .i64 0]
def cgL(a b:Desc)(x y:AV)(T1 T2:Grp):List Grp:=[⟨6,1,true,[C6 a]⟩,⟨6,1,true,[C6 b]⟩,⟨6,1,true,[zdV]⟩,⟨21,1,true,[lkZ a b x y]⟩,T1,T2]
theorem NT{a b:Desc}{x y:AV}{T1 T2:Grp}{m:Nat}(hm:6<=m)(hx:ltV m x)(hy:ltV m y)(h1:ltL m T1.xs)(h2:ltL m T2.xs){R:List Grp}(hR:∀X∈R,ltL m X.xs):∀X∈cgL a b x y T1 T2++R,ltL m X.xs:=λX hX=>by
 have r1:ltV m (CB a.rules):=AL _ _ (BJ _);have r2:ltV m (CB b.rules):=AL _ _ (BJ _);have f1:ltV m (Cv a.finals):=AL _ _ (BD _);have f2:ltV m (Cv b.finals):=AL _ _ (BD _);rcases Av.1 hX with hX|hX
 ·simp only[cgL,Af,An,A7] at hX
  rcases hX with rfl|rfl|rfl|rfl|rfl|rfl
  ·exact⟨⟨oy,oy,oy,oy,r1,f1,oy⟩,oy⟩
  ·exact⟨⟨oy,oy,oy,oy,r2,f2,oy⟩,oy⟩
  ·exact⟨⟨oy,oy,oy,oy,oy,oy,oy⟩,oy⟩
  ·exact⟨⟨oy,oy,oy,oy,r1,f1,oy,oy,oy,oy,r2,f2,hx,hy,oy,oy,oy,oy,oy,oy,oy,oy⟩,oy⟩
  ·exact h1
  ·exact h2
 ·exact hR X hX
def frmK(b:Desc)(k s:Nat):List Rule:=(b.rules.take k).filter λr=>decide (r.from_=(s:Int))
theorem zdm{b:Desc}{k i:Nat}(hk:k<b.rules.length)(hi:(nth b.rules k).from_=i):frmK b (k+1)=setD (frmK b k) i (frmK b k i++[nth b.rules k]):=by
 funext s;simp only[frmK,take_at hk,BZ,BV,List.filter_nil,hi,Ah,setD];by_cases e:s=i
 ·subst e;simp
 ·rw[Ad om,Ad e,Ax]
def cgR(a b:Desc)(n k:Nat)(V:Nat->Nat):List Grp:=cgL a b (.ref 4 1 0 n) (.ref 5 1 0 n) ⟨1,1,true,fT 6 n V (frmK b k)⟩ ⟨1,1,true,List.replicate n .nilS⟩++fF 5 DD n V (frmK b k)
theorem Ro(a b:Desc)(n k:Nat)(V:Nat->Nat):(cgR a b n k V).length=n+6:=by simp[cgR,cgL,Ha]
theorem Tl(r:Rule):(DD r).pure=true:=by simp[DD,AV.pure,AJ,B0,Cy]
theorem NU(a b:Desc)(n k:Nat)(V:Nat->Nat):∀X∈cgR a b n k V,ltL (cgR a b n k V).length X.xs:=by
 rw[Ro];exact NT om (show 4<_ by omega) (show 5<_ by omega) (WB (Ab _)) (BU _ _ (Bz.2 λx hx=>by rw[(List.mem_replicate.1 hx).2];rfl)) (O7 Tl)
theorem z3d(a b:Desc)(n k:Nat)(V:Nat->Nat):Abs.hl (cgR a b n k V)=Abs.hl (⟨6,1,true,[C6 a]⟩::⟨6,1,true,[C6 b]⟩::⟨6,1,true,[zdV]⟩::⟨21,1,true,[lkZ a b (.ref 4 1 0 n) (.ref 5 1 0 n)]⟩::⟨1,1,true,fT 6 n V (frmK b k)⟩::⟨1,1,true,List.replicate n .nilS⟩::fF 5 DD n V (frmK b k)):=rfl
set_option maxHeartbeats 8000000 in
theorem zjl{a b:Desc}{n:Nat}(hn:b.states=n)(hn2:n<=1024)(hrl:b.rules.length<=4096)(hr:∀r∈b.rules,0<=r.from_/\r.from_<n){Q:Ex->Env->A4->Prop}:
 T Tryz.prog 151 0 (hdC (tlC 3 JO)) (BO [(3,.ptr 0 1 0 0),(4,.ptr 1 1 0 0),(6,.ptr 2 1 0 0),(8,.ptr 3 1 0 0)]) (Abs.hl (cgL a b (.ref 4 1 0 n) (.ref 5 1 0 n) ⟨1,1,true,List.replicate n .nilS⟩ ⟨1,1,true,List.replicate n .nilS⟩))
  (Ex.then (λenv' H'=>∃V,Ent 151 0 env' H' (BO [(3,.ptr 0 1 0 0),(4,.ptr 1 1 0 0),(6,.ptr 2 1 0 0),(8,.ptr 3 1 0 0)]) (Abs.hl (cgR a b n b.rules.length V))) Q):=by
 refine I8 (U0 (α:=Rule) (w:=5) (e:=DD) (n:=n) (t:=4) ox (by simp[cgL]) rfl) ?_;refine DK (DR (H:=_) (H':=Abs.hl (cgR a b n 0 λ_=>1)) ?_ (DR (z3d _ _ _ _ _) (W_T ?_)))
 ·rfl
 refine ywA ?_;refine W_T ?_
 refine Ba (D6 (λ(q:Nat × (Nat->Nat))=>q.1<=b.rules.length) (λq=>b.rules.length-q.1)
  (λq=>BO [(3,.ptr 0 1 0 0),(4,.ptr 1 1 0 0),(6,.ptr 2 1 0 0),(8,.ptr 3 1 0 0),(71,CB b.rules),(72,.int .i64 b.rules.length),(73,.int .i64 q.1)]) (λq=>Abs.hl (cgR a b n q.1 q.2)) (0,λ_=>1) oc ?_ ?_)
 ·refine B3 (l0:=cgR a b n 0 λ_=>1) (gar:=[]) _ (by rw[Ax];rfl) (Ap _) (NU _ _ _ _ _) ?_
  rw[Ro];exact⟨rfl,(show 0<_ by omega),rfl,(show 1<_ by omega),rfl,(show 2<_ by omega),rfl,(show 3<_ by omega),rfl,oy,rfl,oy,rfl,oy,oy⟩
 rintro⟨k,V⟩ hk;simp only at hk ⊢;rcases Aj k b.rules.length with hkl|hkl
 ·have hr0:=hr _ (Bi hkl)
  have hsu:=λi=>zdm (b:=b) (i:=i) hkl;generalize hre:nth b.rules k=r at *;obtain⟨i,hi⟩:∃i:Nat,r.from_=i:=⟨r.from_.toNat,om⟩;have hin:i<n:=om
  obtain⟨D,hD⟩:∃D,D=frmK b k:=⟨_,rfl⟩;have hFl:(fF 5 DD n V D).length=n:=Ha;have hTl:(fT 6 n V D).length=n:=W9;have gI:∀G,(fF 5 DD n V D++[G]).getD i default=gG 5 DD (V i) (D i):=λG=>by rw[SO hFl hin];exact OH hin
  have gR:∀G,(fF 5 DD n V D++[G]).getD n default=G:=λG=>by rw[IT hFl];rfl
  have sR:∀G G',setQ (fF 5 DD n V D++[G]) n G'=some (fF 5 DD n V D++[G']):=λG G'=>by rw[KC _ _ hFl];rfl
  have tI:(fT 6 n V D).getD i .any=.ref (i+6) (V i) 0 (D i).length:=zbo hin;have sI:∀G G',setQ (fF 5 DD n V D++[G]) i G'=some ((fF 5 DD n V D).set i G'++[G]):=λG G'=>NL om;have gR2:∀G G',((fF 5 DD n V D).set i G'++[G]).getD n default=G:=λG G'=>by rw[IT (by rw[C3];exact hFl)];rfl
  have hSB:∀R G,Cw 6 [i+6] (fF 5 DD n V D++[R]) ((fF 5 DD n V D).set i G++[R]):=λR G=>Ph om (by simp;omega);have hEx:=YM (e:=DD) (D i);have hel:(D i).length<=k:=by rw[hD];exact Bl (Bg _ _) (by rw[Bb];omega)
  have eT:(fT 6 n V D).set i (.ref (i+6) (V i+1) 0 ((D i).length+1))=fT 6 n (setV V i (V i+1)) (setD D i (D i++[r])):=by
   have:=WA (o:=6) (V:=V) (D:=D) (l:=D i++[r]) hin
   rwa [Ai] at this
  have eF:(fF 5 DD n V D).set i ⟨5,V i+1,false,(D i).map DD++[DD r]⟩=fF 5 DD n (setV V i (V i+1)) (setD D i (D i++[r])):=by
   have:=SN (V:=V) (D:=D) (w:=5) (e:=DD) (l:=D i++[r]) oc hin;rw[Aw] at this;exact this
  have hsu:=hsu i hi;rw[<-hD] at hsu;rw[z3d,<-hD];have hni:¬n=i:=om
  simp only[gG] at gI;refine W_T ?_;(with_reducible repeat'(first|simp(disch:=omega)only[push_cast,↓zz,seval,xx,Af,An,A7,BC,Ch,AT,Co,Cn,hre,hi,hFl,hTl,gI,gR,sR,tI,sI,gR2,hEx,hni]|refine sp_ ?_ ?_<;>try(intro hc;push_cast at hc)|refine Gr [i+6] ?_|omega|intro _))
  ·exact hSB _ _
  have hrv:AV.agg [.int .i64 i,.int .i64 r.to_,AQ r.guards,.int .i64 r.eat,C5 r.out]=DD r:=by rw[<-hi]
  refine⟨(k+1,setV V i (V i+1)),B3 (l0:=cgR a b n (k+1) (setV V i (V i+1))) (gar:=[⟨5,1,true,[DD r]⟩]) _ ?_ (Ap _) (NU _ _ _ _ _) ?_,by simp only;omega,by simp only;omega⟩
  ·rw[cgR,cgL,hsu,<-eT,<-eF,hrv];rfl
  ·rw[Ro]
   exact⟨rfl,(show 0<_ by omega),rfl,(show 1<_ by omega),rfl,(show 2<_ by omega),rfl,(show 3<_ by omega),rfl,oy,rfl,oy,rfl,oy,oy⟩
 ·obtain rfl:k=b.rules.length:=om
  refine DR (z3d _ _ _ _ _) (W_T ?_);refine ywA ?_;refine⟨V,B3 (l0:=cgR a b n b.rules.length V) (gar:=[]) _ (by rw[Ax];rfl) (Ap _) (NU _ _ _ _ _) ?_⟩;rw[Ro];exact⟨rfl,(show 0<_ by omega),rfl,(show 1<_ by omega),rfl,(show 2<_ by omega),rfl,(show 3<_ by omega),oy⟩
def frmF(b:Desc)(k s:Nat):List DO:=(b.finals.take k).filter λr=>decide (r.from_=(s:Int))
theorem zdn{b:Desc}{k i:Nat}(hk:k<b.finals.length)(hi:(nth b.finals k).from_=i):frmF b (k+1)=setD (frmF b k) i (frmF b k i++[nth b.finals k]):=by
 funext s;simp only[frmF,take_at hk,BZ,BV,List.filter_nil,hi,Ah,setD];by_cases e:s=i
 ·subst e;simp
 ·rw[Ad om,Ad e,Ax]
def cgF(a b:Desc)(n k:Nat)(V:Nat->Nat):List Grp:=cgL a b (Kk b n) (.ref 5 1 0 n) ⟨0,2,false,[]⟩ ⟨1,1,true,fT 6 n V (frmF b k)⟩++fF 3 CY n V (frmF b k)
theorem Rp(a b:Desc)(n k:Nat)(V:Nat->Nat):(cgF a b n k V).length=n+6:=by simp[cgF,cgL,Ha]
theorem Rq(f:DO):(CY f).pure=true:=by simp[CY,AV.pure,AJ,B0,Cy]
theorem NV(a b:Desc)(n k:Nat)(V:Nat->Nat):∀X∈cgF a b n k V,ltL (cgF a b n k V).length X.xs:=by
 rw[Rp];exact NT (x:=Kk b n) (T1:=⟨0,2,false,[]⟩) om trivial (show 5<_ by omega) trivial (WB (Ab _)) (O7 Rq)
theorem z3e(a b:Desc)(n k:Nat)(V:Nat->Nat):Abs.hl (cgF a b n k V)=Abs.hl (⟨6,1,true,[C6 a]⟩::⟨6,1,true,[C6 b]⟩::⟨6,1,true,[zdV]⟩::⟨21,1,true,[lkZ a b (Kk b n) (.ref 5 1 0 n)]⟩::⟨0,2,false,[]⟩::⟨1,1,true,fT 6 n V (frmF b k)⟩::fF 3 CY n V (frmF b k)):=rfl
set_option maxHeartbeats 8000000 in
theorem zdo{a b:Desc}{n:Nat}(hn:b.states=n)(hn2:n<=1024)(hrl:b.finals.length<=4096)(hr:∀r∈b.finals,0<=r.from_/\r.from_<n){Q:Ex->Env->A4->Prop}:
 T Tryz.prog 151 0 (hdC (tlC 4 JO)) (BO [(3,.ptr 0 1 0 0),(4,.ptr 1 1 0 0),(6,.ptr 2 1 0 0),(8,.ptr 3 1 0 0)]) (Abs.hl (cgL a b (Kk b n) (.ref 5 1 0 n) ⟨0,2,false,[]⟩ ⟨1,1,true,List.replicate n .nilS⟩))
  (Ex.then (λenv' H'=>∃V,Ent 151 0 env' H' (BO [(3,.ptr 0 1 0 0),(4,.ptr 1 1 0 0),(6,.ptr 2 1 0 0),(8,.ptr 3 1 0 0)]) (Abs.hl (cgF a b n b.finals.length V))) Q):=by
 have ptR:=HO b n;refine I8 (U0 (α:=DO) (w:=3) (e:=CY) (n:=n) (t:=5) ox (by simp[cgL]) rfl) ?_;refine DK (DR (H:=_) (H':=Abs.hl (cgF a b n 0 λ_=>1)) ?_ (DR (z3e _ _ _ _ _) (W_T ?_)))
 ·rfl
 refine ywA ?_;refine W_T ?_
 refine Ba (D6 (λ(q:Nat × (Nat->Nat))=>q.1<=b.finals.length) (λq=>b.finals.length-q.1)
  (λq=>BO [(3,.ptr 0 1 0 0),(4,.ptr 1 1 0 0),(6,.ptr 2 1 0 0),(8,.ptr 3 1 0 0),(97,Cv b.finals),(98,.int .i64 b.finals.length),(99,.int .i64 q.1)]) (λq=>Abs.hl (cgF a b n q.1 q.2)) (0,λ_=>1) oc ?_ ?_)
 ·refine B3 (l0:=cgF a b n 0 λ_=>1) (gar:=[]) _ (by rw[Ax];rfl) (Ap _) (NV _ _ _ _ _) ?_
  rw[Rp];exact⟨rfl,(show 0<_ by omega),rfl,(show 1<_ by omega),rfl,(show 2<_ by omega),rfl,(show 3<_ by omega),rfl,oy,rfl,oy,rfl,oy,oy⟩
 rintro⟨k,V⟩ hk;simp only at hk ⊢;rcases Aj k b.finals.length with hkl|hkl
 ·have hr0:=hr _ (Bi hkl)
  have hsu:=λi=>zdn (b:=b) (i:=i) hkl;generalize hre:nth b.finals k=r at *;obtain⟨i,hi⟩:∃i:Nat,r.from_=i:=⟨r.from_.toNat,om⟩;have hin:i<n:=om
  obtain⟨D,hD⟩:∃D,D=frmF b k:=⟨_,rfl⟩;have hFl:(fF 3 CY n V D).length=n:=Ha;have hTl:(fT 6 n V D).length=n:=W9;have gI:∀G,(fF 3 CY n V D++[G]).getD i default=gG 3 CY (V i) (D i):=λG=>by rw[SO hFl hin];exact OH hin
  have gR:∀G,(fF 3 CY n V D++[G]).getD n default=G:=λG=>by rw[IT hFl];rfl
  have sR:∀G G',setQ (fF 3 CY n V D++[G]) n G'=some (fF 3 CY n V D++[G']):=λG G'=>by rw[KC _ _ hFl];rfl
  have tI:(fT 6 n V D).getD i .any=.ref (i+6) (V i) 0 (D i).length:=zbo hin;have sI:∀G G',setQ (fF 3 CY n V D++[G]) i G'=some ((fF 3 CY n V D).set i G'++[G]):=λG G'=>NL om;have gR2:∀G G',((fF 3 CY n V D).set i G'++[G]).getD n default=G:=λG G'=>by rw[IT (by rw[C3];exact hFl)];rfl
  have hSB:∀R G,Cw 6 [i+6] (fF 3 CY n V D++[R]) ((fF 3 CY n V D).set i G++[R]):=λR G=>Ph om (by simp;omega);have hEx:=YM (e:=CY) (D i);have hel:(D i).length<=k:=by rw[hD];exact Bl (Bg _ _) (by rw[Bb];omega)
  have eT:(fT 6 n V D).set i (.ref (i+6) (V i+1) 0 ((D i).length+1))=fT 6 n (setV V i (V i+1)) (setD D i (D i++[r])):=by
   have:=WA (o:=6) (V:=V) (D:=D) (l:=D i++[r]) hin
   rwa [Ai] at this
  have eF:(fF 3 CY n V D).set i ⟨3,V i+1,false,(D i).map CY++[CY r]⟩=fF 3 CY n (setV V i (V i+1)) (setD D i (D i++[r])):=by
   have:=SN (V:=V) (D:=D) (w:=3) (e:=CY) (l:=D i++[r]) oc hin;rw[Aw] at this;exact this
  have hsu:=hsu i hi;rw[<-hD] at hsu;rw[z3e,<-hD];have hni:¬n=i:=om
  simp only[gG] at gI;refine W_T ?_;(with_reducible repeat'(first|simp(disch:=omega)only[push_cast,↓zz,seval,xx,Af,An,A7,BC,Ch,AT,Co,Cn,ptR,hre,hi,hFl,hTl,gI,gR,sR,tI,sI,gR2,hEx,hni]|refine sp_ ?_ ?_<;>try(intro hc;push_cast at hc)|refine Gr [i+6] ?_|omega|intro _))
  ·exact hSB _ _
  have hrv:AV.agg [.int .i64 i,AQ r.guards,C5 r.out]=CY r:=by rw[<-hi]
  refine⟨(k+1,setV V i (V i+1)),B3 (l0:=cgF a b n (k+1) (setV V i (V i+1))) (gar:=[⟨3,1,true,[CY r]⟩]) _ ?_ (Ap _) (NV _ _ _ _ _) ?_,by simp only;omega,by simp only;omega⟩
  ·rw[cgF,cgL,hsu,<-eT,<-eF,hrv];rfl
  ·rw[Rp]
   exact⟨rfl,(show 0<_ by omega),rfl,(show 1<_ by omega),rfl,(show 2<_ by omega),rfl,(show 3<_ by omega),rfl,oy,rfl,oy,rfl,oy,oy⟩
 ·obtain rfl:k=b.finals.length:=om
  refine DR (z3e _ _ _ _ _) (W_T ?_);refine ywA ?_;refine⟨V,B3 (l0:=cgF a b n b.finals.length V) (gar:=[]) _ (by rw[Ax];rfl) (Ap _) (NV _ _ _ _ _) ?_⟩;rw[Rp];exact⟨rfl,(show 0<_ by omega),rfl,(show 1<_ by omega),rfl,(show 2<_ by omega),rfl,(show 3<_ by omega),oy⟩
theorem zjm(b:Desc)(n:Nat):fD 5 DD n (frmK b b.rules.length)=(tabR b n).map CB:=by
 rw[fD,tabR,BP];refine A6 λi _=>?_;show AV.lst 5 _=AV.lst 5 _;rw[frmK,As];rfl
theorem zjn(b:Desc)(n:Nat):fD 3 CY n (frmF b b.finals.length)=(tabF b n).map Cv:=by
 rw[fD,tabF,BP];refine A6 λi _=>?_;show AV.lst 3 _=AV.lst 3 _;rw[frmF,As];rfl
theorem z72{m:Nat}{env:Env}{a b:Desc}{n:Nat}{V:Nat->Nat}(L:List (Nat × AV))(hL:IF 6 env L):
 Ent m 0 env (Abs.hl (cgR a b n b.rules.length V)) (BO L) (Abs.hl (cgL a b (Kk b n) (.ref 5 1 0 n) ⟨0,2,false,[]⟩ ⟨1,1,true,List.replicate n .nilS⟩)):=by
 have h1:(Abs.hl (cgR a b n b.rules.length V)).at_ 4=⟨1,1,true,fT 6 n V (frmK b b.rules.length)⟩:=rfl
 have h2:∀i,i<n->(Abs.hl (cgR a b n b.rules.length V)).at_ (i+6)=gG 5 DD (V i) (frmK b b.rules.length i):=λi hi=>by
  rw[z3d,Da];simp only[BK];exact OH hi
 obtain⟨f1,f2⟩:=QJ (w:=5) (e:=DD) ox Tl h1 h2;rw[zjm] at f2;have n0:∀j,j<6->j≠4->j∉fKs 4 6 n:=λj hj hne=>Jd hne om;have m5:(4:Nat)∈fKs 4 6 n:=by simp[fKs]
 have hF:Ec 6 (fKs 4 6 n) (fF 5 DD n V (frmK b b.rules.length))=(fF 5 DD n V (frmK b b.rules.length)).map Grp.dead:=MZ λj hj=>by
  rw[Ha] at hj;rw[BX];exact QI hj
 have h3:=Gw (n:=m) (b:=0) (env:=env) (l:=cgR a b n b.rules.length V) (l':=cgL a b (Kk b n) (.ref 5 1 0 n) ⟨0,2,false,[]⟩ ⟨1,1,true,List.replicate n .nilS⟩++(fF 5 DD n V (frmK b b.rules.length)).map Grp.dead) (g:=3) (w:=21) (v:=1) (d:=2) (ex:=true) (xs:=[lkZ a b (.ref 4 1 0 n) (.ref 5 1 0 n)]) (ys:=[lkZ a b (Kk b n) (.ref 5 1 0 n)]) (fKs 4 6 n) ox (by rw[Ro];omega) rfl (n0 3 ox ox)
  ⟨_,[],rfl,.inr ⟨_,_,rfl,rfl,_,_,rfl,.inl rfl,_,_,rfl,.inl rfl,_,_,rfl,.inl rfl,_,_,rfl,.inl rfl,_,_,rfl,.inl rfl,_,_,rfl,.inl rfl,_,_,rfl,.inl rfl,_,_,rfl,.inl rfl,_,_,rfl,.inl rfl,_,_,rfl,.inl rfl,_,_,rfl,.inl rfl,_,_,rfl,.inl rfl,
   _,_,rfl,.inr ⟨f1,f2.symm⟩,_,_,rfl,.inl rfl,_,_,rfl,.inl rfl,_,_,rfl,.inl rfl,_,_,rfl,.inl rfl,_,_,rfl,.inl rfl,_,_,rfl,.inl rfl,_,_,rfl,.inl rfl,_,_,rfl,.inl rfl,rfl⟩,rfl⟩ (by
   rw[cgR,cgL,List.cons_append,List.cons_append,List.cons_append,List.cons_append,List.cons_append,List.cons_append,List.nil_append,CM,CM,CM,CM,CM,CM,Ad (n0 0 ox ox),Ad (n0 1 ox ox),Ad (n0 2 ox ox),Ad (n0 3 ox ox),Ae m5,Ad (n0 5 ox ox),hF]
   rfl)
 exact h3.trans (B3 (l0:=cgL a b (Kk b n) (.ref 5 1 0 n) ⟨0,2,false,[]⟩ ⟨1,1,true,List.replicate n .nilS⟩) L rfl (Ap _) (λX hX=>NT (x:=Kk b n) (y:=.ref 5 1 0 n) (T1:=⟨0,2,false,[]⟩) (T2:=⟨1,1,true,List.replicate n .nilS⟩) (m:=6) (R:=[]) om trivial (show 5<6 by omega) trivial (BU _ _ (Bz.2 λx hx=>by rw[(List.mem_replicate.1 hx).2];rfl)) (λ_ h=>by cases h) X (by rw[Ax];exact hX)) hL)
theorem z73{m:Nat}{env:Env}{a b:Desc}{n:Nat}{V:Nat->Nat}(L:List (Nat × AV))(hL:IF 4 env L):
 Ent m 0 env (Abs.hl (cgF a b n b.finals.length V)) (BO L) (Abs.hl [⟨6,1,true,[C6 a]⟩,⟨6,1,true,[C6 b]⟩,⟨6,1,true,[zdV]⟩,⟨21,1,true,[lkZ a b (Kk b n) (Xy b n)]⟩]):=by
 have h1:(Abs.hl (cgF a b n b.finals.length V)).at_ 5=⟨1,1,true,fT 6 n V (frmF b b.finals.length)⟩:=rfl
 have h2:∀i,i<n->(Abs.hl (cgF a b n b.finals.length V)).at_ (i+6)=gG 3 CY (V i) (frmF b b.finals.length i):=λi hi=>by
  rw[z3e,Da];simp only[BK];exact OH hi
 obtain⟨f1,f2⟩:=QJ (w:=3) (e:=CY) ox Rq h1 h2;rw[zjn] at f2;have n0:∀j,j<6->j≠5->j∉fKs 5 6 n:=λj hj hne=>Jd hne om;have m5:(5:Nat)∈fKs 5 6 n:=by simp[fKs]
 have hF:Ec 6 (fKs 5 6 n) (fF 3 CY n V (frmF b b.finals.length))=(fF 3 CY n V (frmF b b.finals.length)).map Grp.dead:=MZ λj hj=>by
  rw[Ha] at hj;rw[BX];exact QI hj
 have h3:=Gw (n:=m) (b:=0) (env:=env) (l:=cgF a b n b.finals.length V) (l':=[⟨6,1,true,[C6 a]⟩,⟨6,1,true,[C6 b]⟩,⟨6,1,true,[zdV]⟩,⟨21,1,true,[lkZ a b (Kk b n) (Xy b n)]⟩]++(⟨0,2,false,[]⟩::⟨0,2,false,[]⟩::(fF 3 CY n V (frmF b b.finals.length)).map Grp.dead)) (g:=3) (w:=21) (v:=1) (d:=2) (ex:=true) (xs:=[lkZ a b (Kk b n) (.ref 5 1 0 n)]) (ys:=[lkZ a b (Kk b n) (Xy b n)]) (fKs 5 6 n) ox (by rw[Rp];omega) rfl (n0 3 ox ox)
  ⟨_,[],rfl,.inr ⟨_,_,rfl,rfl,_,_,rfl,.inl rfl,_,_,rfl,.inl rfl,_,_,rfl,.inl rfl,_,_,rfl,.inl rfl,_,_,rfl,.inl rfl,_,_,rfl,.inl rfl,_,_,rfl,.inl rfl,_,_,rfl,.inl rfl,_,_,rfl,.inl rfl,_,_,rfl,.inl rfl,_,_,rfl,.inl rfl,_,_,rfl,.inl rfl,
   _,_,rfl,.inl rfl,_,_,rfl,.inr ⟨f1,f2.symm⟩,_,_,rfl,.inl rfl,_,_,rfl,.inl rfl,_,_,rfl,.inl rfl,_,_,rfl,.inl rfl,_,_,rfl,.inl rfl,_,_,rfl,.inl rfl,_,_,rfl,.inl rfl,rfl⟩,rfl⟩ (by
   rw[cgF,cgL,List.cons_append,List.cons_append,List.cons_append,List.cons_append,List.cons_append,List.cons_append,List.nil_append,CM,CM,CM,CM,CM,CM,Ad (n0 0 ox ox),Ad (n0 1 ox ox),Ad (n0 2 ox ox),Ad (n0 3 ox ox),Ad (n0 4 ox ox),Ae m5,hF]
   rfl)
 refine h3.trans (B3 (l0:=[⟨6,1,true,[C6 a]⟩,⟨6,1,true,[C6 b]⟩,⟨6,1,true,[zdV]⟩,⟨21,1,true,[lkZ a b (Kk b n) (Xy b n)]⟩]) L rfl (Ap _) (λX hX=>?_) hL);have pra:=BJ a.rules;have pfa:=BD a.finals;have prb:=BJ b.rules;have pfb:=BD b.finals;have ptR:=HO b n;have ptF:=IG b n;simp only[Af,An,A7] at hX;rcases hX with rfl|rfl|rfl|rfl
 all_goals exact BU _ _ (by simp[AJ,AV.pure,C6,pra,pfa,prb,pfb,ptR,ptF])
def zeroD:Desc:=⟨0,0,0,0,[],[]⟩
noncomputable def LA (a b:Desc) (m:Int):Int × Option Desc :=
 if FB a≠0\/FB b≠0\/a.out≠2\/b.in_≠2 then (2,none)
 else if z5m a=false\/oneV b=false then (1,none)
 else if 1024<a.states * b.states then (4,none)
 else if m<a.states * b.states then (3,none)
 else match Nh a b with
  |none=>(4,none)
  |some c=>(0,some c)
abbrev Tm(q:Int × Option Desc):AV:=.tup [C6 (q.2.getD zeroD),.int .i64 q.1]
set_option maxHeartbeats 8000000 in
theorem Zv(a b:Desc)(m:Int)(fa:K8 a)(fb:K8 b)(hra:a.rules.length<=1000000000000)(hrb:b.rules.length<=1000000000000)(hfb:b.finals.length<=1000000000000):
 PC Tryz.prog 36 [C6 a,C6 b,.int .i64 m] (Tm (LA a b m)):=by
 have pra:=BJ a.rules;have pfa:=BD a.finals;have prb:=BJ b.rules;have pfb:=BD b.finals;have pa:(C6 a).pure=true:=by simp[C6,AV.pure,AJ,pra,pfa]
 have pb:(C6 b).pure=true:=by simp[C6,AV.pure,AJ,prb,pfb]
 have hCa:=NG a fa;have hCb:=NG b fb;have hFr:=zbe a om;have hOn:=Xj b om om;generalize hRV:LA a b m=RV
 have h:B9 Tryz.prog 36 [C6 a,C6 b,.int .i64 m] (Abs.hl []) λy H'=>y=Tm RV/\H'=Abs.hl []:=by
  have fin:∀(e:Int)(l:List Grp),RV=(e,none)->∃y' H'',Ent 1 0 (λ_=>AV.tup [.agg [.int .i64 0,.int .i64 0,.int .i64 0,.int .i64 0,.nilS,.nilS],.int .i64 e]) (Abs.hl l) (λ_=>y') H''/\y'=Tm RV/\H''=Abs.hl []:=λe l he=>by
   subst he;refine⟨Tm (e,none),_,Lm rfl ?_,rfl,rfl⟩;exact⟨⟨Bn _ _,Bn _ _,Bn _ _,Bn _ _,⟨ox,rfl⟩,⟨ox,rfl⟩,rfl⟩,Bn _ _,rfl⟩
  have hw:FB a=0->FB b=0->IntKind.i64.wrap (a.states * b.states)=a.states * b.states:=λh1 h2=>by
   obtain⟨n1,q1,q2,q3⟩:=(NJ h1).n;obtain⟨n2,r1,r2,r3⟩:=(NJ h2).n;have:=X4 (x:=a.states) (y:=b.states) om om;exact IntWalk.i64_in _ om
  refine EU (IK TE (DK (W_T ?_)));refine ywA ?_;refine DK (W_T ?_);(with_reducible repeat'(first|simp(disch:=omega)only[push_cast,↓zz,seval]|refine sp_ ?_ ?_<;>try(intro hc;push_cast at hc)|refine ee hCa ?_|refine ee hCb ?_|refine ee hFr ?_|refine ee hOn ?_|((first|refine cc hCa ?_|refine cc hCb ?_|refine cc hFr ?_|refine cc hOn ?_);simp(disch:=omega)only[push_cast,↓zz,seval];fail_if_success change False)|omega|intro _))
  all_goals try rw[hw (by assumption) (by assumption)] at hc
  all_goals try (have hc':=‹¬1024<IntKind.i64.wrap (a.states * b.states)›;rw[hw (by assumption) (by assumption)] at hc')
  all_goals first
   |exact fin _ _ (by rw[<-hRV,LA,Ae (by first|exact .inl (by assumption)|exact .inr (.inl (by assumption))|exact .inr (.inr (.inl (by assumption)))|exact .inr (.inr (.inr (by assumption))))])
   |exact fin _ _ (by rw[<-hRV,LA,Ad (by simp[*]),Ae (by first|exact .inl (by assumption)|exact .inr (by assumption))])
   |exact fin _ _ (by rw[<-hRV,LA,Ad (by simp[*]),Ad (by simp[*]),Ae (by assumption)])
   |exact fin _ _ (by rw[<-hRV,LA,Ad (by simp[*]),Ad (by simp[*]),Ad (by assumption),Ae (by assumption)])
   |skip
  have hT:Two a b:=⟨by assumption,by assumption,by assumption,by assumption,by assumption,by assumption⟩;obtain⟨n,hn,hn1,hn2⟩:=(NJ hT.cb).n
  have hV:RV=match Nh a b with|none=>(4,none)|some c=>(0,some c):=by
   rw[<-hRV,LA,Ad (by simp[*]),Ad (by simp[*]),Ad (by assumption),Ad (by assumption)]
  refine DK (W_T ?_);refine ywA ?_;refine za2 [3,4,5] [1,1,21] [none,none,none,none,some 3,none,none,some 4,none,some 5,none] oc ox ?_;have hnt:b.states.toNat=n:=om
  (with_reducible repeat'(first|simp(disch:=omega)only[push_cast,↓zz,seval,yy,Af,An,A7,BC,Ch,AT,Co,Cn,hnt]|refine sp_ ?_ ?_<;>try(intro hc;push_cast at hc)|omega|intro _))
  refine PH (srcs:=[.grp 0,.grp 1,.grp 2,.grp 5,.grp 3,.grp 4]) (live:=[(3,.ptr 0 1 0 0),(4,.ptr 1 1 0 0),(6,.ptr 2 1 0 0),(8,.ptr 3 1 0 0)])
   (heap:=[⟨6,1,true,[C6 a]⟩,⟨6,1,true,[C6 b]⟩,⟨6,1,true,[.agg [.int .i64 0,.int .i64 0,.int .i64 0,.int .i64 0,.nilS,.nilS]]⟩,⟨21,1,true,[lkZ a b (.ref 4 1 0 n) (.ref 5 1 0 n)]⟩,⟨1,1,true,List.replicate n .nilS⟩,⟨1,1,true,List.replicate n .nilS⟩]) ?_ ?_
  ·have pN:AJ (List.replicate n AV.nilS)=true:=Bz.2 λx hx=>by rw[(List.mem_replicate.1 hx).2];rfl
   have f_:=Aa pa (Aa pb pN);exact gwB
  have hwb:=NJ hT.cb;have hrl:=hwb.rl;have hfl:=hwb.fl;have ptR:=HO b n;have ptF:=IG b n;refine Nk (zjl hn om hrl λr hr=>by have:=(hwb.r r hr).1;omega) λenv' H' hh=>?_;obtain⟨V,he⟩:=hh;refine I8 (he.trans (z72 [(3,.ptr 0 1 0 0),(4,.ptr 1 1 0 0),(6,.ptr 2 1 0 0),(8,.ptr 3 1 0 0)] ⟨rfl,(show 0<6 by omega),rfl,(show 1<6 by omega),rfl,(show 2<6 by omega),rfl,(show 3<6 by omega),oy⟩)) ?_;clear he;refine Nk (zdo hn om hfl λr hr=>by have:=hwb.f r hr;omega) λenv' H' hh=>?_;obtain⟨V,he⟩:=hh;refine I8 (he.trans (z73 [(3,.ptr 0 1 0 0),(4,.ptr 1 1 0 0),(6,.ptr 2 1 0 0),(8,.ptr 3 1 0 0)] ⟨rfl,(show 0<4 by omega),rfl,(show 1<4 by omega),rfl,(show 2<4 by omega),rfl,(show 3<4 by omega),oy⟩)) ?_;clear he;have hs1:=(NJ hT.ca).start;have hs2:=hwb.start;obtain⟨na,hna,hna1,hna2⟩:=(NJ hT.ca).n;have hb1:=X4 (x:=a.start) (y:=b.states) om om;have hw1:=hw hT.ca hT.cb;have hw2:IntKind.i64.wrap (a.start * b.states)=a.start * b.states:=IntWalk.i64_in _ om;have hw3:IntKind.i64.wrap (a.start * b.states+b.start)=a.start * b.states+b.start:=IntWalk.i64_in _ om;refine KN [(6,.ptr 2 1 0 0),(8,.ptr 3 1 0 0)] (Abs.hl [⟨6,1,true,[C6 a]⟩,⟨6,1,true,[C6 b]⟩,⟨6,1,true,[zdV]⟩,⟨21,1,true,[zjk a b n (.ref 4 1 0 0) (.ref 5 1 0 0) 0]⟩,⟨5,1,false,[]⟩,⟨3,1,false,[]⟩]) (W_T ?_) ?_
  ·(with_reducible repeat'(first|simp(disch:=omega)only[push_cast,↓zz,seval,ptR,ptF,hw1,hw2,hw3]|refine sp_ ?_ ?_<;>try(intro hc;push_cast at hc)|omega|intro _))
   refine (Ea [(6,.ptr 2 1 0 0),(8,.ptr 3 1 0 0)] (Dq (m:=4) ⟨rfl,(show 2<4 by omega),rfl,(show 3<4 by omega),oy⟩)).trans ((Hk [5,3] oc).trans (GY ?_ λi _=>Bn _ _));refine⟨⟨rfl,rfl,id,AN _ _⟩,⟨rfl,rfl,id,AN _ _⟩,⟨rfl,rfl,id,AN _ _⟩,⟨rfl,rfl,id,?_⟩,⟨rfl,rfl,λh=>(by cases h),AN _ _⟩,⟨rfl,rfl,λh=>(by cases h),AN _ _⟩,oy⟩
   exact⟨⟨Bn _ _,Bn _ _,Bn _ _,Bn _ _,Bn _ _,Bn _ _,Bn _ _,Bn _ _,Bn _ _,Bn _ _,Bn _ _,Bn _ _,Bn _ _,Bn _ _,Bn _ _,Bn _ _,Bn _ _,Bn _ _,
    ⟨rfl,rfl,rfl,(show (0:Nat)<5 by omega),rfl,rfl,oc⟩,⟨rfl,rfl,rfl,(show (0:Nat)<3 by omega),rfl,rfl,oc⟩,Bn _ _,rfl⟩,rfl⟩
  have hLk:=Zu hT hn;unfold lkL lkH at hLk;refine DK (W_T ?_);(with_reducible repeat'(first|simp(disch:=omega)only[push_cast,↓zz,seval]|refine sp_ ?_ ?_<;>try(intro hc;push_cast at hc)|omega|intro _))
  (refine at_c [3,4,5] (hLk) ox oc (by refine⟨?_,?_,?_,?_⟩<;>(simp(disch:=omega)only[push_cast,↓zz,seval,Af,An,A7,B6,Cr,BG,pra,pfa,prb,pfb,ptR,ptF])) ?_)
  rintro y H' (⟨c,v,u,s,hc1,rfl,rfl⟩|⟨hno,rfl,l',rfl,h3⟩)
  ·have hch:∃R F,c=R5 a b R F:=by
    unfold Nh at hc1;split at hc1
    ·cases hc1
    split at hc1
    ·cases hc1
    split at hc1
    ·exact⟨_,_,(A5 hc1).symm⟩
    ·cases hc1
   obtain⟨R,F,rfl⟩:=hch;have pR:=BJ R;have pF:=BD F;refine⟨_,rfl,by simp[lkD],?_⟩;unfold lkD;(with_reducible repeat'(first|simp(disch:=omega)only[push_cast,↓zz,seval,ptR,ptF]|refine sp_ ?_ ?_<;>try(intro hc;push_cast at hc)|omega|intro _));refine DK (W_T ?_);(with_reducible repeat'(first|simp(disch:=omega)only[push_cast,↓zz,seval,ptR,ptF]|refine sp_ ?_ ?_<;>try(intro hc;push_cast at hc)|omega|intro _));refine W_T ?_;(with_reducible repeat'(first|simp(disch:=omega)only[push_cast,↓zz,seval]|refine sp_ ?_ ?_<;>try(intro hc;push_cast at hc)|omega|intro _));refine⟨Tm (0,some (R5 a b R F)),_,Lm ?_ ?_,by rw[hV,hc1],rfl⟩
   ·simp[AV.pure,AJ,R5,pR,pF]
   ·exact Bn _ _
  ·rcases l' with _|⟨x,_|⟨y,_|⟨z,r⟩⟩⟩
   ·simp at h3
   ·simp at h3
   ·simp at h3
   refine⟨_,rfl,oc,?_⟩;(with_reducible repeat'(first|simp(disch:=omega)only[push_cast,↓zz,seval]|refine sp_ ?_ ?_<;>try(intro hc;push_cast at hc)|omega|intro _));exact fin 4 _ (by rw[hV,hno])
 rw[PC,P7];exact h
section
variable {a b:Desc}{x:List Int}
end
structure Plc where
 s:Int
 a:Nat
 o:List Int
 deriving DecidableEq,Inhabited
def finOk(x:List Int)(p:Plc)(f:DO):Bool:=decide (f.from_=p.s)&&(decide (f.guards.length+p.a=x.length)&&goB x f.guards p.a)
def nxP(x:List Int)(p:Plc)(r:Rule):Plc:=⟨r.to_,p.a+r.eat.toNat,p.o++GR x r.out r.guards p.a⟩
def ruOk(x:List Int)(p:Plc)(r:Rule):Bool:=decide (r.from_=p.s)&&goB x r.guards p.a
structure BInv(d:Desc)(x:List Int)(T:List Plc)(O:List (List Int))(k:Nat):Prop where
 so:NK O
 lead:∀p∈T,W8 d x 0 d.start p.o p.a p.s
 rel:∀w∈O,RelW d x 0 d.start w
 here:⟨d.start,0,[]⟩∈T
 fin:∀i,i<k->i<T.length->∀f∈d.finals,finOk x (nth T i) f=true->(nth T i).o++GR x f.out f.guards (nth T i).a∈O
 nx:∀i,i<k->i<T.length->∀r∈d.rules,ruOk x (nth T i) r=true->nxP x (nth T i) r∈T
structure BBd(x:List Int)(T:List Plc)(O:List (List Int))(k:Nat):Prop where
 so:NK O
 tl:T.length<=1500
 kl:k<=T.length
 pa:∀p∈T,p.a<=x.length
 po:∀p∈T,p.o.length<=64 * k
 ol:O.length<=4096 * k
 ow:∀w∈O,w.length<=64 * k
section
variable {d:Desc}{x:List Int}
end
noncomputable def z3f (a b:Desc) (m:Int):Int :=
 if FB a≠0\/FB b≠0\/a.out≠2\/b.in_≠2 then 2
 else if z5m a=false\/oneV b=false then 1
 else if 1024<a.states * b.states then 4
 else if m<a.states * b.states then 3
 else 0
theorem Tn{a b:Desc}{m:Int}:z3f a b m=0↔Two a b/\a.states * b.states<=1024/\a.states * b.states<=m:=by
 unfold z3f;constructor
 ·intro h
  split at h
  ·cases h
  rename_i h1;split at h
  ·cases h
  rename_i h2;split at h
  ·cases h
  split at h
  ·cases h
  simp only[Ch,Classical.not_not,Bool.not_eq_false] at h1 h2;exact⟨⟨h1.1,h1.2.1,h1.2.2.1,h1.2.2.2,h2.1,h2.2⟩,om,om⟩
 ·rintro⟨h,h2,h3⟩
  rw[Ad (by simp[h.ca,h.cb,h.ao,h.bi]),Ad (by simp[h.fr,h.on]),Ad om,Ad om]
theorem z74{a b:Desc}{m:Int}(h:z3f a b m=0):LA a b m=match Nh a b with|none=>(4,none)|some c=>(0,some c):=by
 obtain⟨h,h2,h3⟩:=Tn.1 h;unfold LA;rw[Ad (by simp[h.ca,h.cb,h.ao,h.bi]),Ad (by simp[h.fr,h.on]),Ad om,Ad om]<;>rfl
section
variable {a b c:Desc}{x:List Int}
end
def oneD(s:Int)(out:List Int):Desc:=⟨2,2,1,0,[⟨0,0,[[⟨s,s⟩]],1,out.map conT⟩],[⟨0,[],[]⟩]⟩
theorem zdp{v i n:Int}(hv:0<=v/\v<=1114111)(hi:VQ i=true):J2 (conT v) i 2 n=true:=by
 refine Zk.2 ⟨hi,ox,?_,rfl,λ_=>by simp[conT],λ_=>by simp[conT,L3]⟩;have h1:Gq v=true:=Qq.2 om;have h2:Gq 0=true:=Qq.2 om;have h3:EJ (conT v).outer=true:=by show EJ ⟨0,0,21,0⟩=true;decide
 simp only[DN,Ac,Ah];exact⟨⟨⟨h2,h1⟩,h3⟩,rfl,by simp[conT]⟩
theorem NW{s:Int}{out:List Int}(hs:memL (domL 2) s)(hl:out.length<=64)(ho:∀v∈out,IE 2 v=true):FB (oneD s out)=0:=by
 have h2:VQ 2=true:=ox
 refine (YJ (z6n (show 0<((domL 2).length:Int) by decide) (show 0<((domL 2).length:Int) by decide) (by simp[oneD]) (by simp[oneD]) (by simp[oneD]) (by simp[oneD])) (λr hr=>?_) (λf hf=>?_) ?_).2
 ·simp only[oneD,Am] at hr
  subst hr;refine z6m (by simp[oneD]) (by simp[oneD]) (zci hs) (by simp[eatB]) (by simpa using hl) λt ht=>?_;obtain⟨v,hv,rfl⟩:=Al.1 ht;have hd:=ho v hv;exact ziz oc (zdp (Pd hd) h2) (Pd hd) hd
 ·simp only[oneD,Am] at hf
  subst hf;exact Zj (by simp[oneD]) (by simp[Fo]) oc (λt ht=>by cases ht)
 ·refine zv1 λr hr=>?_
  simp only[oneD,Am] at hr;subst hr;rfl
theorem X5{w:List Int}(hw:w.all symB=true):∀{out:List Int},(∀v∈out,0<=v/\v<=1114111)->Gv (out.map conT) w=out
 |[],_=>rfl
 |v::out,h=>by
  have hv:=h v oc;have ih:=X5 hw (out:=out) λu hu=>h u (by simp[hu]);simp only[Gv,AD,BP] at ih ⊢;rw[ih,WU hv hw,Option.getD_some,IntWalk.i32_in _ om]
theorem zjo{s:Int}{out:List Int}(hs:0<=s/\s<=1114111)(ho:∀v∈out,0<=v/\v<=1114111)(w:List Int):RelW (oneD s out) [s] 0 0 w↔w=out:=by
 have hsy:([s]:List Int).all symB=true:=by simp[symB];omega
 have hgo:goB [s] [[⟨s,s⟩]] 0=true:=by
  have h1:hasI [⟨s,s⟩] s=true:=(zpb om).2 ⟨_,Am.2 rfl,AE _,AE _⟩;simp only[goB,List.length_singleton,Ac,Ah];refine⟨om,AP.2 λj hj=>?_⟩;obtain rfl:j=0:=by simpa using hj
  exact h1
 have hend:∀v,RelW (oneD s out) [s] 1 0 v↔v=[]:=λv=>by
  rw[Pg];constructor
  ·rintro (⟨f,hf,_,_,rfl⟩|⟨r,hr,_,hgo,_⟩)
   ·simp only[oneD,Am] at hf
    subst hf;rfl
   ·simp only[oneD,Am] at hr
    subst hr;have:=L8 hgo;simp only[List.length_singleton] at this;omega
  ·rintro rfl
   exact .inl ⟨⟨0,[],[]⟩,by simp[oneD],rfl,⟨oc,by simp[goB]⟩,rfl⟩
 have hw:GR [s] (out.map conT) [[⟨s,s⟩]] 0=out:=X5 hsy ho;rw[Pg];constructor
 ·rintro (⟨f,hf,_,⟨h3,_⟩,rfl⟩|⟨r,hr,_,_,v,hv,rfl⟩)
  ·simp only[oneD,Am] at hf
   subst hf;simp at h3
  ·simp only[oneD,Am] at hr
   subst hr;rw[(hend v).1 hv,Ax];exact hw
 ·rintro rfl
  refine .inr ⟨⟨0,0,[[⟨s,s⟩]],1,w.map conT⟩,by simp[oneD],rfl,hgo,[],(hend []).2 rfl,?_⟩;rw[Ax,hw]
abbrev exA:Desc:=oneD 97 [38]
abbrev exB:Desc:=oneD 38 [38,97,109,112,59]
theorem zdq:Two exA exB:=by
 refine⟨NW ?_ ox ox,NW ?_ ox ox,rfl,rfl,ox,ox⟩
 ·exact NH.2 ox
 ·exact NH.2 ox
theorem zqp:Nh exA exB=some (oneD 97 [38,97,109,112,59]):=by decide +kernel
theorem zjp:∃c,LA exA exB 1=(0,some c)/\askV c [97]=0/\FB c=0/\outW c [97] 0 c.start=[[38,97,109,112,59]]:=by
 have h0:z3f exA exB 1=0:=Tn.2 ⟨zdq,ox,ox⟩;have e:=z74 h0;rw[zqp] at e;have hc:FB (oneD 97 [38,97,109,112,59])=0:=NW (NH.2 ox) ox ox;refine⟨_,e,z2h.2 ⟨hc,ox,ox⟩,hc,zbn ⟨by simp[NK],λw=>?_⟩⟩;rw[show (oneD 97 [38,97,109,112,59]).start=0 from rfl,zjo ox ox,Am]
section
variable {a b c ab bc l r:Desc}{x:List Int}
end
abbrev chT(b:UInt8):Term:=conT (b.toNat:Int)
def chE(b:UInt8):AV:=.agg [.int .i64 0,.int .i64 0,.int .i64 21,.int .i64 0,.int .i64 (b.toNat:Int),.nilS]
def chL(s:List UInt8)(i:Nat):List AV:=(s.take i).map chE
theorem zdr{s:List UInt8}{i:Nat}(h:i<=s.length):(chL s i).length=i:=by rw[chL,Au,Bb];omega
theorem zjq{s:List UInt8}{i:Nat}(h:i<s.length):chL s (i+1)=chL s i++[.agg [.int .i64 0,.int .i64 0,.int .i64 21,.int .i64 0,.int .i64 (s.getD i 0).toNat,.nilS]]:=by
 rw[chL,take_at h,Aw];rfl
theorem zjr(s:List UInt8)(i:Nat):AJ (chL s i)=true:=CO (λb=>rfl) _
abbrev oneA(x:Int)(s:List UInt8):AV:=.agg [.int .i64 2,.int .i64 2,.int .i64 1,.int .i64 0,.lst 5 [.agg [.int .i64 0,.int .i64 0,.lst 1 [.lst 2 [.agg [.int .i64 x,.int .i64 x]]],.int .i64 1,.lst 6 (chL s s.length)]],.lst 3 [.agg [.int .i64 0,.nilS,.nilS]]]
theorem zqq(x:Int)(s:List UInt8):AV.le (oneA x s) (C6 ⟨2,2,1,0,[⟨0,0,[[⟨x,x⟩]],1,s.map chT⟩],[⟨0,[],[]⟩]⟩):=by
 have key:∀q:List UInt8,leL (q.map chE) ((q.map chT).map C9):=λq=>by
  induction q with
  |nil=>exact Hy
  |cons b q ih=>exact BY (AV.le_agg (BY (AV.le_refl _) (BY (AV.le_refl _) (BY (AV.le_refl _) (BY (AV.le_refl _) (BY (AV.le_refl _) (BY (AV.le_nilS ox) Hy))))))) ih
 refine AV.le_agg (BY (AV.le_refl _) (BY (AV.le_refl _) (BY (AV.le_refl _) (BY (AV.le_refl _) (BY (AV.le_lst rfl (BJ _) ?_) (BY (AV.le_lst rfl (BD _) ?_) Hy))))))
 ·refine BY (AV.le_agg (BY (AV.le_refl _) (BY (AV.le_refl _) (BY (AV.le_refl _) (BY (AV.le_refl _) (BY (AV.le_lst ?_ (Cy _) ?_) Hy)))))) Hy
  ·rw[zdr (Ab _),Au,Au]
  ·rw[chL,As]
   exact key s
 ·exact BY (AV.le_agg (BY (AV.le_refl _) (BY (AV.le_nilS ox) (BY (AV.le_nilS ox) Hy)))) Hy
theorem X6(x:Int)(s:List UInt8)(hs:s.length<=1000):PC Tryz.prog 75 [.int .i64 x,.str s] (C6 ⟨2,2,1,0,[⟨0,0,[[⟨x,x⟩]],1,s.map chT⟩],[⟨0,[],[]⟩]⟩):=by
 refine zuj ?_ (zqq x s);refine zum Ye ?_;unfold PU;refine DK (W_T ?_);refine ywA ?_;refine DK (W_T ?_);refine ywA ?_;refine DK (W_T ?_);refine ywA ?_
 refine Ba (B7 (λ(i:Nat)=>i<=s.length) (λi=>s.length-i)
  (λi=>[(1,.str s),(4,.ptr 0 1 0 0),(5,.ptr 1 1 0 0),(6,.int .i64 i)])
  (λi=>[⟨6,1,true,[.agg [.int .i64 0,.int .i64 0,.int .i64 0,.int .i64 0,.nilS,.nilS]]⟩,⟨5,1,true,[.agg [.int .i64 0,.int .i64 0,.lst 1 [.lst 2 [.agg [.int .i64 x,.int .i64 x]]],.int .i64 1,.ref 2 1 0 (chL s i).length]]⟩,⟨6,1,false,chL s i⟩]) (λenv H=>[D4 6 (env 4),D4 5 (env 5),D4 6 (cellAt H (env 5) 4)]) 0 (Ap _) ?_ ?_)
 ·have e0:chL s 0=[]:=rfl
  have f_:=e0;exact gwB
 intro i hi;have hll:=zdr hi;have pL:=zjr s i;rcases Aj i s.length with him|him
 ·have hls:=zjq him
  have hwr:IntKind.i64.wrap ((s.getD i 0).toNat:Int)=((s.getD i 0).toNat:Int):=IntWalk.i64_in _ (by have:=(s.getD i 0).toNat_lt;omega);generalize chL s i=K at *;obtain⟨z,hz⟩:∃z,(s.getD i 0).toNat=z:=⟨_,rfl⟩;rw[hz] at hls hwr;refine W_T ?_;have f_:=Aa pL (Aa hz hwr);refine ywB ?_;clear f_
  all_goals
   refine⟨i+1,?_⟩;have f_:=Aa hls (Aa pL (Aa hz hwr));exact gwB
 obtain rfl:i=s.length:=om
 unfold oneA;generalize chL s s.length=M at *;refine W_T ?_;have f_:=pL;refine ywB ?_;clear f_;refine I8 (z4x (l':=[⟨6,1,true,[.agg [.int .i64 0,.int .i64 0,.int .i64 0,.int .i64 0,.nilS,.nilS]]⟩,⟨5,1,true,[.agg [.int .i64 0,.int .i64 0,.lst 1 [.lst 2 [.agg [.int .i64 x,.int .i64 x]]],.int .i64 1,.lst 6 M]]⟩,⟨0,2,false,[]⟩]) (g:=1) (d:=8) [2] ox oc rfl ox ?_ ?_) (W_T ?_)
 ·(simp(disch:=omega)only[push_cast,↓zz,seval,pL])
 ·(simp(disch:=omega)only[push_cast,↓zz,seval,pL])
 have f_:=pL;exact gwB
theorem Zw:PC Tryz.prog 34 [] (.bool true):=by
 obtain⟨c,e,ha,hc,ho⟩:=zjp;have h1:PC Tryz.prog 75 [.int .i64 97,.str [38]] (C6 exA):=X6 97 [38] ox;have h2:PC Tryz.prog 75 [.int .i64 38,.str [38,97,109,112,59]] (C6 exB):=X6 38 [38,97,109,112,59] ox;have hC:=Zv exA exB 1 (QS zdq.ca) (QS zdq.cb) ox ox ox;rw[e] at hC;simp only[Tm,Option.getD_some] at hC;have hO:=WW c [97] (QS hc) ox ox 2 ox λ_=>Bl (Nat.min_le_left _ _) ox;rw[show (2:Int)=((2:Nat):Int) from rfl,zj2 ha ox (by rw[ho];decide),ho] at hO;have pA:(C6 exA).pure=true:=by simp[C6,AV.pure,AJ,BJ,BD]
 have pB:(C6 exB).pure=true:=by simp[C6,AV.pure,AJ,BJ,BD]
 generalize C6 exA=A at *;generalize C6 exB=B at *;have hrs:LG [38,97,109,112,59]=[38,97,109,112,59]:=by decide +kernel
 refine zum TD ?_;unfold M4;refine DK (W_T ?_);refine ywA ?_;refine DK (W_T ?_);have f_:=Aa pA pB;have e_:=h1;have e_1:=h2;have e_2:=hC;refine ywD ?_;clear f_ e_ e_1 e_2;refine DK (W_T ?_);have e_:=hO;refine ywC ?_;clear e_;refine W_T ?_;(with_reducible repeat'(first|simp(disch:=omega)only[push_cast,↓zz,seval,hrs]|refine sp_ ?_ ?_<;>try(intro hc;push_cast at hc)|omega|intro _))
 all_goals
  refine⟨[38,97,109,112,59],rfl,?_⟩;have f_:=hrs;exact gwB
def zva(t:Term):Prop:=L3 t=true/\(t.parts=[]\/∃p,t.parts=[p]/\p.drop=0/\p.take=21/\p.up=0)
section
variable {a b:Desc}
structure WayS(b:Desc)(i:Int)(n:Nat)(ts:List Term)(m l:Nat)(w:Way):Prop where
 fit:zv0 i b.out n w
 sets:∀s∈w.guards,s.length<=m
 out:w.out.length<=l
 ok:∀t∈ts,Kg t i 2 w.guards=true
structure FewB(b:Desc):Prop where
 st:b.states<=4
 rules:b.rules.length<=8
 finals:b.finals.length<=8
 rout:∀r∈b.rules,r.out.length<=8
 rset:∀r∈b.rules,∀g∈r.guards,g.length<=4
 fout:∀f∈b.finals,f.out.length<=8
structure zvb(a b:Desc):Prop where
 ar:a.rules.length<=8
 af:a.finals.length<=8
 rc:∀r∈a.rules,r.out.length<=2/\(∀t∈r.out,zva t)/\∀g∈r.guards,g.length<=4
 fc:∀f∈a.finals,f.out.length<=2/\(∀t∈f.out,zva t)/\∀g∈f.guards,g.length<=4
 b:FewB b
end
theorem zjs(d:Desc):oneV d=(d.rules.all (λr=>decide (r.guards.length=1))&&d.finals.all λf=>decide (f.guards.length=0)):=by
 rw[Ep,zcu,Ac,AP,AP];simp only[Ah,List.length_eq_zero_iff]
theorem zds(d:Desc)(hr:d.rules.length<=9223372036854775807)(hf:d.finals.length<=9223372036854775807):PC Tryz.prog 33 [C6 d] (.bool (oneV d)):=by
 rw[zjs];refine Cd XZ ?_;unfold PO;refine ywA ?_
 refine Ba (B7 (λ(k:Nat)=>k<=d.rules.length/\d.rules.all (λr=>decide (r.guards.length=1))=(d.rules.drop k).all (λr=>decide (r.guards.length=1))) (λk=>d.rules.length-k)
  (λk=>[(1,.ptr 0 1 0 0),(3,.int .i64 k)]) (λ_=>[⟨6,1,true,[C6 d]⟩]) (λenv _=>[D4 6 (env 1)]) 0 oc ?_ ?_)
 ·exact gwA
 rintro k ⟨hk,hE⟩;rcases Aj k d.rules.length with hkl|hkl
 ·rw[drop_at hkl,List.all_cons] at hE
  refine W_T ?_;by_cases h1:(nth d.rules k).guards.length=1
  ·rw[Bv h1,Bj] at hE
   have f_:=h1;refine ywB ?_;clear f_
   all_goals
    refine⟨k+1,?_⟩;exact gwA
    try exact hE
  ·rw[By h1,B4] at hE
   have f_:=h1;refine ywB ?_;clear f_
   all_goals first|exact hE|(rw[hE];done)|(rw[hE];rfl)
 ·rw[Ao hkl] at hE
  rw[hE,List.all_nil,Bj];clear hE;refine W_T ?_;refine ywA ?_
  refine Ba (B7 (λ(k:Nat)=>k<=d.finals.length/\d.finals.all (λf=>decide (f.guards.length=0))=(d.finals.drop k).all (λf=>decide (f.guards.length=0))) (λk=>d.finals.length-k)
   (λk=>[(1,.ptr 0 1 0 0),(4,.int .i64 k)]) (λ_=>[⟨6,1,true,[C6 d]⟩]) (λenv _=>[D4 6 (env 1)]) 0 oc ?_ ?_)
  ·exact gwA
  rintro j ⟨hj,hE⟩;rcases Aj j d.finals.length with hjl|hjl
  ·rw[drop_at hjl,List.all_cons] at hE
   refine W_T ?_;by_cases h1:(nth d.finals j).guards.length=0
   ·rw[Bv h1,Bj] at hE
    have f_:=h1;refine ywB ?_;clear f_;refine⟨j+1,?_⟩;exact gwA
   ·rw[By h1,B4] at hE
    have f_:=h1;refine ywB ?_;clear f_
    all_goals first|exact hE|(rw[hE];done)|(rw[hE];rfl)
  ·rw[Ao hjl] at hE
   rw[hE,List.all_nil];refine W_T ?_;exact gwA
def copyB(t:Term):Bool:=L3 t&&(decide (t.parts.length<=1)&&(decide (t.parts.length≠1)||decide ((nth t.parts 0).drop=0/\(nth t.parts 0).take=21/\(nth t.parts 0).up=0)))
def zdt(l:List Term):Bool:=l.all copyB&&decide (l.length<=2)
def zqr(gs:List (List Span)):Bool:=gs.all λg=>decide (g.length<=4)
def fewB(a b:Desc):Bool:=decide (a.rules.length<=8/\a.finals.length<=8/\b.states<=4/\b.rules.length<=8/\b.finals.length<=8)
def arB(r:Rule):Bool:=zdt r.out&&zqr r.guards
def afB(f:DO):Bool:=zdt f.out&&zqr f.guards
def brB(r:Rule):Bool:=decide (r.out.length<=8)&&zqr r.guards
def bfB(f:DO):Bool:=decide (f.out.length<=8)
def X7(a b:Desc):Bool:=fewB a b&&(a.rules.all arB&&(a.finals.all afB&&(b.rules.all brB&&b.finals.all bfB)))
theorem UP(d:Desc)(hr:d.rules.length<=9223372036854775807)(hf:d.finals.length<=9223372036854775807):PC Tryz.prog 9 [C6 d] (.bool true):=by
 have hA:=Zw;have h1:=Xj d hr hf;have h2:=zds d hr hf;generalize oneV d=c at *;refine Cd Nt ?_;unfold Jq;(with_reducible repeat'(first|simp(disch:=omega)only[push_cast,↓zz,seval]|refine sp_ ?_ ?_<;>try(intro hc;push_cast at hc)|refine ee h1 ?_|refine ee h2 ?_|refine ee hA ?_|((first|refine cc h1 ?_|refine cc h2 ?_|refine cc hA ?_);simp(disch:=omega)only[push_cast,↓zz,seval];fail_if_success change False)|omega|intro _))
 all_goals simp at hc
end Go.Proofs.YtflibbceibjddaaGreat
