/-
  Parts of the proof that the law holds whatever the input; without conditions.
-/
import Derived.Test.YtflibbceibjddaaGreatND5
import Derived.Test.YtflibbceibjddaaGreatND4
set_option linter.unusedSimpArgs false
set_option linter.unusedVariables false
set_option linter.unusedSectionVars false
namespace Go.Proofs.YtflibbceibjddaaGreat
open Abs O1 O2 O3
theorem zbg{lo hi D q:Int}(hD:0<D)(h:lo<=hi):(∃x,lo<=x/\x<=hi/\x / D=q)↔lo / D<=q/\q<=hi / D:=by
 constructor
 ·rintro⟨x,h1,h2,rfl⟩
  exact⟨C3 hD h1,C3 hD h2⟩
 ·rintro⟨h1,h2⟩
  rcases Int.lt_or_eq_of_le h1 with h3|h3
  ·refine⟨q * D,?_,?_,Int.mul_ediv_cancel _ (by omega)⟩
   ·have:=(Int.ediv_lt_iff_lt_mul hD).1 h3;omega
   ·exact (Int.le_ediv_iff_mul_le hD).1 h2
  ·exact⟨lo,BD _,h,h3⟩
theorem QX{x y M:Int}(hM:0<M)(h1:x<=y)(h2:y-x<M):y / M=x / M\/y / M=x / M+1:=by
 have a:=C3 hM h1;have c:y / M<=(x+M * 1) / M:=C3 hM (by omega);rw[Int.add_mul_ediv_left _ _ (by omega)] at c;omega
theorem M7{w M k:Int}(h:0<=w/\w<M):(M * k+w) % M=w:=by
 rw[Int.add_comm,Int.add_mul_emod_self_left,Int.emod_eq_of_lt h.1 h.2]
theorem z2v{a b M w:Int}(hM:0<M)(hab:a<=b)(hs:b-a<M-1):
 (∃q,a<=q/\q<=b/\q % M=w)↔if a % M<=b % M then a % M<=w/\w<=b % M else (0<=w/\w<=b % M)\/(a % M<=w/\w<=M-1):=by
 have ea:=Dk a M;have eb:=Dk b M;have a1:=BH a (by omega:M≠0);have a2:=B9 a hM;have b1:=BH b (by omega:M≠0);have b2:=B9 b hM;constructor
 ·rintro⟨q,h1,h2,rfl⟩
  have eq:=Dk q M;have q1:=BH q (by omega:M≠0);have q2:=B9 q hM;have k1:=QX hM hab (by omega);have k2:=QX hM h1 (by omega);have e1:M * (a / M+1)=M * (a / M)+M:=by rw[Int.mul_add,Int.mul_one]
  rcases k1 with k1|k1<;>rcases k2 with k2|k2<;>rw[k1] at eb<;>rw[k2] at eq<;>(try rw[e1] at eb)<;>(try rw[e1] at eq)<;>split<;>omega
 ·intro h
  have k1:=QX hM hab (by omega);have e1:M * (a / M+1)=M * (a / M)+M:=by rw[Int.mul_add,Int.mul_one]
  rcases k1 with k1|k1
  ·rw[k1] at eb
   rw[Ae (by omega)] at h;exact⟨M * (a / M)+w,by omega,by omega,M7 (by omega)⟩
  ·rw[k1,e1] at eb
   rw[Ac (by omega)] at h;rcases h with h|h
   ·exact⟨M * (a / M+1)+w,by omega,by omega,M7 (by omega)⟩
   ·exact⟨M * (a / M)+w,by omega,by omega,M7 (by omega)⟩
theorem z8x{a b M w:Int}(hM:0<M)(hs:M-1<=b-a):(∃q,a<=q/\q<=b/\q % M=w)↔0<=w/\w<=M-1:=by
 constructor
 ·rintro⟨q,_,_,rfl⟩
  have q1:=BH q (by omega:M≠0);have q2:=B9 q hM;omega
 ·intro h
  have e:=Dk (w-a) M;have q1:=BH (w-a) (by omega:M≠0);have q2:=B9 (w-a) hM;refine⟨a+(w-a) % M,by omega,by omega,?_⟩;have:a+(w-a) % M=M * (-((w-a) / M))+w:=by rw[Int.mul_neg];omega
  rw[this,M7 (by omega)]
theorem WK{d t:Nat}{s:Span}{w:Int}(hs:s.lo<=s.hi)(hn:¬(2 ^ t-1:Int)<=s.hi / 2 ^ d-s.lo / 2 ^ d):memL (imgS d t s) w↔∃x,(s.lo<=x/\x<=s.hi)/\x / 2 ^ d % 2 ^ t=w:=by
 have hD:(0:Int)<2 ^ d:=EE (by decide);have hT:(0:Int)<2 ^ t:=EE (by decide);have hab:=C3 hD hs
 have key:(∃x,(s.lo<=x/\x<=s.hi)/\x / 2 ^ d % 2 ^ t=w)↔∃q,s.lo / 2 ^ d<=q/\q<=s.hi / 2 ^ d/\q % 2 ^ t=w:=by
  constructor
  ·rintro⟨x,⟨h1,h2⟩,h3⟩
   exact⟨x / 2 ^ d,C3 hD h1,C3 hD h2,h3⟩
  ·rintro⟨q,h1,h2,h3⟩
   obtain⟨x,k1,k2,k3⟩:=(zbg hD hs).2 ⟨h1,h2⟩;exact⟨x,⟨k1,k2⟩,by rw[k3];exact h3⟩
 rw[key,z2v hT hab (by omega),imgS];split
 ·simp[Bs,BZ]
 ·simp[Bs,BZ]
theorem WL{d t:Nat}{w:Int}:∀(l out:List Span),(∀s∈l,s.lo<=s.hi)->(∀v,memL out v->0<=v/\v<=2 ^ t-1)->(memL (imgF d t l out) w↔memL out w\/∃x,memL l x/\x / 2 ^ d % 2 ^ t=w)
 |[],out,_,_=>by simp[imgF,BZ]
 |s::l,out,h,ho=>by
  have hD:(0:Int)<2 ^ d:=EE (by decide);have hT:(0:Int)<2 ^ t:=EE (by decide);have hs:=h s (by simp);rw[imgF];split
  ·rename_i hb
   have hf:=z8x (w:=w) hT hb;constructor
   ·intro hw
    have hw':0<=w/\w<=2 ^ t-1:=by simpa [allS,Bs,BZ] using hw
    obtain⟨q,h1,h2,h3⟩:=hf.2 hw';obtain⟨x,k1,k2,k3⟩:=(zbg hD hs).2 ⟨h1,h2⟩;exact .inr ⟨x,Bs.2 (.inl ⟨k1,k2⟩),by rw[k3];exact h3⟩
   ·intro hw
    have:0<=w/\w<=2 ^ t-1:=by
     rcases hw with hw|⟨x,_,rfl⟩
     ·exact ho w hw
     ·have q1:=BH (x / 2 ^ d) (by omega:(2:Int) ^ t≠0)
      have q2:=B9 (x / 2 ^ d) hT;omega
    simpa [allS,Bs,BZ] using this
  ·rename_i hb
   rw[WL l _ (λs hs=>h s (by simp[hs])) (λv hv=>?_),Fi,WK hs hb]
   ·constructor
    ·rintro ((h1|⟨x,h1,h2⟩)|⟨x,h1,h2⟩)
     ·exact .inl h1
     ·exact .inr ⟨x,Bs.2 (.inl h1),h2⟩
     ·exact .inr ⟨x,Bs.2 (.inr h1),h2⟩
    ·rintro (h1|⟨x,h1,h2⟩)
     ·exact .inl (.inl h1)
     ·rcases Bs.1 h1 with h1|h1
      ·exact .inl (.inr ⟨x,h1,h2⟩)
      ·exact .inr ⟨x,h1,h2⟩
   ·rcases Fi.1 hv with hv|hv
    ·exact ho v hv
    ·obtain⟨x,_,rfl⟩:=(WK hs hb).1 hv
     have q1:=BH (x / 2 ^ d) (by omega:(2:Int) ^ t≠0);have q2:=B9 (x / 2 ^ d) hT;omega
theorem mem_map{α:Type}{f:α->Span}{l:List α}{v:Int}:memL (l.map f) v↔∃a∈l,(f a).lo<=v/\v<=(f a).hi:=by
 simp only[memL,Au];exact⟨λ⟨_,⟨a,h,rfl⟩,h2⟩=>⟨a,h,h2⟩,λ⟨a,h,h2⟩=>⟨_,⟨a,h,rfl⟩,h2⟩⟩
theorem WM{p:Part}(s:List Span)(hb:FL p=true):Plain (imgL p s)/\∀v,memL (imgL p s) v↔∃x,memL s x/\(0<=x/\x<=2097151)/\valP p x=v:=by
 have hbi:=Kv.1 hb;have ht:=Mw p.take.toNat (by omega);have hT:(0:Int)<2 ^ p.take.toNat:=EE (by decide);obtain⟨m1,m2,m3⟩:=W5 s
 have hF:∀w,memL (imgF p.drop.toNat p.take.toNat (FM (Bv s) (Bv topS)) []) w↔∃x,(memL s x/\0<=x/\x<=2097151)/\x / 2 ^ p.drop.toNat % 2 ^ p.take.toNat=w:=λw=>by
  rw[WL _ _ (λt ht=>(m2 t ht).2.1) (λv hv=>absurd hv (BZ v))];simp only[BZ,B7,m3]
 have hr:∀w,memL (imgF p.drop.toNat p.take.toNat (FM (Bv s) (Bv topS)) []) w->0<=w/\w<=2 ^ p.take.toNat-1:=λw hw=>by
  obtain⟨x,_,rfl⟩:=(hF w).1 hw;have q1:=BH (x / 2 ^ p.drop.toNat) (by omega:(2:Int) ^ p.take.toNat≠0);have q2:=B9 (x / 2 ^ p.drop.toNat) hT;omega
 unfold imgL;rw[Ac (by simp[hb])];split
 ·rename_i hu
  refine⟨(By _).1,λv=>?_⟩;rw[(By _).2 v,hF];have e:∀x,valP p x=x / 2 ^ p.drop.toNat % 2 ^ p.take.toNat:=λx=>by simp[valP,hu]
  constructor
  ·rintro⟨⟨x,⟨h1,h2⟩,h3⟩,_⟩
   exact⟨x,h1,h2,by rw[e];exact h3⟩
  ·rintro⟨x,h1,h2,h3⟩
   rw[e] at h3;have:=hr v ((hF v).2 ⟨x,⟨h1,h2⟩,h3⟩);exact⟨⟨x,⟨h1,h2⟩,h3⟩,by omega⟩
 ·rename_i hu
  refine⟨(By _).1,λv=>?_⟩;rw[(By _).2 v,mem_map];constructor
  ·rintro⟨⟨n,hn,h1,h2⟩,_⟩
   simp only[oneS] at h1 h2;have hn':=HZ.1 hn;rw[(By _).2,(By _).2] at hn';obtain⟨x,⟨k1,k2⟩,k3⟩:=(hF n).1 hn'.1.1;exact⟨x,k1,k2,by rw[valP,k3];omega⟩
  ·rintro⟨x,h1,h2,h3⟩
   have hv:=F2 hb h2;have hm:=(hF (x / 2 ^ p.drop.toNat % 2 ^ p.take.toNat)).2 ⟨x,⟨h1,h2⟩,rfl⟩;have:=hr _ hm;refine⟨⟨x / 2 ^ p.drop.toNat % 2 ^ p.take.toNat,HZ.2 ?_,?_⟩,by omega⟩
   ·rw[(By _).2,(By _).2]
    exact⟨⟨hm,by omega⟩,by omega⟩
   ·rw[valP] at h3
    simp only[oneS];omega
def Full(l:List Span):Prop:=∀s∈l,s.lo<=s.hi
theorem z2w{a b:List Span}(ha:Full a)(hb:Full b):Plain (Tn a b)/\∀v,memL (Tn a b) v↔(∃x y,memL a x/\memL b y/\x+y=v)/\-1073741824<=v/\v<=1073741824:=by
 refine⟨(By _).1,λv=>?_⟩;rw[Tn,(By _).2 v,UM,W6];refine and_congr_left λ_=>?_;constructor
 ·rintro⟨s,hs,h⟩
  obtain⟨r,hr,h1,h2⟩:=mem_map.1 h;simp only[sumS] at h1 h2;have k1:=ha s hs;have k2:=hb r hr;refine⟨max s.lo (v-r.hi),v-max s.lo (v-r.hi),⟨s,hs,by omega,by omega⟩,⟨r,hr,by omega,by omega⟩,by omega⟩
 ·rintro⟨x,y,⟨s,hs,h1,h2⟩,⟨r,hr,h3,h4⟩,rfl⟩
  exact⟨s,hs,mem_map.2 ⟨r,hr,by simp only[sumS];omega,by simp only[sumS];omega⟩⟩
theorem z2x{out:List Span}{n:Int}(h:Full out):Full (addS out ⟨n,n⟩)/\∀v,memL (addS out ⟨n,n⟩) v↔memL out v\/v=n:=by
 rcases FO out with rfl|⟨m,y,rfl⟩
 ·refine⟨λs hs=>?_,λv=>?_⟩
  ·simp only[HX,An] at hs;subst hs;simp
  ·rw[HX,Bs];simp only[BZ,Ar,B7];omega
 ·have hy:=h y (by simp)
  rw[K5];simp only;split
  ·rename_i he
   refine⟨λs hs=>?_,λv=>?_⟩
   ·rcases Am.1 hs with hs|hs
    ·exact h s (by simp[hs])
    ·simp only[An] at hs;subst hs;simp only;omega
   ·rw[Fi,Fi,Bs,Bs]
    simp only[BZ,Ar];constructor
    ·rintro (h1|h1)
     ·exact .inl (.inl h1)
     ·by_cases hv:v=n
      ·exact .inr hv
      ·exact .inl (.inr (by omega))
    ·rintro ((h1|h1)|h1)
     ·exact .inl h1
     ·exact .inr (by omega)
     ·exact .inr (by omega)
  ·refine⟨λs hs=>?_,λv=>?_⟩
   ·rcases Am.1 hs with hs|hs
    ·exact h s hs
    ·simp only[An] at hs;subst hs;simp
   ·rw[Fi,Bs]
    simp only[BZ,Ar];have:(n<=v/\v<=n)↔v=n:=by omega
    rw[this]
theorem WN(l:List Part){v:Int}:∀(m:List Int)(out:List Span),Full out->(memL (m.foldl (togF l) out) v↔memL out v\/∃x∈m,totV l x=v)
 |[],out,_=>by simp
 |x::m,out,h=>by
  obtain⟨h1,h2⟩:=z2x (n:=totV l x) h;rw[List.foldl_cons,togF,WN l m _ h1,h2];simp only[Af,exists_eq_or_imp];constructor
  ·rintro ((h|h)|h)
   ·exact .inl h
   ·exact .inr (.inl h.symm)
   ·exact .inr (.inr h)
  ·rintro (h|h|h)
   ·exact .inl (.inl h)
   ·exact .inl (.inr h.symm)
   ·exact .inr h
theorem z8y{l:List Part}{s:List Span}(hl:l.length<=4)(hb:∀p∈l,FL p=true)(hs:Syms s):Plain (togL l s)/\∀v,memL (togL l s) v↔∃x,memL s x/\totV l x=v:=by
 unfold togL;split
 ·rename_i h1
  obtain⟨p,rfl⟩:=List.length_eq_one_iff.1 h1;obtain⟨i1,i2⟩:=WM s (hb p (by simp));refine⟨i1,λv=>?_⟩;have e:nth [p] 0=p:=rfl;rw[e,i2];have e2:∀x,totV [p] x=valP p x:=λx=>by simp[totV]
  constructor
  ·rintro⟨x,h1,_,h3⟩;exact⟨x,h1,by rw[e2];exact h3⟩
  ·rintro⟨x,h1,h3⟩
   have:=hs.mem h1;exact⟨x,h1,by omega,by rw[<-e2];exact h3⟩
 ·refine⟨(By _).1,λv=>?_⟩
  rw[(By _).2 v,WN l _ _ (λs hs=>by cases hs),Tp hs];simp only[BZ,B7,HZ];constructor
  ·rintro⟨h,_⟩;exact h
  ·rintro⟨x,h1,rfl⟩
   have:=hs.mem h1;have:=NV (x:=x) (by omega) hb;exact⟨⟨x,h1,rfl⟩,by omega⟩
def Win(sets:List (List Span))(w:List Int):Prop:=w.length=sets.length/\∀i,i<sets.length->memL (nth sets i) (nth w i)
def Ob(l:List Part)(pl:List Int)(w:List Int):Int:=(pl.map λa=>totV (atL l a) (nth w a.toNat)).sum
def totW(w:List Int)(l:List Part):Int:=(l.map λp=>valP p (nth w p.at_.toNat)).sum
theorem UR{w:List Int}{i j:Nat}{x:Int}(h:i<w.length):nth (w.set i x) j=if j=i then x else nth w j:=by
 simp only[nth,Aq,List.getElem?_set];split
 ·subst_vars;simp[h]
 ·rename_i hne;rw[Ac (λe=>hne e.symm)]
theorem Ib{α:Type}{f g:α->Int}:∀{l:List α},(∀a∈l,f a=g a)->(l.map f).sum=(l.map g).sum
 |[],_=>rfl
 |a::l,h=>by simp[h a (by simp),Ib (l:=l) λb hb=>h b (by simp[hb])]
theorem Oc{α:Type}{f g:α->Int}:∀{l:List α},(l.map λa=>f a+g a).sum=(l.map f).sum+(l.map g).sum
 |[]=>rfl
 |a::l=>by
  have:=Oc (f:=f) (g:=g) (l:=l);simp only[A4,List.sum_cons,this];omega
theorem I9{α:Type}{f:α->Int}:∀{l:List α},(∀a∈l,f a=0)->(l.map f).sum=0
 |[],_=>rfl
 |a::l,h=>by simp[h a (by simp),I9 (l:=l) λb hb=>h b (by simp[hb])]
theorem Od{c:Int}{g:Int->Int}:∀{l:List Int},l.Nodup->c∈l->(l.map λa=>if c=a then g a else 0).sum=g c
 |[],_,h=>by cases h
 |a::l,hn,h=>by
  obtain⟨h1,h2⟩:=BX.1 hn;by_cases e:c=a
  ·subst e
   have:(l.map λa=>if c=a then g a else 0).sum=0:=I9 λb hb=>Ac λ(e2:c=b)=>h1 (by rw[e2];exact hb);simp[this]
  ·have hm:c∈l:=by simpa [e] using h
   simp[e,Od h2 hm]
theorem L1(w:List Int):∀(l:List Part)(pl:List Int),pl.Nodup->(∀p∈l,p.at_∈pl)->Ob l pl w=totW w l
 |[],pl,_,_=>I9 λa _=>rfl
 |p::l,pl,hn,h=>by
  have ih:=L1 w l pl hn λq hq=>h q (by simp[hq])
  have e:∀a∈pl,totV (atL (p::l) a) (nth w a.toNat)=(if p.at_=a then valP p (nth w a.toNat) else 0)+totV (atL l a) (nth w a.toNat):=λa _=>by
   simp only[atL,Cb,Ai];split
   ·simp[totV]
   ·simp[totV]
  rw[Ob,Ib e,Oc,Od (g:=λa=>valP p (nth w a.toNat)) hn (h p (by simp))];rw[Ob] at ih;rw[ih];simp[totW]
theorem Oe:∀(l:List Part)(pl:List Int),pl.Nodup->(l.foldl Fe pl).Nodup/\(∀a,a∈l.foldl Fe pl↔a∈pl\/∃p∈l,p.at_=a)/\(l.foldl Fe pl).length<=pl.length+l.length
 |[],pl,h=>⟨h,λa=>by simp,by simp⟩
 |p::l,pl,h=>by
  have h1:(Fe pl p).Nodup/\(∀a,a∈Fe pl p↔a∈pl\/p.at_=a)/\(Fe pl p).length<=pl.length+1:=by
   unfold Fe;split
   ·rename_i hm
    exact⟨h,λa=>⟨.inl,λhh=>hh.elim id λe=>e ▸ hm⟩,by omega⟩
   ·rename_i hm
    refine⟨Dp.2 ⟨h,by simp,λa ha b hb=>?_⟩,λa=>by simp[eq_comm],by simp⟩;simp only[An] at hb;subst hb;exact λe=>hm (e ▸ ha)
  obtain⟨k1,k2,k3⟩:=Oe l (Fe pl p) h1.1;refine⟨k1,λa=>?_,by have:=h1.2.2;simp only[List.foldl_cons,List.length_cons];omega⟩;rw[List.foldl_cons,k2,h1.2.1];simp only[Af,exists_eq_or_imp,or_assoc]
theorem PG{l:List Span}(h:Plain l):Full l:=h.1
theorem zfs{sets:List (List Span)}{w:List Int}{a:Nat}{x:Int}(hw:Win sets w)(ha:a<sets.length)(hx:memL (nth sets a) x):Win sets (w.set a x):=by
 refine⟨by simp[hw.1],λi hi=>?_⟩;rw[UR (by rw[hw.1];exact ha)];split
 ·subst_vars;exact hx
 ·exact hw.2 i hi
theorem Tr{l:List Part}{sets:List (List Span)}(hS:P7 l sets)(hl:l.length<=4)(hne:∃w,Win sets w):∀(pl:List Int)(out:List Span),pl.Nodup->(∀a∈pl,0<=a/\a<sets.length)->Full out->pl.length<=4 ->
 (∀v,memL out v->-1114111<=v/\v<=1114111+(4-(pl.length:Int)) * 264241152)->Full (pl.foldl (I8 l sets) out)/\∀v,memL (pl.foldl (I8 l sets) out) v↔∃o w,memL out o/\Win sets w/\o+Ob l pl w=v
 |[],out,_,_,hf,_,_=>⟨hf,λv=>by
  obtain⟨w,hw⟩:=hne;simp only[List.foldl_nil,Ob,A8,List.sum_nil,Int.add_zero]
  exact⟨λh=>⟨v,w,h,hw,rfl⟩,λ⟨o,_,h,_,e⟩=>e ▸ h⟩⟩
 |a::pl,out,hn,hp,hf,hlen,hb=>by
  obtain⟨n1,n2⟩:=BX.1 hn;have ha:=hp a (by simp);have hm:nth sets a.toNat∈sets:=Bo (by omega);have hsy:=hS.syms _ hm
  have hbits:∀p∈atL l a,FL p=true:=λp hp=>by
   have:=hS.parts p ((Bn.1 hp).1);simp only[E7,Ab] at this;exact this.2
  have hla:(atL l a).length<=4:=AZ (BL _ _) hl;obtain⟨t1,t2⟩:=z8y hla hbits hsy;obtain⟨p1,p2⟩:=z2w hf (PG t1)
  have htot:∀x,memL (nth sets a.toNat) x->0<=totV (atL l a) x/\totV (atL l a) x<=264241152:=λx hx=>by
   have:=hsy.mem hx;have:=NV (x:=x) (by omega) hbits;omega
  simp only[List.length_cons] at hlen hb
  have hv:∀v,memL (I8 l sets out a) v↔∃o x,memL out o/\memL (nth sets a.toNat) x/\o+totV (atL l a) x=v:=λv=>by
   rw[I8,p2];constructor
   ·rintro⟨⟨o,y,h1,h2,h3⟩,_⟩
    obtain⟨x,k1,k2⟩:=(t2 y).1 h2;exact⟨o,x,h1,k1,by rw[k2];exact h3⟩
   ·rintro⟨o,x,h1,h2,rfl⟩
    have:=hb o h1;have:=htot x h2
    push_cast at *
    exact⟨⟨o,_,h1,(t2 _).2 ⟨x,h2,rfl⟩,rfl⟩,by omega,by omega⟩
  obtain⟨i1,i2⟩:=Tr hS hl hne pl (I8 l sets out a) n2 (λb hb=>hp b (by simp[hb])) (PG p1) (by omega) (λv h=>by
   obtain⟨o,x,h1,h2,rfl⟩:=(hv v).1 h;have:=hb o h1;have:=htot x h2
   push_cast at *
   omega)
  refine⟨i1,λv=>?_⟩;rw[List.foldl_cons,i2];constructor
  ·rintro⟨u,w,h1,hw,rfl⟩
   obtain⟨o,x,k1,k2,rfl⟩:=(hv u).1 h1;refine⟨o,w.set a.toNat x,k1,zfs hw (by omega) k2,?_⟩
   have e1:Ob l pl (w.set a.toNat x)=Ob l pl w:=Ib λb hb=>by
    have:=hp b (by simp[hb]);rw[UR (by rw[hw.1];omega),Ac];intro e;exact n1 ((show b=a by omega) ▸ hb)
   have e2:Ob l (a::pl) (w.set a.toNat x)=totV (atL l a) x+Ob l pl (w.set a.toNat x):=by
    simp only[Ob,A4,List.sum_cons];rw[UR (by rw[hw.1];omega),Ae rfl]
   rw[e2,e1];omega
  ·rintro⟨o,w,h1,hw,rfl⟩
   have hx:=hw.2 a.toNat (by omega);refine⟨o+totV (atL l a) (nth w a.toNat),w,(hv _).2 ⟨o,_,h1,hx,rfl⟩,hw,?_⟩;simp only[Ob,A4,List.sum_cons];omega
theorem z8z(x:Int):Full [⟨x,x⟩]:=λs hs=>by simp only[An] at hs;subst hs;simp
theorem US{x v:Int}:memL [⟨x,x⟩] v↔v=x:=by rw[Bs];simp only[BZ,Ar];omega
theorem z2y{t:Term}{sets:List (List Span)}(hS:P7 t.parts sets)(hl:t.parts.length<=4)(hs:Gc t.sum=true)(hne:∃w,Win sets w):Full (Io t sets)/\∀v,memL (Io t sets) v↔∃w,Win sets w/\t.sum+totW w t.parts=v:=by
 obtain⟨k1,k2,k3⟩:=Oe t.parts [] (by simp);have hsm:=G8 hs;simp only[List.length_nil] at k3
 have hat:∀a,a∈Fv t.parts->0<=a/\a<sets.length:=λa ha=>by
  obtain h|⟨p,hp,rfl⟩:=(k2 a).1 ha
  ·cases h
  ·exact HT (hS.parts p hp)
 obtain⟨h1,h2⟩:=Tr hS hl hne (Fv t.parts) [⟨t.sum,t.sum⟩] k1 hat (z8z _) (by rw[Fv];omega) (λv hv=>by
  rw[US] at hv;have:(Fv t.parts).length<=4:=by rw[Fv];omega
  omega)
 refine⟨h1,λv=>?_⟩;rw[Io,h2];constructor
 ·rintro⟨o,w,e,hw,rfl⟩
  rw[US] at e;exact⟨w,hw,by rw[e,Fv,L1 w _ _ k1 λp hp=>(k2 _).2 (.inr ⟨p,hp,rfl⟩)]⟩
 ·rintro⟨w,hw,rfl⟩
  exact⟨_,w,US.2 rfl,hw,by rw[Fv,L1 w _ _ k1 λp hp=>(k2 _).2 (.inr ⟨p,hp,rfl⟩)]⟩
theorem UT{w:List Int}{n:Int}:∀{l:List Part},(∀p∈l,E7 p n=true)->(∀p∈l,0<=nth w p.at_.toNat/\nth w p.at_.toNat<=1114111)->totP w l=totW w l/\0<=totW w l/\totW w l<=l.length * 66060288
 |[],_,_=>by simp[totP,totW]
 |p::l,h,hx=>by
  obtain⟨i1,i2,i3⟩:=UT (l:=l) (λq hq=>h q (by simp[hq])) (λq hq=>hx q (by simp[hq]));have hr:=h p (by simp);simp only[E7,Ab] at hr;have hxp:=hx p (by simp);have hv:=F2 hr.2 (x:=nth w p.at_.toNat) (by omega);have e1:val1 p (nth w p.at_.toNat)=valP p (nth w p.at_.toNat):=(Li hr.2 (by omega)).2;have e2:totW w (p::l)=valP p (nth w p.at_.toNat)+totW w l:=by simp[totW]
  rw[totP,e1,e2,i1];refine⟨rfl,by omega,?_⟩
  push_cast [List.length_cons]
  omega
theorem IA{t:Term}{sets:List (List Span)}{w:List Int}(hS:P7 t.parts sets)(hn:Dz t=true)(hw:Win sets w):
 EL t w=if 0<=t.sum+totW w t.parts/\t.sum+totW w t.parts<=1114111 then some (t.base+valP t.outer (t.sum+totW w t.parts)) else none:=by
 simp only[Dz,Ab,Ai] at hn;obtain⟨⟨⟨hb,hs⟩,ho⟩,_,hl⟩:=hn;have hsm:=G8 hs;have hbm:=G8 hb;have hsym:∀i,i<sets.length->0<=nth w i/\nth w i<=1114111:=λi hi=>(hS.syms _ (Bo hi)).mem (hw.2 i hi)
 obtain⟨e1,b1,b2⟩:=UT (w:=w) hS.parts (λp hp=>by
  have:=HT (hS.parts p hp)
  exact hsym _ (by omega))
 have hall:w.all symB=true:=by
  rw[AR];intro x hx;obtain⟨i,hi,rfl⟩:=B0 hx;have:=hsym i (by rw[<-hw.1];exact hi);have e:nth w i=w[i]:=by simp[nth,hi]
  rw[e] at this;simp[symB];omega
 have hright:Lj w t.parts=true:=by
  rw[Lj,AR];intro p hp;rw[hw.1];exact hS.parts p hp
 have hsum:=z1c w t.parts t.sum (zfb (by omega));rw[Ae hright,e1,zfb (by omega)] at hsum;unfold EL;rw[Ae hall,hsum];simp only;by_cases h:0<=t.sum+totW w t.parts/\t.sum+totW w t.parts<=1114111
 ·have hvb:valB t.outer (t.sum+totW w t.parts)=true:=(Li ho (by omega)).1
  have hv2:=F2 ho (x:=t.sum+totW w t.parts) (by omega);rw[Ae h,Ae (by simp[hvb];omega),show IntKind.i64.wrap (t.base+valP t.outer (t.sum+totW w t.parts))=t.base+valP t.outer (t.sum+totW w t.parts) from IntWalk.i64_in _ (by omega)]
 ·rw[Ac h,Ac]
  simp only[valB,ho,AP,Ab,Ai];omega
theorem PH:∀{m:List Span},Plain m->m≠[]->∃a b,Tl m=some a/\UK m=some b/\memL m a/\memL m b/\∀v,memL m v->a<=v/\v<=b
 |[],_,h=>absurd rfl h
 |[s],h,_=>by
  have:=h.head;refine⟨s.lo,s.hi,rfl,rfl,Bs.2 (.inl (by omega)),Bs.2 (.inl (by omega)),λv hv=>?_⟩;rw[Bs] at hv;simpa [BZ] using hv
 |s::r::m,h,_=>by
  have hs:=h.head;obtain⟨a,b,e1,e2,h1,h2,h3⟩:=PH h.tail (by simp);have hb:=h.after h2;refine⟨s.lo,b,rfl,?_,Bs.2 (.inl (by omega)),Bs.2 (.inr h2),λv hv=>?_⟩
  ·simpa [UK] using e2
  ·rcases Bs.1 hv with h4|h4
   ·omega
   ·have:=h.after h4
    have:=h3 v h4;omega
theorem QZ{l:List Span}{v:Int}(h:memL l v):l≠[]:=by rintro rfl;exact BZ v h
theorem YD{l:List Span}{u:Int}(hu:memL l u)(hb:∀v,memL l v->-1073741824<=v/\v<=1073741824):OC l=true↔∀v,memL l v->0<=v/\v<=1114111:=by
 obtain⟨p1,p2⟩:=By l;have hm:∀v,memL (Bv l) v↔memL l v:=λv=>by rw[p2];exact⟨λh=>h.1,λh=>⟨h,hb v h⟩⟩
 obtain⟨a,b,e1,e2,h1,h2,h3⟩:=PH p1 (QZ ((hm u).2 hu))
 have hl:0<(l.length:Int):=by
  have:=CR.2 (QZ hu);omega
 simp only[OC,e1,e2,Option.getD_some,Ab,Ai];constructor
 ·rintro⟨_,k1,k2⟩ v hv
  have:=h3 v ((hm v).2 hv);omega
 ·intro h
  exact⟨hl,(h a ((hm a).1 h1)).1,(h b ((hm b).1 h2)).2⟩
theorem z90{gs:List (List Span)}:Lw gs gs.length=true↔∃w,Win (gs.map symI) w:=by
 rw[Lw,AA,AR];constructor
 ·intro h
  refine⟨(gs.map symI).map λs=>(nth s 0).lo,by simp,λi hi=>?_⟩;have hi':i<gs.length:=by simpa using hi
  have h1:=h _ (Bo hi');have e1:nth (gs.map symI) i=symI (nth gs i):=by simp[nth,hi']
  have e2:nth ((gs.map symI).map λs=>(nth s 0).lo) i=(nth (symI (nth gs i)) 0).lo:=by simp[nth,hi']
  rw[e1,e2];simp only[Ai] at h1;have hm:=Bo (l:=symI (nth gs i)) (i:=0) (by omega);have hs:=(Tj (nth gs i)).2 _ hm;exact⟨_,hm,by omega,by omega⟩
 ·rintro⟨w,hw⟩ g hg
  obtain⟨i,hi,rfl⟩:=B0 hg;have h1:=hw.2 i (by simpa using hi);have e1:nth (gs.map symI) i=symI gs[i]:=by simp[nth,hi]
  rw[e1] at h1;have:=CR.2 (QZ h1);simp only[Ai];omega
theorem YE{t:Term}{gs:List (List Span)}(h4:gs.length<=4)(hn:Dz t=true)(hp:prtB t gs.length=true):
 ((F6 t gs).2=true↔∀w,Win (gs.map symI) w->(EL t w).isSome=true)/\((F6 t gs).2=false->(F6 t gs).1=[]) /\
 ((F6 t gs).2=true->Plain (F6 t gs).1/\∀v,memL (F6 t gs).1 v↔∃w,Win (gs.map symI) w/\EL t w=some v):=by
 have hS:=Lx hp h4;have hnum:=hn;simp only[Dz,Ab,Ai] at hnum;obtain⟨⟨⟨hb,hs⟩,ho⟩,_,hl⟩:=hnum;have hsm:=G8 hs;have hbm:=G8 hb
 have hI:F5 t gs=if Lw gs gs.length=false then ([],true) else (Io t (gs.map symI),OC (Io t (gs.map symI))):=by
  rw[F5,Ac (by simp[hn];omega),Ac (by simp[hp])]
 have hsome:=@z90 gs;cases hB:Lw gs gs.length
 ·rw[hB] at hI hsome
  have hno:∀w,¬Win (gs.map symI) w:=λw hw=>by have:=hsome.2 ⟨w,hw⟩;cases this
  have e:F6 t gs=([],true):=by rw[F6,hI];simp
  rw[e];refine⟨⟨λ_ w hw=>absurd hw (hno w),λ_=>rfl⟩,λh=>(by cases h),λ_=>⟨⟨by simp,by simp⟩,λv=>⟨λh=>absurd h (BZ v),λ⟨w,hw,_⟩=>absurd hw (hno w)⟩⟩⟩
 ·rw[hB] at hI hsome
  obtain⟨w0,hw0⟩:=hsome.1 rfl;obtain⟨v1,v2⟩:=z2y hS hl hs ⟨w0,hw0⟩
  have hbd:∀w,Win (gs.map symI) w->0<=totW w t.parts/\totW w t.parts<=264241152:=λw hw=>by
   obtain⟨_,b1,b2⟩:=UT (w:=w) hS.parts (λp hp=>by
    have:=HT (hS.parts p hp)
    exact (hS.syms _ (Bo (by omega))).mem (hw.2 _ (by omega)))
   omega
  have hin:=YD ((v2 _).2 ⟨w0,hw0,rfl⟩) (λv hv=>by
   obtain⟨w,hw,rfl⟩:=(v2 v).1 hv;have:=hbd w hw
   omega)
  have hin2:OC (Io t (gs.map symI))=true↔∀w,Win (gs.map symI) w->(EL t w).isSome=true:=by
   rw[hin];constructor
   ·intro h w hw
    rw[IA hS hn hw,Ae (h _ ((v2 _).2 ⟨w,hw,rfl⟩))];rfl
   ·intro h v hv
    obtain⟨w,hw,rfl⟩:=(v2 v).1 hv;have:=h w hw;rw[IA hS hn hw] at this;split at this
    ·assumption
    ·cases this
  have hne:(Io t (gs.map symI)).length≠0:=λh=>QZ ((v2 _).2 ⟨w0,hw0,rfl⟩) (Av h);cases hi:OC (Io t (gs.map symI))
  ·have e:F6 t gs=([],false):=by rw[F6,hI];simp[hi]
   rw[e];rw[hi] at hin2;exact⟨hin2,λ_=>rfl,λh=>by cases h⟩
  ·have e:F6 t gs=(Fl (imgL t.outer (Io t (gs.map symI))) t.base,true):=by
    rw[F6,hI];simp[hi,hne]
   rw[e];rw[hi] at hin2;refine⟨hin2,λh=>(by cases h),λ_=>⟨?_,λv=>?_⟩⟩
   ·unfold Fl
    split
    ·exact⟨by simp,by simp⟩
    ·exact (By _).1
   ·obtain⟨_,i2⟩:=WM (Io t (gs.map symI)) ho
    rw[W7 (by omega),i2];constructor
    ·rintro⟨⟨⟨x,h1,h2,h3⟩,_⟩,_⟩
     obtain⟨w,hw,rfl⟩:=(v2 x).1 h1;have hv:=hin.1 hi _ h1;exact⟨w,hw,by rw[IA hS hn hw,Ae hv,h3];congr 1;omega⟩
    ·rintro⟨w,hw,h⟩
     have hm:=(v2 _).2 ⟨w,hw,rfl⟩;have hv:=hin.1 hi _ hm;rw[IA hS hn hw,Ae hv] at h;have hvs:=F2 ho (x:=t.sum+totW w t.parts) (by omega);simp only[Ap] at h;exact⟨⟨⟨_,hm,by omega,by omega⟩,by omega⟩,by omega⟩
def E3(s x:Int):Bool:=decide ((s=1/\0<=x/\x<256)\/(s=2/\0<=x/\x<1114112/\(x<55296\/57344<=x)))
theorem z91(s x:Int)(hx:-2147483648<=x/\x<=2147483647):PC Tryz.prog 45 [.int .i64 s,.int .i32 x] (.bool (E3 s x)):=by
 refine Cg Yh ?_;unfold Po;(with_reducible repeat'(first|simp (disch:=omega) only[push_cast,↓zz,seval]|apply Aa|refine sp_ ?_ ?_<;>intro hc<;>push_cast at hc|omega|intro _))
 all_goals
  rw[E3]
  first
   |(rw[<-decide_not,BE];omega)
   |(rw[BE];omega)
   |(rw[eq_comm,Bc];omega)
   |(rw[eq_comm,Ai];omega)
 all_goals trace_state
def fitW(t:Term)(o:Int)(w:List Int):Bool:=match EL t w with
 |some v=>decide (0<=v/\v<=1114111)&&E3 o v
 |none=>false
theorem win_cons{g:List Span}{gs:List (List Span)}{w:List Int}:Win (g::gs) w↔∃x r,w=x::r/\memL g x/\Win gs r:=by
 constructor
 ·rintro⟨h1,h2⟩
  cases w with
  |nil=>simp at h1
  |cons x r =>
   refine⟨x,r,rfl,?_,by simpa using h1,λi hi=>?_⟩
   ·exact h2 0 (by simp)
   ·exact h2 (i+1) (by simp;omega)
 ·rintro⟨x,r,rfl,h1,h2⟩
  refine⟨by simp[h2.1],λi hi=>?_⟩;cases i with
  |zero=>exact h1
  |succ i=>exact h2.2 i (by simp at hi;omega)
theorem z2z{w:List Int}:Win [] w↔w=[]:=by
 constructor
 ·rintro⟨h,_⟩;exact Av h
 ·rintro rfl;exact⟨rfl,λi hi=>by simp at hi⟩
theorem Ra{o v:Int}:memL (domL o) v↔E3 o v=true:=by
 unfold domL;simp only[E3,Ai];split
 ·rw[Bs];simp only[BZ,Ar];omega
 ·split
  ·rw[Bs,Bs];simp only[BZ,Ar];omega
  ·simp only[BZ,false_iff];omega
theorem z92{o v:Int}(h:E3 o v=true):0<=v/\v<=1114111:=by
 simp only[E3,Ai] at h;omega
theorem Of{l d:List Span}(hl:∀v,memL l v->-1073741824<=v/\v<=1073741824)(hp:Full l):Er l d=[]↔∀v,memL l v->memL d v:=by
 obtain⟨m1,m2⟩:=Ls l d;constructor
 ·intro h v hv
  rw[h] at m2;exact B3 λhn=>BZ v ((m2 v).2 ⟨hv,hl v hv,hn⟩)
 ·intro h
  cases hm:Er l d with
  |nil=>rfl
  |cons s r =>
   rw[hm] at m1 m2;obtain⟨a,_,c⟩:=(m2 s.lo).1 (Bs.2 (.inl ⟨BD _,m1.1 s (by simp)⟩));exact absurd (h _ a) c
theorem Og{t:Term}{i o n:Int}(h:H7 t i o n=true):Dz t=true/\prtB t n=true:=by
 simp only[H7,Gk,Ab] at h;obtain⟨⟨⟨⟨_,hn⟩,hr⟩,_⟩,_⟩:=h;refine⟨hn,?_⟩;rw[prtB,AR];intro p hp;have:=AR.1 hr p hp;simp only[Ab] at this;exact this.1
theorem WO{t:Term}{gs:List (List Span)}(h4:gs.length<=4)(hn:Dz t=true)(hp:prtB t gs.length=true){w:List Int}{v:Int}(hw:Win (gs.map symI) w)(hv:EL t w=some v):-1073741824<=v/\v<=1073741824:=by
 have hnum:=hn;simp only[Dz,Ab,Ai] at hnum;have hbm:=G8 hnum.1.1.1;rw[IA (Lx hp h4) hn hw] at hv;split at hv
 ·have:=F2 hnum.1.2 (x:=t.sum+totW w t.parts) (by omega)
  simp only[Ap] at hv;omega
 ·cases hv
theorem Oh{t:Term}{i o:Int}{gs:List (List Span)}(h4:gs.length<=4):Ly t i o gs=true↔H7 t i o gs.length=true/\∀w,Win (gs.map symI) w->fitW t o w=true:=by
 rw[Ly,Ab,Ab,Ai];refine and_congr_right λhr=>?_;obtain⟨hn,hp⟩:=Og hr;obtain⟨s1,s2,s3⟩:=YE h4 hn hp;constructor
 ·rintro⟨hi,hm⟩ w hw
  obtain⟨p1,p2⟩:=s3 hi;rw[Of (λv hv=>by obtain⟨w,h1,h2⟩:=(p2 v).1 hv;exact WO h4 hn hp h1 h2) p1.1] at hm;have hv:=z7r (s1.1 hi w hw);have:=Ra.1 (hm _ ((p2 _).2 ⟨w,hw,hv⟩));have hb:=z92 this;rw[fitW,hv];simp[hb,this]
 ·intro h
  have hi:(F6 t gs).2=true:=s1.2 λw hw=>by
   have:=h w hw;rw[fitW] at this;cases hv:EL t w with
   |none=>rw[hv] at this;cases this
   |some v=>rfl
  obtain⟨p1,p2⟩:=s3 hi;refine⟨hi,(Of (λv hv=>by obtain⟨w,h1,h2⟩:=(p2 v).1 hv;exact WO h4 hn hp h1 h2) p1.1).2 λv hv=>?_⟩;obtain⟨w,h1,h2⟩:=(p2 v).1 hv;have:=h w h1;rw[fitW,h2] at this;simp only[Ab] at this;exact Ra.2 this.2
theorem Jb{d:Desc}(h:Gw d=0):QV d=true/\(∀r∈d.rules,K9 d r=true)/\∀f∈d.finals,Ha d f=true:=by
 have h0:(Hb d).1=0:=by
  unfold Gw at h;split at h
  ·assumption
  ·omega
 unfold Hb at h0;split at h0
 ·simp at h0
 ·rename_i hh
  refine⟨by simpa using hh,?_⟩;split at h0
  ·simp at h0
  ·rename_i hr
   split at h0
   ·simp at h0
   ·rename_i hf
    exact⟨Ja hr,Ja hf⟩
theorem Mk{d:Desc}{out:List Term}{gs:List (List Span)}(h:Ia d out gs=true):out.length<=64/\∀t∈out,t.parts.length<=4:=by
 simp only[Ia,Ab,Ai] at h;refine⟨by omega,λt ht=>?_⟩;have:=AR.1 h.2 t ht;simp only[Ly,Ab] at this;have h2:=(Og this.1).1;simp only[Dz,Ab,Ai] at h2;exact h2.2.2
theorem z37{α β:Type}[Inhabited α](base:List β)(l:List α)(f:α->β):∃g:Nat->List β,g 0=base/\(∀k,k<l.length->g (k+1)=g k++[f (nth l k)])/\g l.length=base++l.map f/\∀k,(g k).length<=base.length+k :=
 ⟨λk=>base++(l.take k).map f,by simp,λk hk=>by simp only;rw[take_at hk];simp,by simp only;rw[AA],λk=>by simp;omega⟩
def fwdE(d:Desc):List (Int × Int):=d.rules.map λr=>(r.from_,r.to_)
def bwdE(d:Desc):List (Int × Int):=d.rules.map λr=>(r.to_,r.from_)
def endE(d:Desc):List Int:=d.finals.map (·.from_)
structure Wf(d:Desc):Prop where
 n:∃n:Nat,d.states=n/\1<=n/\n<=1024
 start:0<=d.start/\d.start<d.states
 rl:d.rules.length<=4096
 fl:d.finals.length<=4096
 r:∀r∈d.rules,(0<=r.from_/\r.from_<d.states)/\0<=r.to_/\r.to_<d.states
 f:∀f∈d.finals,0<=f.from_/\f.from_<d.states
theorem zft{d:Desc}(h:Gw d=0):Wf d:=by
 obtain⟨h1,h2,h3⟩:=Jb h;have h4:=z2t h1;refine⟨⟨d.states.toNat,by omega,by omega,by omega⟩,h4.2.2.2,h4.2.1,h4.2.2.1,λr hr=>z2u (h2 r hr),λf hf=>?_⟩;have:=h3 f hf;simp only[Ha,Ik,Ab,Ai] at this;exact this.1
theorem Wf.fwd{d:Desc}(h:Wf d){n:Nat}(hn:d.states=n):InR n [d.start] (fwdE d) where
 f s hs:=by simp only[An] at hs;subst hs;have:=h.start;omega
 e e he:=by
  obtain⟨r,hr,rfl⟩:=Au.1 he;have:=h.r r hr;simp only;omega
theorem Wf.bwd{d:Desc}(h:Wf d){n:Nat}(hn:d.states=n):InR n (endE d) (bwdE d) where
 f s hs:=by
  obtain⟨f,hf,rfl⟩:=Au.1 hs;have:=h.f f hf;omega
 e e he:=by
  obtain⟨r,hr,rfl⟩:=Au.1 he;have:=h.r r hr;simp only;omega
noncomputable def comeL (d:Desc):List Bool:=zbf d.states.toNat [d.start] (fwdE d)
noncomputable def goL (d:Desc):List Bool:=zbf d.states.toNat (endE d) (bwdE d)
theorem KB{α:Type}{p:α->Bool}:∀{l:List α}{i:Nat},(∀x∈l,p x=true)->Ip p l i=none
 |[],_,_=>rfl
 |x::l,i,h=>by rw[Ip,Ae (h x (by simp)),KB λy hy=>h y (by simp[hy])]
theorem UU{d:Desc}(h1:QV d=true)(h2:∀r∈d.rules,K9 d r=true)(h3:∀f∈d.finals,Ha d f=true)(h4:¬cycP d.rules d.states.toNat):Hb d=(0,0)/\Gw d=0:=by
 have e:Hb d=(0,0):=by
  rw[Hb,Ac (by simp[h1]),KB h2];simp only;rw[KB h3];simp only;rw[Ac h4]
 exact⟨e,by rw[Gw,e];rfl⟩
def zka(a b:Int):Desc:=⟨a,b,1,0,[],[]⟩
structure zfu(d:Desc)(k:Nat)(f:Bool)(w a l:Int):Prop where
 le:k<=d.rules.length
 fr:freeB d=(f&&(d.rules.drop k).all λr=>!CZ r)
 wi:zk7 d=(d.rules.drop k).foldl widF w
 ah:zk8 d=(d.rules.drop k).foldl aheF a
 lo:longV d=d.finals.foldl lonG ((d.rules.drop k).foldl lonF l)
 nn:0<=a
theorem zfu.step{d:Desc}{k:Nat}{f:Bool}{w a l:Int}(h:zfu d k f w a l)(hk:k<d.rules.length){f2:Bool}{w2 a2 l2:Int}(e1:f2=(f&&!CZ (nth d.rules k)))(e2:w2=widF w (nth d.rules k))(e3:a2=aheF a (nth d.rules k))(e4:l2=lonF l (nth d.rules k)):zfu d (k+1) f2 w2 a2 l2 where
 le:=by omega
 fr:=by rw[h.fr,drop_at hk,List.all_cons,e1,Bool.and_assoc]
 wi:=by rw[h.wi,fold_at hk,e2]
 ah:=by rw[h.ah,fold_at hk,e3]
 lo:=by rw[h.lo,fold_at hk,e4]
 nn:=by have:=h.nn;rw[e3,aheF];omega
theorem Ml(s:Int):PC Tryz.prog 52 [.int .i64 s] (Bf (domL s)):=by
 refine Cg O8 ?_;unfold Jk;(with_reducible repeat'(first|simp (disch:=omega) only[push_cast,↓zz,seval]|apply Aa|refine sp_ ?_ ?_<;>intro hc<;>push_cast at hc|omega|intro _))
 all_goals (simp only[domL, *];rfl)
theorem YF(l:List Span)(d:Int)(hl:l.length<=10000000000):PC Tryz.prog 51 [Bf l,.int .i64 d] (Bf (Fl l d)):=by
 have hN:=Lv l hl;have hz:(d < -2147483648\/2147483648<d)->Fl l d=[]:=λh=>by rw[Fl,Ae h]
 refine Cg Sz ?_;unfold LK;by_cases hb:d < -2147483648\/2147483648<d
 ·rw[hz hb]
  (with_reducible repeat'(first|simp (disch:=omega) only[push_cast,↓zz,seval]|apply Aa|refine sp_ ?_ ?_<;>intro hc<;>push_cast at hc|omega|intro _))
  all_goals first
   |(exfalso;omega)
   |((repeat'(first|(simp(disch:=omega)only[push_cast,↓zz,seval,DC])|omega|(with_reducible refine Aa ?_ ?_)));done)
 have hbd:=EM l;have hmv:Fl l d=Bv ((Bv l).map (Fb d)):=by rw[Fl,Ac hb]
 have hnl:(Bv l).length<=10000000000:=AZ (Ep l) hl;have hM:=Lv ((Bv l).map (Fb d)) (by simpa using hnl);rw[hmv];generalize Bv l=m at *;obtain⟨g,g0,gs,ge,gl⟩:=z37 ([]:List Span) m (Fb d);(with_reducible repeat'(first|simp (disch:=omega) only[push_cast,↓zz,seval]|apply Aa|refine sp_ ?_ ?_<;>intro hc<;>push_cast at hc|refine ee hN ?_|(refine cc hN ?_;(simp(disch:=omega)only[push_cast,↓zz,seval]);(fail_if_success change False))|omega|intro _));refine Bw (B5 (λ(k:Nat)=>k<=m.length) (λk=>m.length-k) (λk=>[(1,.int .i64 d),(5,Bf m),(6,.ref 0 1 0 (g k).length),(7,.int .i64 k)]) (λk=>[⟨2,1,false,(g k).map Cz⟩]) (λenv _=>[Dg 2 (env 6)]) 0 (by simp) ?_ ?_)
 ·(with_reducible repeat'(first|simp (disch:=omega) only[push_cast,↓zz,seval,g0]|apply Aa|refine sp_ ?_ ?_<;>intro hc<;>push_cast at hc|omega|intro _))
 intro k hk;have gk:=gl k;simp only[List.length_nil] at gk;have hgp:=AX (g k);have hpm:=AX m;rcases Ak k m.length with hkm|hkm
 ·have hx:=hbd _ (Bo hkm)
  have e1:=gs k hkm;generalize hxe:nth m k=x at *;have w1:IntKind.i64.wrap (x.lo+d)=x.lo+d:=IntWalk.i64_in _ (by omega);have w2:IntKind.i64.wrap (x.hi+d)=x.hi+d:=IntWalk.i64_in _ (by omega);refine W_T ?_;(with_reducible repeat'(first|simp (disch:=omega) only[push_cast,↓zz,seval,hpm,hxe,w1,w2]|apply Aa|refine sp_ ?_ ?_<;>intro hc<;>push_cast at hc|omega|intro _))
  all_goals
   refine⟨k+1,?_⟩;(with_reducible repeat'(first|simp (disch:=omega) only[push_cast,↓zz,seval,e1,Fb]|apply Aa|refine sp_ ?_ ?_<;>intro hc<;>push_cast at hc|omega|intro _))
 ·obtain rfl:k=m.length:=by omega
  have hge:g m.length=m.map (Fb d):=by rw[ge];simp
  rw[hge] at *;have et:List.take m.length (m.map (Fb d))=m.map (Fb d):=Ay (by simp);refine W_T ?_;(with_reducible repeat'(first|simp (disch:=omega) only[push_cast,↓zz,seval,hpm,hgp,et]|apply Aa|refine sp_ ?_ ?_<;>intro hc<;>push_cast at hc|refine ee hM ?_|(refine cc hM ?_;(simp(disch:=omega)only[push_cast,↓zz,seval,hpm,hgp,et]);(fail_if_success change False))|omega|intro _))
structure GOk(i:Int)(gs:List (List Span)):Prop where
 len:gs.length<=4
 short:∀g∈gs,g.length<=64
 some:∀g∈gs,∃v,memL g v
 dom:∀g∈gs,∀v,memL g v->E3 i v=true
theorem PI:∀{l:List Int}{a b:Int},DD l->(∀x∈l,a<=x/\x<=b)->a<=b+1->(l.length:Int)<=b-a+1
 |[],a,b,_,_,h=>by simp;omega
 |x::l,a,b,hr,hm,h=>by
  obtain⟨r1,r2⟩:=AM.1 hr;have hx:=hm x (by simp);have:=PI (a:=x+1) (b:=b) r2 (λy hy=>by have:=r1 y hy;have:=hm y (by simp[hy]);omega) (by omega)
  push_cast [List.length_cons]
  omega
structure zkb(now:List Int):Prop where
 ris:DD now
 bd:∀x∈now,-1114111<=x/\x<=1114111
 pos:0<now.length
theorem zkb.len{now:List Int}(h:zkb now):now.length<=2228223:=by
 have:=PI h.ris h.bd (by omega);omega
set_option maxRecDepth 100000
structure TOk(t:Term)(i:Int)(gs:List (List Span)):Prop where
 parts:∀p∈t.parts,E7 p gs.length=true
 four:t.parts.length<=4
 sm:-1114111<=t.sum/\t.sum<=1114111
 sort:i=1\/(i=2/\t.parts.length<=1/\∀p∈t.parts,Ii p=true)
theorem TOk.bits{t:Term}{i:Int}{gs:List (List Span)}(h:TOk t i gs):∀p∈t.parts,FL p=true:=λp hp=>by
 have:=h.parts p hp;simp only[E7,Ab] at this;exact this.2
theorem TOk.at{t:Term}{i:Int}{gs:List (List Span)}(h:TOk t i gs):∀p∈t.parts,0<=p.at_/\p.at_<gs.length:=λp hp=>HT (h.parts p hp)
theorem PK:∀{l:List Span}{last:Int},K8 last l=true↔(∀s∈l,s.lo<=s.hi/\-1073741824<=s.lo/\s.hi<=1073741824/\last+1<s.lo)/\l.Pairwise λs t=>s.hi+1<t.lo
 |[],last=>by simp[K8]
 |s::l,last=>by
  rw[K8,Ab,Ai,PK (l:=l),AM];constructor
  ·rintro⟨h1,h2,h3⟩
   refine⟨λt ht=>?_,λt ht=>(h2 t ht).2.2.2,h3⟩;rcases Af.1 ht with rfl|ht
   ·exact h1
   ·have:=h2 t ht
    omega
  ·rintro⟨h1,h2,h3⟩
   exact⟨h1 s (by simp),λt ht=>⟨(h1 t (by simp[ht])).1,(h1 t (by simp[ht])).2.1,(h1 t (by simp[ht])).2.2.1,h2 t ht⟩,h3⟩
theorem YG{g:List Span}:Jp g=true↔g=Bv g:=by
 rw[Jp,PK];constructor
 ·rintro⟨h1,h2⟩
  exact (K7 ⟨λs hs=>(h1 s hs).1,h2⟩ λs hs=>⟨(h1 s hs).2.1,(h1 s hs).2.2.1⟩).symm
 ·intro h
  have hp:=(By g).1;have hb:=EM g;rw[<-h] at hp hb;exact⟨λs hs=>by have:=hb s hs;omega,hp.2⟩
def zbh(i:Int)(g:List Span):Bool:=decide (g.length≠0)&&(decide (g.length<=64)&&(decide (g=Bv g)&&decide (Er g (domL i)=[])))
theorem YH(i:Int)(g:List Span):zbh i g=EN i g:=by
 have hc:decide (g=Bv g)=Jp g:=by rw[Db,Ai,YG]
 have h1:decide (g.length≠0)=!decide ((g.length:Int)=0):=by
  rw[Db,AQ,Ai,Bc];omega
 have h2:decide (g.length<=64)=decide ((g.length:Int)<=64):=by rw[BE];omega
 rw[zbh,EN,hc,h1,h2]
structure zkc(d:Desc):Prop where
 fin:Lz d
 rg:∀r∈d.rules,r.guards.length<=9223372036854775807
 fg:∀f∈d.finals,f.guards.length<=9223372036854775807
structure Hold(p:Prop):Prop where
 get:p
structure zbi(gs:List (List Span))(out:List Term):Prop where
 g:gs.length<=1000000000000
 gl:∀l∈gs,l.length<=1000000000000
 o:out.length<=1000000000000
 ol:∀t∈out,t.parts.length<=1000000000000
structure zkq(d:Desc):Prop where
 r:d.rules.length<=1000000000000
 rs:∀r∈d.rules,zbi r.guards r.out
 f:d.finals.length<=1000000000000
 fs:∀f∈d.finals,zbi f.guards f.out
theorem zfv(s x:Int)(hx:-2147483648<=x/\x<=2147483647):PC Tryz.prog 133 [.int .i64 s,.int .i32 x] (.bool (E3 s x)):=by
 refine Cg z0t ?_;unfold SG;(with_reducible repeat'(first|simp (disch:=omega) only[push_cast,↓zz,seval]|apply Aa|refine sp_ ?_ ?_<;>intro hc<;>push_cast at hc|omega|intro _))
 all_goals first
  |(unfold E3;first|(refine VJ ?_;omega)|(refine VK ?_;omega)|(refine MU ?_;omega))
  |(rw[eq_comm];(unfold E3;first|(refine VJ ?_;omega)|(refine VK ?_;omega)|(refine MU ?_;omega)))
  |trace_state
theorem Oi(s:Int)(l:List Int)(hl:l.length<=1000000000000)(h32:∀x∈l,-2147483648<=x/\x<=2147483647):PC Tryz.prog 97 [.int .i64 s,AH l] (.bool (l.all (E3 s))):=by
 have pI:AD (l.map (AV.int .i32))=true:=AG .i32 _;refine Cg Uy ?_;unfold N1;(with_reducible repeat'(first|simp (disch:=omega) only[push_cast,↓zz,seval,pI]|apply Aa|refine sp_ ?_ ?_<;>intro hc<;>push_cast at hc|omega|intro _))
 refine Bw (B5 (λ(k:Nat)=>k<=l.length/\l.all (E3 s)=(l.drop k).all (E3 s)) (λk=>l.length-k)
  (λk=>[(0,.int .i64 s),(7,AH l),(8,.int .i64 l.length),(9,.int .i64 k)]) (λ_=>[]) (λ_ _=>[]) 0 (by simp) ?_ ?_)
 ·(with_reducible repeat'(first|simp (disch:=omega) only[push_cast,↓zz,seval,pI]|apply Aa|refine sp_ ?_ ?_<;>intro hc<;>push_cast at hc|omega|intro _))
 rintro k ⟨hk,hr⟩;rcases Ak k l.length with hkl|hkl
 ·have hI:=zfv s (nth l k) (h32 _ (Bo hkl))
  rw[drop_at hkl,List.all_cons] at hr;generalize E3 s (nth l k)=b at *;cases b with
  |true =>
   refine W_T ?_;(with_reducible repeat'(first|simp (disch:=omega) only[push_cast,↓zz,seval,pI]|apply Aa|refine sp_ ?_ ?_<;>intro hc<;>push_cast at hc|refine ee hI ?_|(refine cc hI ?_;(simp(disch:=omega)only[push_cast,↓zz,seval,pI]);(fail_if_success change False))|omega|intro _))
   all_goals
    refine⟨k+1,?_⟩;(with_reducible repeat'(first|simp (disch:=omega) only[push_cast,↓zz,seval]|apply Aa|refine sp_ ?_ ?_<;>intro hc<;>push_cast at hc|omega|intro _));simpa using hr
  |false =>
   refine W_T ?_;(with_reducible repeat'(first|simp (disch:=omega) only[push_cast,↓zz,seval,pI]|apply Aa|refine sp_ ?_ ?_<;>intro hc<;>push_cast at hc|refine ee hI ?_|(refine cc hI ?_;(simp(disch:=omega)only[push_cast,↓zz,seval,pI]);(fail_if_success change False))|omega|intro _))
   all_goals (rw[hr];rfl)
 ·rw[Ax hkl] at hr
  refine W_T ?_;(with_reducible repeat'(first|simp (disch:=omega) only[push_cast,↓zz,seval,pI]|apply Aa|refine sp_ ?_ ?_<;>intro hc<;>push_cast at hc|omega|intro _))
  all_goals (rw[hr];rfl)
noncomputable def askV (d:Desc) (x:List Int):Int:=if Gw d≠0 then 2 else if 1024<x.length then 4 else if x.all (E3 d.in_)=true then 0 else 1
theorem z38(d:Desc)(x:List Int)(hf:Lz d)(hl:x.length<=9223372036854775807)(h32:∀v∈x,-2147483648<=v/\v<=2147483647):PC Tryz.prog 59 [E8 d,AH x] (.int .i64 (askV d x)):=by
 have hC:=PF d hf;have hF:=λ(h:¬1024<x.length)=>Oi d.in_ x (by omega) h32;have pR:=Ca d.rules;have pF:=Cn d.finals;have pI:AD (x.map (AV.int .i32))=true:=AG .i32 _;refine Cg Ut ?_;unfold Nu askV;generalize Gw d=k at *;generalize x.all (E3 d.in_)=b at *;by_cases hk:k=0
 ·subst hk
  rw[Ac (by simp)];by_cases hx:1024<x.length
  ·rw[Ae hx]
   (with_reducible repeat'(first|simp (disch:=omega) only[push_cast,↓zz,seval,pR,pF,pI]|apply Aa|refine sp_ ?_ ?_<;>intro hc<;>push_cast at hc|refine ee hC ?_|(refine cc hC ?_;(simp(disch:=omega)only[push_cast,↓zz,seval,pR,pF,pI]);(fail_if_success change False))|omega|intro _))
  ·rw[Ac hx]
   have hF:=hF hx;cases b with
   |true =>
    rw[Ae rfl];(with_reducible repeat'(first|simp (disch:=omega) only[push_cast,↓zz,seval,pR,pF,pI]|apply Aa|refine sp_ ?_ ?_<;>intro hc<;>push_cast at hc|refine ee hC ?_|refine ee hF ?_|((first|refine cc hC ?_|refine cc hF ?_);(simp(disch:=omega)only[push_cast,↓zz,seval,pR,pF,pI]);(fail_if_success change False))|omega|intro _))
   |false =>
    rw[Ac (by simp)];(with_reducible repeat'(first|simp (disch:=omega) only[push_cast,↓zz,seval,pR,pF,pI]|apply Aa|refine sp_ ?_ ?_<;>intro hc<;>push_cast at hc|refine ee hC ?_|refine ee hF ?_|((first|refine cc hC ?_|refine cc hF ?_);(simp(disch:=omega)only[push_cast,↓zz,seval,pR,pF,pI]);(fail_if_success change False))|omega|intro _))
 ·rw[Ae hk]
  (with_reducible repeat'(first|simp (disch:=omega) only[push_cast,↓zz,seval,pR,pF,pI,hk]|apply Aa|refine sp_ ?_ ?_<;>intro hc<;>push_cast at hc|refine ee hC ?_|(refine cc hC ?_;(simp(disch:=omega)only[push_cast,↓zz,seval,pR,pF,pI,hk]);(fail_if_success change False))|omega|intro _))
  all_goals trace_state
abbrev DW(d:Desc)(x:List Int)(ru fi od li:AV):AV:=.cptr (.agg [.int .i64 d.in_,.int .i64 d.out,.int .i64 d.states,.int .i64 d.start,F4 d.rules,Gh d.finals,AH x,ru,fi,od,li])
def goB(x:List Int)(gs:List (List Span))(at_:Nat):Bool:=decide (gs.length+at_<=x.length)&&(List.range gs.length).all λk=>hasI (nth gs k) (nth x (at_+k))
theorem OE{p:Nat->Bool}{k n:Nat}(h:k<n)(hp:∀j,j<k->p j=true):(p k=false->(List.range n).all p=false):=λhk=>by
 rw[List.all_eq_false];exact⟨k,by simpa using h,by simp[hk]⟩
theorem Rb(d:Desc)(x:List Int)(ru fi od li:AV)(gs:List (List Span))(at_:Nat)(hr:ru.pure=true)(hfi:fi.pure=true)(ho:od.pure=true)(hli:li.pure=true)(hx:x.length<=1000000)(h32:∀v∈x,-2147483648<=v/\v<=2147483647)(hg:∀g∈gs,g.length<=1000000)(hgl:gs.length<=1000000)(ha:at_<=1000000):
 PC Tryz.prog 65 [DW d x ru fi od li,DT gs,.int .i64 at_] (.bool (goB x gs at_)):=by
 have pR:=Ca d.rules;have pF:=Cn d.finals;have pX:AD (x.map (AV.int .i32))=true:=AG .i32 _;have pG:=Cc gs;refine Cg Ld ?_;unfold Hw;(with_reducible repeat'(first|simp (disch:=omega) only[push_cast,↓zz,seval,pR,pF,pX,pG,hr,hfi,ho,hli]|apply Aa|refine sp_ ?_ ?_<;>intro hc<;>push_cast at hc|omega|intro _))
 ·have:¬gs.length+at_<=x.length:=by omega
  simp[goB,this]
 have hfit:gs.length+at_<=x.length:=by omega
 have hgo:goB x gs at_=(List.range gs.length).all λk=>hasI (nth gs k) (nth x (at_+k)):=by simp[goB,hfit]
 rw[hgo]
 refine Bw (B5 (λ(k:Nat)=>k<=gs.length/\Hold (∀j,j<k->hasI (nth gs j) (nth x (at_+j))=true)) (λk=>gs.length-k)
  (λk=>[(0,DW d x ru fi od li),(2,.int .i64 at_),(19,DT gs),(20,.int .i64 gs.length),(21,.int .i64 k)]) (λ_=>[]) (λ_ _=>[]) 0 ⟨by simp,⟨λj hj=>by omega⟩⟩ ?_ ?_)
 ·(with_reducible repeat'(first|simp (disch:=omega) only[push_cast,↓zz,seval,pR,pF,pX,pG,hr,hfi,ho,hli]|apply Aa|refine sp_ ?_ ?_<;>intro hc<;>push_cast at hc|omega|intro _))
 rintro k ⟨hk,⟨hall⟩⟩;rcases Ak k gs.length with hkl|hkl
 ·have hHas:=z85 (nth gs k) (nth x (at_+k)) (by have:=hg _ (Bo hkl);omega)
  have hb:=h32 _ (Bo (show at_+k<x.length by omega));have hcast:((at_:Int)+k).toNat=at_+k:=by omega
  generalize hge:nth gs k=g at *;have pg:=AX g;cases hh:hasI g (nth x (at_+k)) with
  |true =>
   rw[hh] at hHas
   have hnx:Hold (∀j,j<k+1->hasI (nth gs j) (nth x (at_+j))=true):=⟨λj hj=>by
    by_cases e:j=k
    ·subst e;rw[hge];exact hh
    ·exact hall j (by omega)⟩
   clear hall;refine W_T ?_;(with_reducible repeat'(first|simp (disch:=omega) only[push_cast,↓zz,seval,pR,pF,pX,pG,hr,hfi,ho,hli,hge,pg,hcast]|apply Aa|refine sp_ ?_ ?_<;>intro hc<;>push_cast at hc|refine ee hHas ?_|(refine cc hHas ?_;(simp(disch:=omega)only[push_cast,↓zz,seval,pR,pF,pX,pG,hr,hfi,ho,hli,hge,pg,hcast]);(fail_if_success change False))|omega|intro _))
   all_goals first
    |(refine⟨k+1,?_⟩
      (with_reducible repeat'(first|simp (disch:=omega) only[push_cast,↓zz,seval,pR,pF,pX,pG,hr,hfi,ho,hli]|apply Aa|refine sp_ ?_ ?_<;>intro hc<;>push_cast at hc|omega|intro _))
      all_goals first|assumption|trace_state)
    |trace_state
  |false =>
   rw[hh] at hHas;have hno:(List.range gs.length).all (λk=>hasI (nth gs k) (nth x (at_+k)))=false:=OE hkl hall (by rw[hge];exact hh);rw[hno];clear hall hno;refine W_T ?_;(with_reducible repeat'(first|simp (disch:=omega) only[push_cast,↓zz,seval,pR,pF,pX,pG,hr,hfi,ho,hli,hge,pg,hcast]|apply Aa|refine sp_ ?_ ?_<;>intro hc<;>push_cast at hc|refine ee hHas ?_|(refine cc hHas ?_;(simp(disch:=omega)only[push_cast,↓zz,seval,pR,pF,pX,pG,hr,hfi,ho,hli,hge,pg,hcast]);(fail_if_success change False))|omega|intro _))
 ·obtain rfl:k=gs.length:=by omega
  have hyes:(List.range gs.length).all (λk=>hasI (nth gs k) (nth x (at_+k)))=true:=AR.2 λj hj=>hall j (by simpa using hj);rw[hyes];clear hall hyes;refine W_T ?_;(with_reducible repeat'(first|simp (disch:=omega) only[push_cast,↓zz,seval,pR,pF,pX,pG,hr,hfi,ho,hli]|apply Aa|refine sp_ ?_ ?_<;>intro hc<;>push_cast at hc|omega|intro _))
  all_goals trace_state
theorem z93(d:Desc)(x:List Int)(ru fi od li:AV)(f:Hq)(at_:Nat)(hr:ru.pure=true)(hfi:fi.pure=true)(ho:od.pure=true)(hli:li.pure=true)(hx:x.length<=1000000)(h32:∀v∈x,-2147483648<=v/\v<=2147483647)(hg:∀g∈f.guards,g.length<=1000000)(hgl:f.guards.length<=1000000)(ha:at_<=1000000):
 PC Tryz.prog 63 [DW d x ru fi od li,Wp f,.int .i64 at_] (.bool (decide (f.guards.length+at_=x.length)&&goB x f.guards at_)):=by
 have pR:=Ca d.rules;have pF:=Cn d.finals;have pX:AD (x.map (AV.int .i32))=true:=AG .i32 _;have pG:=Cc f.guards;have pT:=CI f.out;have hF:=Rb d x ru fi od li f.guards at_ hr hfi ho hli hx h32 hg hgl ha;refine Cg Lc ?_;unfold Hv;generalize goB x f.guards at_=b at *;by_cases he:f.guards.length+at_=x.length
 ·rw[AO he,AP]
  have he2:(f.guards.length:Int)=(x.length:Int)-at_:=by omega
  (with_reducible repeat'(first|simp (disch:=omega) only[push_cast,↓zz,seval,pR,pF,pX,pG,pT,hr,hfi,ho,hli,he2]|apply Aa|refine sp_ ?_ ?_<;>intro hc<;>push_cast at hc|refine ee hF ?_|(refine cc hF ?_;(simp(disch:=omega)only[push_cast,↓zz,seval,pR,pF,pX,pG,pT,hr,hfi,ho,hli,he2]);(fail_if_success change False))|omega|intro _))
  all_goals first|omega|trace_state
 ·rw[Bb he,Bh]
  have he2:¬(f.guards.length:Int)=(x.length:Int)-at_:=by omega
  (with_reducible repeat'(first|simp (disch:=omega) only[push_cast,↓zz,seval,pR,pF,pX,pG,pT,hr,hfi,ho,hli,he2]|apply Aa|refine sp_ ?_ ?_<;>intro hc<;>push_cast at hc|refine ee hF ?_|(refine cc hF ?_;(simp(disch:=omega)only[push_cast,↓zz,seval,pR,pF,pX,pG,pT,hr,hfi,ho,hli,he2]);(fail_if_success change False))|omega|intro _))
  all_goals first|omega|trace_state
def FY(out:List Term)(w:List Int):List Int:=out.map λt=>IntKind.i32.wrap ((EL t w).getD 0)
theorem PL(d:Desc)(x:List Int)(ru fi od li:AV)(out:List Term)(at_ n:Nat)(hr:ru.pure=true)(hfi:fi.pure=true)(ho:od.pure=true)(hli:li.pure=true)(hx:x.length<=1000000)(h32:∀v∈x,-2147483648<=v/\v<=2147483647)(hol:out.length<=1000000)(hop:∀t∈out,t.parts.length<=1000000)(ha:at_+n<=x.length):
 PC Tryz.prog 64 [DW d x ru fi od li,Hr out,.int .i64 at_,.int .i64 n] (AH (FY out ((x.drop at_).take n))):=by
 have pR:=Ca d.rules;have pF:=Cn d.finals;have pX:AD (x.map (AV.int .i32))=true:=AG .i32 _;have pT:=CI out;have hwl:((x.drop at_).take n).length<=1000000:=by simp;omega
 have hw32:∀v∈(x.drop at_).take n,-2147483648<=v/\v<=2147483647:=λv hv=>h32 v (BB (B6 hv));have hV:=λt (ht:t∈out)=>Yp t ((x.drop at_).take n) (by have:=hop t ht;omega) (by omega) hw32;have hmw:List.take n (List.drop at_ (x.map (AV.int .i32)))=((x.drop at_).take n).map (AV.int .i32):=by rw[List.map_take,List.map_drop]
 have hcat:((at_:Int)+n).toNat=at_+n:=by omega
 have pW:AD (((x.drop at_).take n).map (AV.int .i32))=true:=AG .i32 _;have hdt:List.drop at_ (List.take (at_+n) x)=(x.drop at_).take n:=by rw[List.drop_take];simp
 have e0:∀w,FY [] w=[]:=λ_=>rfl;have wl:∀w,(FY out w).length=out.length:=λw=>by simp[FY]
 have wt:∀w,List.take out.length (FY out w)=FY out w:=λw=>Ay (by rw[wl];exact Ad _);refine Cg JA ?_;unfold GL;(with_reducible repeat'(first|simp (disch:=omega) only[push_cast,↓zz,seval,pR,pF,pX,pT,hr,hfi,ho,hli]|apply Aa|refine sp_ ?_ ?_<;>intro hc<;>push_cast at hc|omega|intro _))
 refine Bw (B5 (λ(k:Nat)=>k<=out.length) (λk=>out.length-k)
  (λk=>[(0,DW d x ru fi od li),(2,.int .i64 at_),(3,.int .i64 n),(9,.ref 0 1 0 k),(14,Hr out),(15,.int .i64 out.length),(16,.int .i64 k)]) (λk=>[⟨1,1,false,(FY (out.take k) ((x.drop at_).take n)).map (AV.int .i32)⟩]) (λenv _=>[Dg 1 (env 9)]) 0 (by simp) ?_ ?_)
 ·(with_reducible repeat'(first|simp (disch:=omega) only[push_cast,↓zz,seval,pR,pF,pX,pT,hr,hfi,ho,hli,e0]|apply Aa|refine sp_ ?_ ?_<;>intro hc<;>push_cast at hc|omega|intro _))
 intro k hk;have hlk:(FY (out.take k) ((x.drop at_).take n)).length=k:=by simp[FY];omega
 have pL:AD ((FY (out.take k) ((x.drop at_).take n)).map (AV.int .i32))=true:=AG .i32 _;rcases Ak k out.length with hkl|hkl
 ·have hVk:=hV _ (Bo hkl)
  have e1:FY (out.take (k+1)) ((x.drop at_).take n)=FY (out.take k) ((x.drop at_).take n)++[IntKind.i32.wrap ((EL (nth out k) ((x.drop at_).take n)).getD 0)]:=by rw[FY,take_at hkl,Ao];rfl
  generalize hte:nth out k=t at *;have pP:=IU t.parts;generalize FY (out.take k) ((x.drop at_).take n)=L at *;refine W_T ?_;(with_reducible repeat'(first|simp (disch:=omega) only[push_cast,↓zz,seval,pR,pF,pX,pT,hr,hfi,ho,hli,hte,pP,hmw,hcat,pW,hdt]|apply Aa|refine sp_ ?_ ?_<;>intro hc<;>push_cast at hc|refine ee hVk ?_|(refine cc hVk ?_;(simp(disch:=omega)only[push_cast,↓zz,seval,pR,pF,pX,pT,hr,hfi,ho,hli,hte,pP,hmw,hcat,pW,hdt]);(fail_if_success change False))|omega|intro _))
  all_goals
   refine⟨k+1,?_⟩;(with_reducible repeat'(first|simp (disch:=omega) only[push_cast,↓zz,seval,e1,pL,pR,pF,pX,pT,hr,hfi,ho,hli]|apply Aa|refine sp_ ?_ ?_<;>intro hc<;>push_cast at hc|omega|intro _))
 ·obtain rfl:k=out.length:=by omega
  have et:out.take out.length=out:=Ay (by omega);rw[et] at hlk pL ⊢;refine W_T ?_;(with_reducible repeat'(first|simp (disch:=omega) only[push_cast,↓zz,seval,pR,pF,pX,pT,hr,hfi,ho,hli,pL,et,wl,wt]|apply Aa|refine sp_ ?_ ?_<;>intro hc<;>push_cast at hc|omega|intro _))
  all_goals trace_state
def ltW:List Int->List Int->Bool
 |[],[]=>false
 |[],_::_=>true
 |_::_,[]=>false
 |a::l,b::m=>if a<b then true else if b<a then false else ltW l m
theorem GE:∀a,ltW a a=false
 |[]=>rfl
 |a::l=>by simp[ltW,GE l]
theorem IB:∀a b c,ltW a b=true->ltW b c=true->ltW a c=true
 |[],[],_,h,_=>by simp[ltW] at h
 |[],b::m,[],_,h=>by simp[ltW] at h
 |[],_::_,_::_,_,_=>rfl
 |_::_,[],_,h,_=>by simp[ltW] at h
 |_::_,_::_,[],_,h=>by simp[ltW] at h
 |a::l,b::m,c::n,h1,h2=>by
  simp only[ltW] at h1 h2 ⊢;split at h1
  ·split at h2
   ·rw[Ae (by omega)]
   ·split at h2
    ·cases h2
    ·rw[Ae (by omega)]
  ·split at h1
   ·cases h1
   ·split at h2
    ·rw[Ae (by omega)]
    ·split at h2
     ·cases h2
     ·rw[Ac (by omega),Ac (by omega)]
      exact IB l m n h1 h2
theorem IC:∀a b,ltW a b=false->ltW b a=false->a=b
 |[],[],_,_=>rfl
 |[],_::_,h,_=>by simp[ltW] at h
 |_::_,[],_,h=>by simp[ltW] at h
 |a::l,b::m,h1,h2=>by
  have e1:¬a<b:=λh=>by simp[ltW,h] at h1
  have e2:¬b<a:=λh=>by simp[ltW,h] at h2
  rw[ltW,Ac e1,Ac e2] at h1;rw[ltW,Ac e2,Ac e1] at h2;have:a=b:=by omega
  rw[this,IC l m h1 h2]
def Oj(l:List (List Int)):Prop:=l.Pairwise λa b=>ltW a b=true
theorem Rc:∀{l m:List (List Int)},Oj l->Oj m->(∀w,w∈l↔w∈m)->l=m
 |[],[],_,_,_=>rfl
 |[],b::m,_,_,h=>by have:=(h b).2 (by simp);cases this
 |a::l,[],_,_,h=>by have:=(h a).1 (by simp);cases this
 |a::l,b::m,h1,h2,h=>by
  rw[Oj,AM] at h1 h2
  have e:a=b:=by
   rcases Af.1 ((h a).1 (by simp)) with e|ha
   ·exact e
   ·rcases Af.1 ((h b).2 (by simp)) with e|hb
    ·exact e.symm
    ·have k1:=h1.1 b hb
     have k2:=h2.1 a ha;have:=IB _ _ _ k1 k2;rw[GE] at this;cases this
  subst e;have hna:a∉l:=λhm=>by have:=h1.1 a hm;rw[GE] at this;cases this
  have hnb:a∉m:=λhm=>by have:=h2.1 a hm;rw[GE] at this;cases this
  rw[Rc (l:=l) (m:=m) h1.2 h2.2 λw=>?_];constructor
  ·intro hw
   rcases Af.1 ((h w).1 (by simp[hw])) with e|e
   ·subst e;exact absurd hw hna
   ·exact e
  ·intro hw
   rcases Af.1 ((h w).2 (by simp[hw])) with e|e
   ·subst e;exact absurd hw hnb
   ·exact e
def insU(w:List Int):List (List Int)->List (List Int)
 |[]=>[w]
 |a::l=>if ltW w a=true then w::a::l else if ltW a w=true then a::insU w l else a::l
theorem Re(w:List Int):∀(l:List (List Int))(v:List Int),v∈insU w l↔v=w\/v∈l
 |[],v=>by simp[insU]
 |a::l,v=>by
  simp only[insU];split
  ·simp
  ·split
   ·rw[Af,Re w l v,Af]
    constructor
    ·rintro (h|h|h)
     ·exact .inr (.inl h)
     ·exact .inl h
     ·exact .inr (.inr h)
    ·rintro (h|h|h)
     ·exact .inr (.inl h)
     ·exact .inl h
     ·exact .inr (.inr h)
   ·rename_i h1 h2
    have e:w=a:=IC w a (by simpa using h1) (by simpa using h2);subst e;simp
theorem Ts(w:List Int):∀{l:List (List Int)},Oj l->Oj (insU w l)
 |[],_=>DN _ _
 |a::l,h=>by
  have h':=h;rw[Oj,AM] at h';simp only[insU];split
  ·rename_i h1
   refine AM.2 ⟨λv hv=>?_,h⟩;rcases Af.1 hv with rfl|hv
   ·exact h1
   ·exact IB _ _ _ h1 (h'.1 v hv)
  ·split
   ·rename_i h2
    refine AM.2 ⟨λv hv=>?_,Ts w h'.2⟩;rcases (Re w l v).1 hv with rfl|hv
    ·exact h2
    ·exact h'.1 v hv
   ·exact h
def Jh(l:List (List Int)):List (List Int):=l.foldr insU []
theorem ID:∀(l:List (List Int))(v:List Int),v∈Jh l↔v∈l
 |[],v=>Iff.rfl
 |a::l,v=>by
  show v∈insU a (Jh l)↔_;rw[Re,ID l v,Af]
theorem Jc:∀(l:List (List Int)),Oj (Jh l)
 |[]=>List.Pairwise.nil
 |a::l=>Ts a (Jc l)
theorem WQ{l m:List (List Int)}(h1:Oj m)(h2:∀w,w∈m↔w∈l):Jh l=m:=Rc (Jc l) h1 λw=>(ID l w).trans (h2 w).symm
theorem WR(w:List Int):∀l:List (List Int),(insU w l).length<=l.length+1
 |[]=>by simp[insU]
 |a::l=>by
  have:=WR w l;simp only[insU];repeat' split
  all_goals simp;try omega
theorem Tt:∀l:List (List Int),(Jh l).length<=l.length
 |[]=>Ad _
 |a::l=>by
  have:=Tt l;have h2:=WR a (Jh l);show (insU a (Jh l)).length<=_;simp;omega
theorem KC{α:Type}:∀{l m:List α},l.Nodup->(∀w∈l,w∈m)->l.length<=m.length
 |[],m,_,_=>A6 _
 |a::l,m,hn,h=>by
  obtain⟨s,t,rfl⟩:=List.append_of_mem (h a (by simp));rw[BX] at hn
  have:=KC (l:=l) (m:=s++t) hn.2 λw hw=>by
   have:=h w (by simp[hw]);simp only[Am,Af] at this ⊢;rcases this with h1|h1|h1
   ·exact .inl h1
   ·subst h1;exact absurd hw hn.1
   ·exact .inr h1
  simp only[Ah,List.length_cons] at this ⊢;omega
def epsI(l:List Rule)(s:Int):List Nat:=(List.range l.length).filter λi=>CZ (nth l i)&&decide ((nth l i).from_=s)
theorem WS{l:List Rule}{s:Int}{i:Nat}:i∈epsI l s↔i<l.length/\CZ (nth l i)=true/\(nth l i).from_=s:=by
 simp[epsI]
def okP(l:List Rule):Int->List Nat->Prop
 |_,[]=>True
 |s,i::p=>i∈epsI l s/\okP l (nth l i).to_ p
def endP(l:List Rule):Int->List Nat->Int
 |s,[]=>s
 |_,i::p=>endP l (nth l i).to_ p
theorem zkd{l:List Rule}{on:Nat->Bool}{i j:Nat}(hi:i<l.length)(he:CZ (nth l i)=true)(ho:on (nth l i).from_.toNat=true)(ht:(nth l i).to_=j):onF l on j=true:=by
 rw[onF,Ci];exact⟨nth l i,Bo hi,by simp[he,ho,ht]⟩
theorem zbj{l:List Rule}{n:Nat}(hl:∀r∈l,(0<=r.from_/\r.from_<n)/\0<=r.to_/\r.to_<n):∀(p:List Nat)(k:Nat)(s:Int),0<=s->onK l k s.toNat=true->okP l s p->onK l (k+p.length) (endP l s p).toNat=true
 |[],k,s,_,ho,_=>ho
 |i::p,k,s,hs,ho,hp=>by
  obtain⟨h1,h2,h3⟩:=WS.1 hp.1;have hr:=hl _ (Bo h1);have ht:onK l (k+1) (nth l i).to_.toNat=true:=zkd h1 h2 (by rw[h3];exact ho) (by omega);have:=zbj hl p (k+1) (nth l i).to_ hr.2.1 ht hp.2;rw[List.length_cons,show k+(p.length+1)=k+1+p.length by omega];exact this
theorem zfw{l:List Rule}{n:Nat}(hl:∀r∈l,(0<=r.from_/\r.from_<n)/\0<=r.to_/\r.to_<n)(hc:¬cycP l n){s:Int}(hs:0<=s){p:List Nat}(hp:okP l s p):p.length<=n+1:=by
 have hcr:¬cycR l n=true:=λh=>hc ((z7u hl).1 h)
 have:∃k,k<=n/\Ys l (onK l k)=false:=by
  refine B3 λhh=>hcr ?_;rw[cycR,AR];intro k hk;refine B3 λh2=>hh ⟨k,by simp at hk;omega,by simpa using h2⟩
 obtain⟨k,hk,hkf⟩:=this
 have hno:∀j,onK l (k+1) j=false:=λj=>by
  refine B3 λhh=>?_;have h1:onF l (onK l k) j=true:=by simpa [onK] using hh
  rw[onF,Ci] at h1;obtain⟨r,hr,h2⟩:=h1;simp only[Ab] at h2
  have:Ys l (onK l k)=true:=by
   rw[Ys,Ci];exact⟨r,hr,by simp[h2.1,h2.2.1]⟩
  rw[hkf] at this;cases this
 refine B3 λhlen=>?_;have h1:=zbj hl p 0 s hs rfl hp;rw[AW] at h1
 have down:∀m j,onK l (k+1+m) j=true->onK l (k+1) j=true:=λm=>by
  induction m with
  |zero=>exact λj h=>h
  |succ m ih=>exact λj h=>ih j (QM l _ j h)
 have:=down (p.length-(k+1)) (endP l s p).toNat (by rw[show k+1+(p.length-(k+1))=p.length by omega];exact h1);rw[hno] at this;cases this
theorem Rf(l:List Rule):∀(s:Int)(p q:List Nat),endP l s (p++q)=endP l (endP l s p) q
 |s,[],q=>rfl
 |s,i::p,q=>Rf l _ p q
theorem UV(l:List Rule):∀(s:Int)(p q:List Nat),okP l s (p++q)↔okP l s p/\okP l (endP l s p) q
 |s,[],q=>by simp[okP,endP]
 |s,i::p,q=>by simp[okP,endP,UV l _ p q,and_assoc]
def FR(x:List Int)(out:List Term)(gs:List (List Span))(at_:Nat):List Int:=FY out ((x.drop at_).take gs.length)
inductive RelW(d:Desc)(x:List Int):Nat->Int->List Int->Prop
 |fin {at_:Nat} {s:Int} (f:Hq):f∈d.finals->f.from_=s->f.guards.length+at_=x.length->goB x f.guards at_=true->RelW d x at_ s (FR x f.out f.guards at_)
 |step {at_:Nat} {s:Int} (r:Rule) (w:List Int):r∈d.rules->r.from_=s->goB x r.guards at_=true->RelW d x (at_+r.eat.toNat) r.to_ w->RelW d x at_ s (FR x r.out r.guards at_++w)
theorem Ic{d:Desc}{x:List Int}{at_:Nat}{s:Int}{w:List Int}:RelW d x at_ s w ↔
 (∃f∈d.finals,f.from_=s/\(f.guards.length+at_=x.length/\goB x f.guards at_=true)/\w=FR x f.out f.guards at_) \/
 ∃r∈d.rules,r.from_=s/\goB x r.guards at_=true/\∃v,RelW d x (at_+r.eat.toNat) r.to_ v/\w=FR x r.out r.guards at_++v:=by
 constructor
 ·rintro (⟨f,h1,h2,h3,h4⟩|⟨r,v,h1,h2,h3,h4⟩)
  ·exact .inl ⟨f,h1,h2,⟨h3,h4⟩,rfl⟩
  ·exact .inr ⟨r,h1,h2,h3,v,h4,rfl⟩
 ·rintro (⟨f,h1,h2,⟨h3,h4⟩,rfl⟩|⟨r,h1,h2,h3,v,h4,rfl⟩)
  ·exact .fin f h1 h2 h3 h4
  ·exact .step r v h1 h2 h3 h4
def JK(d:Desc)(x:List Int)(at_:Nat)(s:Int)(L:List (List Int)):Prop:=Oj L/\∀w,w∈L↔RelW d x at_ s w
theorem z94{d:Desc}{x:List Int}{at_:Nat}{s:Int}{L M:List (List Int)}(h1:JK d x at_ s L)(h2:JK d x at_ s M):L=M:=Rc h1.1 h2.1 λw=>(h1.2 w).trans (h2.2 w).symm
def outL(d:Desc)(x:List Int)(S:Nat->Int->List (List Int))(at_:Nat)(s:Int):List (List Int) :=
 ((d.finals.filter λf=>decide (f.from_=s)&&(decide (f.guards.length+at_=x.length)&&goB x f.guards at_)).map λf=>FR x f.out f.guards at_) ++
 (d.rules.filter λr=>decide (r.from_=s)&&goB x r.guards at_).flatMap λr=>(S (at_+r.eat.toNat) r.to_).map (FR x r.out r.guards at_++·)
theorem z95{d:Desc}{x:List Int}{S:Nat->Int->List (List Int)}{at_:Nat}{s:Int}(h:∀r∈d.rules,r.from_=s->goB x r.guards at_=true->∀v,v∈S (at_+r.eat.toNat) r.to_↔RelW d x (at_+r.eat.toNat) r.to_ v)(w:List Int):w∈outL d x S at_ s↔RelW d x at_ s w:=by
 rw[Ic,outL,Am,Au,D7];constructor
 ·rintro (⟨f,hf,rfl⟩|⟨r,hr,hw⟩)
  ·obtain⟨h1,h2⟩:=Bn.1 hf
   simp only[Ab,Ai] at h2;exact .inl ⟨f,h1,h2.1,h2.2,rfl⟩
  ·obtain⟨h1,h2⟩:=Bn.1 hr
   simp only[Ab,Ai] at h2;obtain⟨v,hv,rfl⟩:=Au.1 hw;exact .inr ⟨r,h1,h2.1,h2.2,v,(h r h1 h2.1 h2.2 v).1 hv,rfl⟩
 ·rintro (⟨f,h1,h2,h3,rfl⟩|⟨r,h1,h2,h3,v,hv,rfl⟩)
  ·exact .inl ⟨f,Bn.2 ⟨h1,by simp[h2,h3.1,h3.2]⟩,rfl⟩
  ·exact .inr ⟨r,Bn.2 ⟨h1,by simp[h2,h3]⟩,Au.2 ⟨v,(h r h1 h2 h3 v).2 hv,rfl⟩⟩
theorem WT{d:Desc}{x:List Int}{S:Nat->Int->List (List Int)}{at_:Nat}{s:Int}(h:∀r∈d.rules,r.from_=s->goB x r.guards at_=true->JK d x (at_+r.eat.toNat) r.to_ (S (at_+r.eat.toNat) r.to_)):JK d x at_ s (Jh (outL d x S at_ s)) :=
 ⟨Jc _,λw=>(ID _ w).trans (z95 (λr h1 h2 h3 v=>(h r h1 h2 h3).2 v) w)⟩
structure Topo(l:List Rule)(n:Nat)(ord:List Nat):Prop where
 nodup:ord.Nodup
 all:∀s,s∈ord↔s<n
 eps:∀i,i<ord.length->∀r∈l,CZ r=true->r.from_=(nth ord i:Nat)->∃t:Nat,r.to_=t/\t∈ord.take i
structure Goes(d:Desc)(n:Nat):Prop where
 r:∀r∈d.rules,(0<=r.from_/\r.from_<n)/\(0<=r.to_/\r.to_<n)/\r.eat.toNat<=r.guards.length/\(CZ r=false->1<=r.eat.toNat)
theorem Jq{x:List Int}{gs:List (List Span)}{at_:Nat}(h:goB x gs at_=true):gs.length+at_<=x.length:=by
 simp only[goB,Ab,Ai] at h;exact h.1
theorem z3a{d:Desc}{n:Nat}(hg:Goes d n){r:Rule}(hr:r∈d.rules)(he:CZ r=true):r.eat.toNat=0:=by
 have h1:=(hg.r r hr).2.2.1;simp only[CZ,Ai] at he;omega
theorem zke{d:Desc}{n:Nat}{x:List Int}{ord:List Nat}(hg:Goes d n)(ht:Topo d.rules n ord):∀(k at_:Nat),x.length-at_<k->at_<=x.length->∀s:Nat,s<n->∃L,JK d x at_ s L:=by
 intro k
 induction k with
 |zero=>intro at_ h;omega
 |succ k ih =>
  intro at_ hk ha
  have key:∀i,i<=ord.length->∀s:Nat,s∈ord.take i->∃L,JK d x at_ s L:=λi=>by
   induction i with
   |zero=>intro _ s hs;simp at hs
   |succ i ihi =>
    intro hi s hs;rw[take_at (by omega),Am,An] at hs;rcases hs with hs|rfl
    ·exact ihi (by omega) s hs
    ·have hnx:∀r∈d.rules,r.from_=(nth ord i:Nat)->goB x r.guards at_=true->∃L,JK d x (at_+r.eat.toNat) r.to_ L:=λr hr hf hgo=>by
      obtain⟨_,⟨t1,t2⟩,e1,e2⟩:=hg.r r hr;have hle:=Jq hgo;cases he:CZ r with
      |true =>
       obtain⟨t,h1,h2⟩:=ht.eps i (by omega) r hr he hf;rw[z3a hg hr he,h1,Nat.add_zero];exact ihi (by omega) t h2
      |false =>
       have:=e2 he;have h3:=ih (at_+r.eat.toNat) (by omega) (by omega) r.to_.toNat (by omega)
       rwa [BK t1] at h3
     classical
     exact⟨_,WT (S:=λa t=>if h:∃L,JK d x a t L then h.choose else []) λr hr hf hgo=>by
      have h:=hnx r hr hf hgo;simp only[dif_pos h]
      exact h.choose_spec⟩
  intro s hs;exact key ord.length (Ad _) s (by rw[AA];exact (ht.all s).2 hs)
open Classical in
noncomputable def outW (d:Desc) (x:List Int) (at_:Nat) (s:Int):List (List Int):=if h:∃L,JK d x at_ s L then h.choose else []
theorem Tu{d:Desc}{x:List Int}{at_:Nat}{s:Int}(h:∃L,JK d x at_ s L):JK d x at_ s (outW d x at_ s):=by
 rw[outW,dif_pos h];exact h.choose_spec
theorem z3b{d:Desc}{x:List Int}{at_:Nat}{s:Int}{L:List (List Int)}(h:JK d x at_ s L):outW d x at_ s=L:=z94 (Tu ⟨L,h⟩) h
inductive UW(d:Desc)(x:List Int):Nat->Int->List Int->Nat->Int->Prop
 |here {at_:Nat} {s:Int}:UW d x at_ s [] at_ s
 |step {at_:Nat} {s:Int} {u:List Int} {a:Nat} {t:Int} (r:Rule):UW d x at_ s u a t->r∈d.rules->r.from_=t->goB x r.guards a=true->UW d x at_ s (u++FR x r.out r.guards a) (a+r.eat.toNat) r.to_
theorem z96{d:Desc}{x:List Int}{at_:Nat}{s:Int}{u:List Int}{a:Nat}{t:Int}(h:UW d x at_ s u a t):∀{w:List Int},RelW d x a t w->RelW d x at_ s (u++w):=by
 induction h with
 |here=>intro w hw;exact hw
 |step r _ h1 h2 h3 ih =>
  intro w hw;rw[A3];exact ih (.step r w h1 h2 h3 hw)
theorem WU{d:Desc}{x:List Int}{at_:Nat}{s:Int}{u:List Int}{a:Nat}{t:Int}(h:UW d x at_ s u a t){L M:List (List Int)}(hL:JK d x a t L)(hM:JK d x at_ s M):L.length<=M.length:=by
 have h1:(L.map (u++·)).length<=M.length:=by
  refine KC ?_ λw hw=>?_
  ·have hn:L.Nodup:=List.Pairwise.imp (λ{a b} hab (e:a=b)=>by subst e;rw[GE] at hab;cases hab) hL.1
   exact List.Pairwise.map _ (λa b hab (e:u++a=u++b)=>hab (List.append_cancel_left e)) hn
  ·obtain⟨v,hv,rfl⟩:=Au.1 hw
   exact (hM.2 _).2 (z96 h ((hL.2 v).1 hv))
 simpa using h1
abbrev Pie:=List Rule × Nat × Nat
def inP(f S:Nat)(p:Pie)(a:Nat):Prop:=a=f\/(S<=a/\a<p.2.1)
structure Host(D:Desc)(f S:Nat)(p:Pie):Prop where
 has:∀r∈p.1,r∈D.rules
 only:∀r∈D.rules,∀a:Nat,r.from_=a->inP f S p a->a≠p.2.2->r∈p.1
 fin:∀g∈D.finals,∀a:Nat,g.from_=a->inP f S p a->a=p.2.2
abbrev Sem:=Nat->Nat->List Int->Prop
structure Good(x:List Int)(sem:Sem)(nl:Bool)(f S:Nat)(p:Pie):Prop where
 mono:S<=p.2.1
 to_:inP f S p p.2.2
 same:p.2.2=f->p.1=[]/\nl=true/\p.2.1=S
 dom:∀r∈p.1,∃a c:Nat,r.from_=a/\r.to_=c/\inP f S p a/\(S<=c/\c<p.2.1)/\a≠p.2.2
 rel:∀D,Host D f S p->∀at_ w,at_<=x.length->(RelW D x at_ f w↔∃e u v,sem at_ e u/\RelW D x e p.2.2 v/\w=u++v)
 cyc:∀l n C,Wu l n C->(∀r∈l,∀c:Nat,r.to_=c->S<=c->c<p.2.1->r∈p.1)->(∀j:Nat,S<=j->j<p.2.1->C j->C f)/\(p.2.2≠f->C p.2.2->nl=true)
 semd:∀at_ e u,sem at_ e u->at_<=x.length->at_<=e/\e<=x.length/\(nl=false->at_<e)
def idS:Sem:=λa e u=>e=a/\u=[]
def seqS(s t:Sem):Sem:=λa e u=>∃e1 u1 u2,s a e1 u1/\t e1 e u2/\u=u1++u2
section
variable {x:List Int}{f S:Nat}
theorem M8(hf:f<S):Good x idS true f S ([],S,f):=by
 refine⟨Ad _,.inl rfl,λ_=>⟨rfl,rfl,rfl⟩,λr hr=>(by cases hr),λD hD a w ha=>?_,λl n C hC hl=>⟨λj h1 h2=>by simp only at h2;omega,λh=>absurd rfl h⟩,λa e u h ha=>?_⟩
 ·constructor
  ·intro h;exact⟨a,[],w,⟨rfl,rfl⟩,h,rfl⟩
  ·rintro⟨e,u,v,⟨rfl,rfl⟩,h,rfl⟩;exact h
 ·obtain⟨rfl,rfl⟩:=h
  exact⟨Ad _,ha,λh=>by cases h⟩
theorem M9{s1 s2:Sem}{n1 n2:Bool}{p1 p2:Pie}(hf:f<S)(h1:Good x s1 n1 f S p1)(h2:Good x s2 n2 p1.2.2 p1.2.1 p2):Good x (seqS s1 s2) (n1&&n2) f S (p1.1++p2.1,p2.2.1,p2.2.2):=by
 obtain⟨r1,S1,t1⟩:=p1;obtain⟨r2,S2,t2⟩:=p2;have m1:=h1.mono;have m2:=h2.mono;have to1:=h1.to_;have to2:=h2.to_;have d1:=h1.dom;have d2:=h2.dom;simp only[inP] at *;refine⟨by simp only;omega,?_,λh=>?_,λr hr=>?_,λD hD a w ha=>?_,λl n C hC hl=>?_,λa e u h ha=>?_⟩
 ·simp only[inP];omega
 ·simp only at h
  have e2:t2=t1:=by omega
  have e1:t1=f:=by omega
  obtain⟨a1,a2,a3⟩:=h1.same e1;obtain⟨b1,b2,b3⟩:=h2.same e2;simp only at a1 a3 b1 b3;refine⟨by rw[a1,b1];rfl,by rw[a2,b2];rfl,by simp only;omega⟩
 ·rcases Am.1 hr with hr|hr
  ·obtain⟨a,c,k1,k2,k3,k4,k5⟩:=d1 r hr
   refine⟨a,c,k1,k2,?_,by simp only;omega,?_⟩
   ·simp only[inP] at k3 ⊢;omega
   ·simp only[inP] at k3 ⊢;omega
  ·obtain⟨a,c,k1,k2,k3,k4,k5⟩:=d2 r hr
   refine⟨a,c,k1,k2,?_,by simp only;omega,k5⟩;simp only[inP] at k3 ⊢;omega
 ·have H1:Host D f S (r1,S1,t1):=by
   refine⟨λr hr=>hD.has r (Cv _ hr),λr hr a h3 h4 h5=>?_,λg hg a h3 h4=>?_⟩
   ·simp only[inP] at h4 h5
    have h6:=hD.only r hr a h3 (by simp only[inP];omega) (by simp only;omega);rcases Am.1 h6 with h6|h6
    ·exact h6
    ·exfalso
     obtain⟨a',c,k1,k2,k3,k4,k5⟩:=d2 r h6;have:a'=a:=by omega
     omega
   ·simp only[inP] at h4
    have h6:=hD.fin g hg a h3 (by simp only[inP];omega);simp only at h6 ⊢;omega
  have H2:Host D t1 S1 (r2,S2,t2):=by
   refine⟨λr hr=>hD.has r (C7 _ hr),λr hr a h3 h4 h5=>?_,λg hg a h3 h4=>?_⟩
   ·simp only[inP] at h4 h5
    have h6:=hD.only r hr a h3 (by simp only[inP];omega) (by simp only;omega);rcases Am.1 h6 with h6|h6
    ·exfalso
     obtain⟨a',c,k1,k2,k3,k4,k5⟩:=d1 r h6;have:a'=a:=by omega
     omega
    ·exact h6
   ·simp only[inP] at h4
    exact hD.fin g hg a h3 (by simp only[inP];omega)
  rw[h1.rel D H1 a w ha];constructor
  ·rintro⟨e,u,v,k1,k2,rfl⟩
   have ke:=(h1.semd a e u k1 ha).2.1;obtain⟨e2,u2,v2,k3,k4,rfl⟩:=(h2.rel D H2 e v ke).1 k2;exact⟨e2,u++u2,v2,⟨e,u,u2,k1,k3,rfl⟩,k4,by rw[A3]⟩
  ·rintro⟨e,u,v,⟨e1,u1,u2,k1,k2,rfl⟩,k3,rfl⟩
   have ke:=(h1.semd a e1 u1 k1 ha).2.1;exact⟨e1,u1,u2++v,k1,(h2.rel D H2 e1 _ ke).2 ⟨e,u2,v,k2,k3,rfl⟩,by rw[A3]⟩
 ·obtain⟨c1,c2⟩:=h1.cyc l n C hC λr hr c h3 h4 h5=>by
   have h6:=hl r hr c h3 h4 (by simp only at h5 ⊢;omega);rcases Am.1 h6 with h6|h6
   ·exact h6
   ·exfalso
    obtain⟨a',c',k1,k2,k3,k4,k5⟩:=d2 r h6;simp only at h5 k4;have:c'=c:=by omega
    omega
  obtain⟨c3,c4⟩:=h2.cyc l n C hC λr hr c h3 h4 h5=>by
   have h6:=hl r hr c h3 (by omega) h5;rcases Am.1 h6 with h6|h6
   ·exfalso
    obtain⟨a',c',k1,k2,k3,k4,k5⟩:=d1 r h6;have:c'=c:=by omega
    omega
   ·exact h6
  have ct:C (t1:Nat)->C (f:Nat):=λh=>by
   rcases to1 with h3|⟨h3,h4⟩
   ·rw[<-h3];exact h
   ·exact c1 t1 h3 h4 h
  refine⟨λj h3 h4 h5=>?_,λh3 h4=>?_⟩
  ·rcases Ak j S1 with h6|h6
   ·exact c1 j h3 h6 h5
   ·exact ct (c3 j h6 h4 h5)
  ·simp only at h3 h4 ⊢
   have q1:n2=true/\C (t1:Nat):=by
    by_cases e:t2=t1
    ·rw[e] at h4;exact⟨(h2.same e).2.1,h4⟩
    ·refine⟨c4 e h4,?_⟩
     rcases to2 with h7|⟨h7,h8⟩
     ·exact absurd h7 e
     ·exact c3 t2 h7 h8 h4
   have q2:n1=true:=by
    by_cases e:t1=f
    ·exact (h1.same e).2.1
    ·exact c2 e q1.2
   rw[q1.1,q2];rfl
 ·obtain⟨e1,u1,u2,k1,k2,rfl⟩:=h
  obtain⟨a1,a2,a3⟩:=h1.semd a e1 u1 k1 ha;obtain⟨b1,b2,b3⟩:=h2.semd e1 e u2 k2 a2;refine⟨by omega,b2,λh=>?_⟩;rw[Bool.and_eq_false_iff] at h;rcases h with h|h
  ·have:=a3 h;omega
  ·have:=b3 h;omega
end
def z3c(x:List Int)(r:Rule):Sem:=λa e u=>goB x r.guards a=true/\e=a+r.eat.toNat/\u=FR x r.out r.guards a
section
variable {x:List Int}{f S:Nat}
theorem KD(r:Rule)(hf:f<S)(h1:r.from_=(f:Nat))(h2:r.to_=(S:Nat))(h3:r.eat.toNat<=r.guards.length)(h4:CZ r=false->1<=r.eat.toNat):Good x (z3c x r) (CZ r) f S ([r],S+1,S):=by
 refine⟨Dq _,.inr ⟨Ad _,Nat.lt_succ_self _⟩,λh=>by simp only at h;omega,λq hq=>?_,λD hD a w ha=>?_,λl n C hC hl=>?_,λa e u h ha=>?_⟩
 ·rw[An.1 hq]
  exact⟨f,S,h1,h2,.inl rfl,⟨Ad _,Nat.lt_succ_self _⟩,by simp only;omega⟩
 ·rw[Ic]
  constructor
  ·rintro (⟨g,hg,k1,_⟩|⟨q,hq,k1,k2,v,k3,rfl⟩)
   ·have:=hD.fin g hg f k1 (.inl rfl)
    simp only at this;omega
   ·have:=hD.only q hq f k1 (.inl rfl) (by simp only;omega)
    obtain rfl:q=r:=by simpa using this
    rw[h2] at k3;exact⟨_,_,v,⟨k2,rfl,rfl⟩,k3,rfl⟩
  ·rintro⟨e,u,v,⟨k1,rfl,rfl⟩,k2,rfl⟩
   exact .inr ⟨r,hD.has r (by simp),h1,k1,v,by rw[h2];exact k2,rfl⟩
 ·have key:C (S:Nat)->CZ r=true/\C (f:Nat):=λh=>by
   obtain⟨_,q,hq,k1,k2,k3⟩:=hC _ h;have:=hl q hq S k2 (Ad _) (Nat.lt_succ_self _);obtain rfl:q=r:=by simpa using this
   rw[h1] at k3;exact⟨k1,k3⟩
  refine⟨λj h5 h6 h7=>?_,λ_ h7=>(key h7).1⟩;simp only at h6;obtain rfl:j=S:=by omega
  exact (key h7).2
 ·obtain⟨k1,rfl,rfl⟩:=h
  have:=Jq k1;exact⟨CW _ _,by omega,λh=>by have:=h4 h;omega⟩
theorem MA{r:Rule}(hg:r.guards=[])(ho:r.out=[]){a:Nat}(ha:a<=x.length):goB x r.guards a=true/\FR x r.out r.guards a=[]:=by
 rw[hg,ho];refine⟨by simp[goB,ha],rfl⟩
structure EpsR(r:Rule)(a c:Nat):Prop where
 from_:r.from_=a
 to_:r.to_=c
 guards:r.guards=[]
 out:r.out=[]
 eat:r.eat=0
theorem EpsR.eps{r:Rule}{a c:Nat}(h:EpsR r a c):CZ r=true:=by simp[CZ,h.guards]
theorem UX{D:Desc}{r:Rule}{a c:Nat}(h:EpsR r a c)(hr:r∈D.rules)(h1:∀q∈D.rules,q.from_=(a:Nat)->q=r)(h2:∀g∈D.finals,g.from_≠(a:Nat)){at_:Nat}{w:List Int}(ha:at_<=x.length):RelW D x at_ (a:Nat) w↔RelW D x at_ (c:Nat) w:=by
 obtain⟨k1,k2⟩:=MA (x:=x) h.guards h.out ha;rw[Ic];constructor
 ·rintro (⟨g,hg,k3,_⟩|⟨q,hq,k3,k4,v,k5,rfl⟩)
  ·exact absurd k3 (h2 g hg)
  ·obtain rfl:=h1 q hq k3
   rw[k2,h.to_,h.eat] at *;simpa using k5
 ·intro hw
  refine .inr ⟨r,hr,h.from_,k1,w,?_,by rw[k2];rfl⟩;rw[h.to_,h.eat];simpa using hw
inductive Star(s:Sem):Sem where
 |nil (a:Nat):Star s a a []
 |cons {a e e2:Nat} {u v:List Int}:s a e u->Star s e e2 v->Star s a e2 (u++v)
theorem zfx{s:Sem}(h:∀a e u,s a e u->a<=x.length->a<=e/\e<=x.length){a e:Nat}{u:List Int}(hs:Star s a e u):a<=x.length->a<=e/\e<=x.length:=by
 induction hs with
 |nil a=>intro ha;exact⟨Ad _,ha⟩
 |cons h1 _ ih =>
  intro ha;have h2:=h _ _ _ h1 ha;have h3:=ih h2.2;omega
theorem z3d{s:Sem}{p:Pie}(r1 r2 r3 r4:Rule)(hf:f<S)(h:Good x s false (S+1) (S+2) p)(e1:EpsR r1 f S)(e2:EpsR r2 S (S+1))(e3:EpsR r3 p.2.2 S)(e4:EpsR r4 S p.2.1):
 Good x (Star s) true f S ([r1,r2]++p.1++[r3,r4],p.2.1+1,p.2.1):=by
 obtain⟨rs,S1,t⟩:=p;have m:=h.mono;have hto:=h.to_;have hd:=h.dom;have hne:t≠S+1:=λe=>by have:=(h.same e).2.1;cases this
 simp only[inP] at m hto hd e3 e4 hne;refine⟨by simp only;omega,.inr ⟨by simp only;omega,Nat.lt_succ_self _⟩,λh=>by simp only at h;omega,λq hq=>?_,λD hD a w ha=>?_,λl n C hC hl=>?_,λa e u hs ha=>?_⟩
 ·simp only[Am,Af,Aj,Ar] at hq
  rcases hq with ((rfl|rfl)|hq)|(rfl|rfl)
  ·exact⟨f,S,e1.from_,e1.to_,.inl rfl,by simp only;omega,by simp only;omega⟩
  ·exact⟨S,S+1,e2.from_,e2.to_,.inr ⟨by omega,by simp only;omega⟩,by simp only;omega,by simp only;omega⟩
  ·obtain⟨a,c,k1,k2,k3,k4,k5⟩:=hd q hq
   exact⟨a,c,k1,k2,.inr (by simp only;omega),by simp only;omega,by simp only;omega⟩
  ·exact⟨t,S,e3.from_,e3.to_,.inr (by simp only;omega),by simp only;omega,by simp only;omega⟩
  ·exact⟨S,S1,e4.from_,e4.to_,.inr ⟨by omega,by simp only;omega⟩,by simp only;omega,by simp only;omega⟩
 ·-- where rules may come from
  have from_of:∀q∈D.rules,∀b:Nat,q.from_=(b:Nat)->(b=f\/(S<=b/\b<=S1))->b≠S1->(q=r1/\b=f)\/(q=r2/\b=S)\/q∈rs\/(q=r3/\b=t)\/(q=r4/\b=S):=λq hq b hb hb2 hb3=>by
   have h6:=hD.only q hq b hb (by simp only[inP];omega) hb3;simp only[Am,Af,Aj,Ar] at h6;rcases h6 with ((rfl|rfl)|h6)|(rfl|rfl)
   ·exact .inl ⟨rfl,by have:=e1.from_;omega⟩
   ·exact .inr (.inl ⟨rfl,by have:=e2.from_;omega⟩)
   ·exact .inr (.inr (.inl h6))
   ·exact .inr (.inr (.inr (.inl ⟨rfl,by have:=e3.from_;omega⟩)))
   ·exact .inr (.inr (.inr (.inr ⟨rfl,by have:=e4.from_;omega⟩)))
  have nf:∀b:Nat,(b=f\/(S<=b/\b<=S1))->b≠S1->∀g∈D.finals,g.from_≠(b:Nat):=λb hb hb2 g hg hc=>by
   have:=hD.fin g hg b hc (by simp only[inP];omega);exact hb2 this
  have hH:Host D (S+1) (S+2) (rs,S1,t):=by
   refine⟨λq hq=>hD.has q (by simp[hq]),λq hq b hb hb2 hb3=>?_,λg hg b hb hb2=>?_⟩
   ·simp only[inP] at hb2 hb3
    rcases from_of q hq b hb (by omega) (by omega) with h6|h6|h6|h6|h6
    ·omega
    ·omega
    ·exact h6
    ·omega
    ·omega
   ·simp only[inP] at hb2 ⊢
    exact absurd hb (nf b (by omega) (by omega) g hg)
  have m1:r1∈D.rules:=hD.has r1 (by simp);have m2:r2∈D.rules:=hD.has r2 (by simp);have m3:r3∈D.rules:=hD.has r3 (by simp);have m4:r4∈D.rules:=hD.has r4 (by simp)
  have qf:∀{b w},b<=x.length->(RelW D x b (f:Nat) w↔RelW D x b (S:Nat) w):=λhb=>UX e1 m1 (λq hq hqf=>by
   rcases from_of q hq f hqf (by omega) (by omega) with h6|h6|h6|h6|h6
   ·exact h6.1
   ·omega
   ·obtain⟨a',c',k1,k2,k3,k4,k5⟩:=hd q h6
    omega
   ·omega
   ·omega) (nf f (by omega) (by omega)) hb
  have qt:∀{b w},b<=x.length->(RelW D x b (t:Nat) w↔RelW D x b (S:Nat) w):=λhb=>UX e3 m3 (λq hq hqf=>by
   rcases from_of q hq t hqf (by omega) (by omega) with h6|h6|h6|h6|h6
   ·omega
   ·omega
   ·obtain⟨a',c',k1,k2,k3,k4,k5⟩:=hd q h6
    omega
   ·exact h6.1
   ·omega) (nf t (by omega) (by omega)) hb
  have qh:∀{b w},b<=x.length->(RelW D x b (S:Nat) w↔RelW D x b (S+1:Nat) w\/RelW D x b (S1:Nat) w):=λ{b w} hb=>by
   obtain⟨k1,k2⟩:=MA (x:=x) e2.guards e2.out hb;obtain⟨k3,k4⟩:=MA (x:=x) e4.guards e4.out hb;rw[Ic];constructor
   ·rintro (⟨g,hg,k5,_⟩|⟨q,hq,k5,k6,v,k7,rfl⟩)
    ·exact absurd k5 (nf S (by omega) (by omega) g hg)
    ·rcases from_of q hq S k5 (by omega) (by omega) with h6|h6|h6|h6|h6
     ·omega
     ·obtain⟨rfl,_⟩:=h6
      rw[k2];rw[e2.to_,e2.eat] at k7;exact .inl (by simpa using k7)
     ·obtain⟨a',c',z1,z2,z3,z4,z5⟩:=hd q h6
      omega
     ·omega
     ·obtain⟨rfl,_⟩:=h6
      rw[k4];rw[e4.to_,e4.eat] at k7;exact .inr (by simpa using k7)
   ·rintro (hw|hw)
    ·refine .inr ⟨r2,m2,e2.from_,k1,w,?_,by rw[k2];rfl⟩
     rw[e2.to_,e2.eat];simpa using hw
    ·refine .inr ⟨r4,m4,e4.from_,k3,w,?_,by rw[k4];rfl⟩
     rw[e4.to_,e4.eat];simpa using hw
  rw[qf ha]
  have fwd:∀(k b:Nat)(w:List Int),x.length-b<k->b<=x.length->RelW D x b (S:Nat) w->∃e u v,Star s b e u/\RelW D x e (S1:Nat) v/\w=u++v:=by
   intro k
   induction k with
   |zero=>intro b w hk;omega
   |succ k ih =>
    intro b w hk hb hw;rcases (qh hb).1 hw with hw|hw
    ·obtain⟨e,u,v,k1,k2,rfl⟩:=(h.rel D hH b w hb).1 hw
     obtain⟨z1,z2,z3⟩:=h.semd b e u k1 hb;have z3:=z3 rfl;obtain⟨e',u',v',k3,k4,rfl⟩:=ih e v (by omega) z2 ((qt z2).1 k2);exact⟨e',u++u',v',.cons k1 k3,k4,by rw[A3]⟩
    ·exact⟨b,[],w,.nil b,hw,rfl⟩
  have bwd:∀{b e:Nat}{u:List Int},Star s b e u->b<=x.length->∀v,RelW D x e (S1:Nat) v->RelW D x b (S:Nat) (u++v):=by
   intro b e u hs
   induction hs with
   |nil b=>intro hb v hv;exact (qh hb).2 (.inr hv)
   |cons h1 _ ih =>
    intro hb v hv;obtain⟨z1,z2,_⟩:=h.semd _ _ _ h1 hb;rw[A3];exact (qh hb).2 (.inl ((h.rel D hH _ _ hb).2 ⟨_,_,_,h1,(qt z2).2 (ih z2 v hv),rfl⟩))
  constructor
  ·intro hw
   exact fwd _ a w (Nat.lt_succ_self _) ha hw
  ·rintro⟨e,u,v,k1,k2,rfl⟩
   exact bwd k1 ha v k2
 ·have hin:∀q∈l,∀c:Nat,q.to_=(c:Nat)->S<=c->c<=S1->(q=r1/\c=S)\/(q=r2/\c=S+1)\/q∈rs\/(q=r3/\c=S)\/(q=r4/\c=S1):=λq hq c h3 h4 h5=>by
   have h6:=hl q hq c h3 h4 (by simp only;omega);simp only[Am,Af,Aj,Ar] at h6;rcases h6 with ((rfl|rfl)|h6)|(rfl|rfl)
   ·exact .inl ⟨rfl,by have:=e1.to_;omega⟩
   ·exact .inr (.inl ⟨rfl,by have:=e2.to_;omega⟩)
   ·exact .inr (.inr (.inl h6))
   ·exact .inr (.inr (.inr (.inl ⟨rfl,by have:=e3.to_;omega⟩)))
   ·exact .inr (.inr (.inr (.inr ⟨rfl,by have:=e4.to_;omega⟩)))
  obtain⟨c1,c2⟩:=h.cyc l n C hC λq hq c h3 h4 h5=>by
   simp only at h5;rcases hin q hq c h3 (by omega) (by omega) with h6|h6|h6|h6|h6
   ·omega
   ·omega
   ·exact h6
   ·omega
   ·omega
  simp only at c1 c2
  have hub:C (S:Nat)->C (f:Nat):=λhC0=>by
   obtain⟨_,q,hq,k1,k2,k3⟩:=hC _ hC0;rcases hin q hq S k2 (by omega) (by omega) with h6|h6|h6|h6|h6
   ·rw[h6.1,e1.from_] at k3;exact k3
   ·omega
   ·obtain⟨a',c',z1,z2,z3,z4,z5⟩:=hd q h6
    omega
   ·rw[h6.1,e3.from_] at k3
    have:=c2 hne k3;cases this
   ·omega
  have inn:C (S+1:Nat)->C (f:Nat):=λhC0=>by
   obtain⟨_,q,hq,k1,k2,k3⟩:=hC _ hC0;rcases hin q hq (S+1) k2 (by omega) (by omega) with h6|h6|h6|h6|h6
   ·omega
   ·rw[h6.1,e2.from_] at k3;exact hub k3
   ·obtain⟨a',c',z1,z2,z3,z4,z5⟩:=hd q h6
    omega
   ·omega
   ·omega
  have out:C (S1:Nat)->C (f:Nat):=λhC0=>by
   obtain⟨_,q,hq,k1,k2,k3⟩:=hC _ hC0;rcases hin q hq S1 k2 (by omega) (by omega) with h6|h6|h6|h6|h6
   ·omega
   ·omega
   ·obtain⟨a',c',z1,z2,z3,z4,z5⟩:=hd q h6
    omega
   ·omega
   ·rw[h6.1,e4.from_] at k3;exact hub k3
  refine⟨λj h3 h4 h5=>?_,λ_ _=>rfl⟩;simp only at h4;by_cases j1:j=S
  ·rw[j1] at h5;exact hub h5
  by_cases j2:j=S+1
  ·rw[j2] at h5;exact inn h5
  by_cases j3:j=S1
  ·rw[j3] at h5;exact out h5
  exact inn (c1 j (by omega) (by omega) h5)
 ·have:=zfx (x:=x) (λa e u h1 h2=>by have:=h.semd a e u h1 h2;exact⟨this.1,this.2.1⟩) hs ha
  exact⟨this.1,this.2,λh=>by cases h⟩
end
structure AltG(x:List Int)(sem:Sem)(nl:Bool)(f t S:Nat)(rs:List Rule)(S':Nat):Prop where
 mono:S<=S'
 dom:∀r∈rs,∃a c:Nat,r.from_=a/\r.to_=c/\(a=f\/(S<=a/\a<S'))/\(c=t\/(S<=c/\c<S'))
 rel:∀D:Desc,(∀r∈rs,r∈D.rules)->(∀r∈D.rules,∀a:Nat,r.from_=a->S<=a->a<S'->r∈rs)->(∀g∈D.finals,∀a:Nat,g.from_=a->S<=a->a<S'->False)->∀at_ w,at_<=x.length ->
  ((∃r∈rs,r.from_=(f:Nat)/\goB x r.guards at_=true/\∃v,RelW D x (at_+r.eat.toNat) r.to_ v/\w=FR x r.out r.guards at_++v)↔∃e u v,sem at_ e u/\RelW D x e (t:Nat) v/\w=u++v)
 cyc:∀l n C,Wu l n C->(∀r∈l,∀c:Nat,r.to_=c->S<=c->c<S'->r∈rs)->(∀j:Nat,S<=j->j<S'->C j->C f)/\(∀r∈rs,CZ r=true->r.to_=(t:Nat)->C r.from_->nl=true/\C f)
 semd:∀at_ e u,sem at_ e u->at_<=x.length->at_<=e/\e<=x.length/\(nl=false->at_<e)
def noS:Sem:=λ_ _ _=>False
def orS(s t:Sem):Sem:=λa e u=>s a e u\/t a e u
section
variable {x:List Int}{f t S S':Nat}
theorem zfy:AltG x noS false f t S [] S:=by
 refine⟨Ad _,λr hr=>(by cases hr),λD _ _ _ a w ha=>?_,λl n C hC hl=>⟨λj h1 h2=>by omega,λr hr=>by cases hr⟩,λa e u h=>h.elim⟩;constructor
 ·rintro⟨r,hr,_⟩;cases hr
 ·rintro⟨e,u,v,h,_⟩;exact h.elim
theorem z97{s1 s2:Sem}{n1 n2:Bool}{p:Pie}{rs:List Rule}(r1 r2:Rule)(hft:f<t)(hts:t<S)(h:Good x s1 n1 S (S+1) p)(e1:EpsR r1 f S)(e2:EpsR r2 p.2.2 t)(h2:AltG x s2 n2 f t p.2.1 rs S'):
 AltG x (orS s1 s2) (n1||n2) f t S (r1::p.1++r2::rs) S':=by
 obtain⟨ps,S1,t1⟩:=p;have m:=h.mono;have m2:=h2.mono;have hto:=h.to_;have hd:=h.dom;have hd2:=h2.dom;simp only[inP] at m m2 hto hd hd2 e2
 have mem:∀q,q∈r1::ps++r2::rs->q=r1\/q∈ps\/q=r2\/q∈rs:=λq hq=>by
  simp only[Am,Af] at hq;rcases hq with (h|h)|h|h
  ·exact .inl h
  ·exact .inr (.inl h)
  ·exact .inr (.inr (.inl h))
  ·exact .inr (.inr (.inr h))
 have ef:=e1.from_;have et:=e1.to_;have gf:=e2.from_;have gt:=e2.to_;refine⟨by omega,λq hq=>?_,λD hD ho hF a w ha=>?_,λl n C hC hl=>?_,λa e u hs ha=>?_⟩
 ·rcases mem q hq with rfl|hq|rfl|hq
  ·exact⟨f,S,ef,et,.inl rfl,.inr (by omega)⟩
  ·obtain⟨a,c,k1,k2,k3,k4,k5⟩:=hd q hq
   exact⟨a,c,k1,k2,.inr (by omega),.inr (by omega)⟩
  ·exact⟨t1,t,gf,gt,.inr (by omega),.inl rfl⟩
  ·obtain⟨a,c,k1,k2,k3,k4⟩:=hd2 q hq
   refine⟨a,c,k1,k2,by omega,by omega⟩
 ·have hH:Host D S (S+1) (ps,S1,t1):=by
   refine⟨λq hq=>hD q (by simp[hq]),λq hq b hb hb2 hb3=>?_,λg hg b hb hb2=>?_⟩
   ·simp only[inP] at hb2 hb3
    rcases mem q (ho q hq b hb (by omega) (by omega)) with rfl|h6|rfl|h6
    ·omega
    ·exact h6
    ·omega
    ·obtain⟨a',c',k1,k2,k3,k4⟩:=hd2 q h6
     omega
   ·simp only[inP] at hb2
    exact (hF g hg b hb (by omega) (by omega)).elim
  have qt:∀{b w},b<=x.length->(RelW D x b (t1:Nat) w↔RelW D x b (t:Nat) w):=λhb=>UX e2 (hD r2 (by simp)) (λq hq hqf=>by
   rcases mem q (ho q hq t1 hqf (by omega) (by omega)) with rfl|h6|h6|h6
   ·omega
   ·obtain⟨a',c',k1,k2,k3,k4,k5⟩:=hd q h6
    omega
   ·exact h6
   ·obtain⟨a',c',k1,k2,k3,k4⟩:=hd2 q h6
    omega) (λg hg hc=>hF g hg t1 hc (by omega) (by omega)) hb
  have hR:=h2.rel D (λq hq=>hD q (by simp[hq])) (λq hq b hb k1 k2=>by
   have k1:S1<=b:=k1;rcases mem q (ho q hq b hb (by omega) (by omega)) with rfl|h6|rfl|h6
   ·omega
   ·obtain⟨a',c',z1,z2,z3,z4,z5⟩:=hd q h6
    omega
   ·omega
   ·exact h6) (λg hg b hb k1 k2=>hF g hg b hb (by simp only at k1;omega) k2) a w ha
  obtain⟨k1,k2⟩:=MA (x:=x) e1.guards e1.out ha;constructor
  ·rintro⟨q,hq,hqf,hgo,v,hv,rfl⟩
   rcases mem q hq with rfl|h6|rfl|h6
   ·rw[et,e1.eat] at hv
    rw[k2];obtain⟨e,u,v',z1,z2,rfl⟩:=(h.rel D hH a v ha).1 (by simpa using hv);exact⟨e,u,v',.inl z1,(qt (h.semd a e u z1 ha).2.1).1 z2,rfl⟩
   ·obtain⟨a',c',z1,z2,z3,z4,z5⟩:=hd q h6
    omega
   ·omega
   ·obtain⟨e,u,v',z1,z2,z3⟩:=hR.1 ⟨q,h6,hqf,hgo,v,hv,rfl⟩
    exact⟨e,u,v',.inr z1,z2,z3⟩
  ·rintro⟨e,u,v,hs|hs,hv,rfl⟩
   ·refine⟨r1,by simp,ef,k1,u++v,?_,by rw[k2];rfl⟩
    rw[et,e1.eat];have:=(h.rel D hH a (u++v) ha).2 ⟨e,u,v,hs,(qt (h.semd a e u hs ha).2.1).2 hv,rfl⟩;simpa using this
   ·obtain⟨q,hq,z1,z2,z3⟩:=hR.2 ⟨e,u,v,hs,hv,rfl⟩
    exact⟨q,by simp[hq],z1,z2,z3⟩
 ·obtain⟨c1,c2⟩:=h.cyc l n C hC λq hq c h3 h4 h5=>by
   simp only at h5;rcases mem q (hl q hq c h3 (by omega) (by omega)) with rfl|h6|rfl|h6
   ·omega
   ·exact h6
   ·omega
   ·obtain⟨a',c',k1,k2,k3,k4⟩:=hd2 q h6
    omega
  obtain⟨c3,c4⟩:=h2.cyc l n C hC λq hq c h3 h4 h5=>by
   simp only at h4;rcases mem q (hl q hq c h3 (by omega) h5) with rfl|h6|rfl|h6
   ·omega
   ·obtain⟨a',c',k1,k2,k3,k4,k5⟩:=hd q h6
    omega
   ·omega
   ·exact h6
  simp only at c1 c2 c3
  have inn:C (S:Nat)->C (f:Nat):=λhC0=>by
   obtain⟨_,q,hq,k1,k2,k3⟩:=hC _ hC0;rcases mem q (hl q hq S k2 (by omega) (by omega)) with rfl|h6|rfl|h6
   ·rw[ef] at k3;exact k3
   ·obtain⟨a',c',z1,z2,z3,z4,z5⟩:=hd q h6
    omega
   ·omega
   ·obtain⟨a',c',z1,z2,z3,z4⟩:=hd2 q h6
    omega
  refine⟨λj h3 h4 h5=>?_,λq hq h3 h4 h5=>?_⟩
  ·by_cases j1:j=S
   ·rw[j1] at h5;exact inn h5
   rcases Ak j S1 with h6|h6
   ·exact inn (c1 j (by omega) h6 h5)
   ·exact c3 j h6 h4 h5
  ·rcases mem q hq with rfl|h6|rfl|h6
   ·omega
   ·obtain⟨a',c',z1,z2,z3,z4,z5⟩:=hd q h6
    omega
   ·rw[gf] at h5
    by_cases e:t1=S
    ·rw[e] at h5
     have:=(h.same e).2.1;exact⟨by rw[this];rfl,inn h5⟩
    ·have k1:=c2 e h5
     exact⟨by rw[k1];rfl,inn (c1 t1 (by omega) (by omega) h5)⟩
   ·obtain⟨k1,k2⟩:=c4 q h6 h3 h4 h5
    exact⟨by rw[k1,Bool.or_true],k2⟩
 ·rcases hs with hs|hs
  ·obtain⟨z1,z2,z3⟩:=h.semd a e u hs ha
   exact⟨z1,z2,λhn=>z3 (by rw[Bool.or_eq_false_iff] at hn;exact hn.1)⟩
  ·obtain⟨z1,z2,z3⟩:=h2.semd a e u hs ha
   exact⟨z1,z2,λhn=>z3 (by rw[Bool.or_eq_false_iff] at hn;exact hn.2)⟩
theorem z98{s:Sem}{nl:Bool}{rs:List Rule}(hft:f<t)(h:AltG x s nl f t (t+1) rs S'):Good x s nl f t (rs,S',t):=by
 have m:=h.mono;have hd:=h.dom;refine⟨by simp only;omega,.inr ⟨Ad _,by simp only;omega⟩,λe=>by simp only at e;omega,λq hq=>?_,λD hD a w ha=>?_,λl n C hC hl=>?_,h.semd⟩
 ·obtain⟨a,c,k1,k2,k3,k4⟩:=hd q hq
  refine⟨a,c,k1,k2,?_,by simp only;omega,by simp only;omega⟩;simp only[inP];omega
 ·rw[<-h.rel D hD.has (λq hq b hb k1 k2=>hD.only q hq b hb (.inr ⟨by omega,k2⟩) (by simp only;omega)) (λg hg b hb k1 k2=>by
   have:=hD.fin g hg b hb (.inr ⟨by omega,k2⟩)
   simp only at this;omega) a w ha,Ic]
  constructor
  ·rintro (⟨g,hg,k1,_⟩|⟨q,hq,k1,k2⟩)
   ·have:=hD.fin g hg f k1 (.inl rfl)
    simp only at this;omega
   ·exact⟨q,hD.only q hq f k1 (.inl rfl) (by simp only;omega),k1,k2⟩
  ·rintro⟨q,hq,k1,k2⟩
   exact .inr ⟨q,hD.has q hq,k1,k2⟩
 ·obtain⟨c1,c2⟩:=h.cyc l n C hC λq hq c h3 h4 h5=>hl q hq c h3 (by omega) h5
  have key:C (t:Nat)->nl=true/\C (f:Nat):=λhC0=>by
   obtain⟨_,q,hq,k1,k2,k3⟩:=hC _ hC0;exact c2 q (hl q hq t k2 (Ad _) (by simp only;omega)) k1 k2 k3
  refine⟨λj h3 h4 h5=>?_,λ_ h5=>(key h5).1⟩;by_cases j1:j=t
  ·rw[j1] at h5;exact (key h5).2
  ·exact c1 j (by omega) h4 h5
end
section
variable {α:Type}(w:Nat)(e:α->AV)
def gG(v:Nat)(l:List α):Grp:=⟨w,v,l.isEmpty,l.map e⟩
def fF(n:Nat)(V:Nat->Nat)(D:Nat->List α):List Grp:=(List.range n).map λi=>gG w e (V i) (D i)
def fT(o n:Nat)(V:Nat->Nat)(D:Nat->List α):List AV:=(List.range n).map λi=>AV.ref (i+o) (V i) 0 (D i).length
def fD(n:Nat)(D:Nat->List α):List AV:=(List.range n).map λi=>AV.lst w ((D i).map e)
def setD(D:Nat->List α)(i:Nat)(l:List α)(p:Nat):List α:=if p=i then l else D p
variable {w e}{n o i:Nat}{V:Nat->Nat}{D:Nat->List α}
theorem PM:(fF w e n V D).length=n:=by simp[fF]
theorem zbk:(fT o n V D).length=n:=by simp[fT]
theorem WW:(fD w e n D).length=n:=by simp[fD]
theorem z99(h:i<n):(fF w e n V D).getD i default=gG w e (V i) (D i):=CK h
theorem zkf{z:AV}(h:i<n):(fT o n V D).getD i z=.ref (i+o) (V i) 0 (D i).length:=CK h
theorem z9a{z:AV}(h:i<n):(fD w e n D).getD i z=.lst w ((D i).map e):=CK h
theorem WX(h:i<n):(fD w e n D)[i]? = some (.lst w ((D i).map e)):=by simp[fD,h]
theorem Et(he:∀x,(e x).pure=true)(l:List α):AD (l.map e)=true:=BU.2 λx hx=>by
 obtain⟨y,_,rfl⟩:=Au.1 hx;exact he y
theorem FN(he:∀x,(e x).pure=true):AD (fD w e n D)=true:=BU.2 λx hx=>by
 obtain⟨i,_,rfl⟩:=Au.1 hx;exact Et he _
theorem zbl{l:List α}(h:i<n):(fT o n V D).set i (.ref (i+o) (V i+1) 0 l.length)=fT o n (setV V i (V i+1)) (setD D i l):=by
 rw[fT,Es h,fT];refine AS λj _=>?_;by_cases hj:j=i
 ·subst hj;simp[setV,setD]
 ·simp[setV,setD,hj]
theorem zbm{l:List α}(hl:l≠[])(h:i<n):(fF w e n V D).set i ⟨w,V i+1,false,l.map e⟩=fF w e n (setV V i (V i+1)) (setD D i l):=by
 rw[fF,Es h,fF];refine AS λj _=>?_;by_cases hj:j=i
 ·subst hj
  cases l with
  |nil=>exact absurd rfl hl
  |cons a l=>simp[setV,setD,gG]
 ·simp[setV,setD,hj,gG]
theorem zfz(l:List α):(!l.isEmpty||(l.map e).isEmpty)=true:=by cases l<;>rfl
theorem zbn{F R:List Grp}(hF:F.length=n)(h:i<n):(F++R).getD i default=F.getD i default:=by
 rw[Aq,A7 (by omega),<-Aq]
theorem zg0{F R:List Grp}(hF:F.length=n)(k:Nat):(F++R).getD (n+k) default=R.getD k default:=by
 rw[Aq,AE (by omega),<-Aq];congr 1;omega
theorem MB{F R:List Grp}(hF:F.length=n):(F++R).getD n default=R.getD 0 default:=by
 have:=zg0 (R:=R) hF 0;simpa using this
theorem UY{G:Grp}:∀{F R:List Grp}{i:Nat},i<F.length->setQ (F++R) i G=some (F.set i G++R)
 |[],_,_,h=>by simp at h
 |a::F,R,0,h=>rfl
 |a::F,R,i+1,h=>by rw[List.cons_append,setQ,UY (by simpa using h)];rfl
theorem WY{G:Grp}:∀(F R:List Grp){n:Nat}(k:Nat),F.length=n->setQ (F++R) (n+k) G=(setQ R k G).map (F++·)
 |[],R,n,k,h=>by
  obtain rfl:n=0:=by simpa using h.symm
  rw[AW,List.nil_append];cases setQ R k G<;>rfl
 |a::F,R,n,k,h=>by
  obtain⟨m,rfl⟩:∃m,n=m+1:=⟨n-1,by simp at h;omega⟩;rw[show m+1+k=m+k+1 by omega,List.cons_append,setQ,WY F R k (by simpa using h)];cases setQ R k G<;>rfl
theorem Tv{G:Grp}(F R:List Grp){n:Nat}(h:F.length=n):setQ (F++R) n G=(setQ R 0 G).map (F++·):=by
 have:=WY (G:=G) F R 0 h;simpa using this
theorem WZ{ks:List Nat}{F R:List Grp}{G:Grp}{p i:Nat}(hi:i<F.length)(h:p+i∈ks):CU p ks (F++R) (F.set i G++R):=by
 rw[<-EG _ _ hi];exact JI h
theorem zkg:fF w e n (λ_=>1) (λ_=>[])=(List.replicate n w).map Im:=by
 rw[CY];refine Cj (by simp[fF]) λi h1 h2=>?_;simp only[fF,E9,DX,List.getElem_replicate];rfl
theorem zg1{l:List Grp}{o n:Nat}(hw:0<w)(h:∀i,i<n->l.getD (i+o) default=Im w/\i+o<l.length):leSL l (List.replicate n .nilS) (fT o n (λ_=>1) λ_=>([]:List α)):=by
 have key:∀idx:List Nat,(∀i∈idx,i<n)->leSL l (List.replicate idx.length .nilS) (idx.map λi=>AV.ref (i+o) 1 0 0):=λidx=>by
  induction idx with
  |nil=>exact λ_=>rfl
  |cons i idx ih =>
   intro hi;obtain⟨h1,h2⟩:=h i (hi i (by simp));refine⟨?_,ih λj hj=>hi j (by simp[hj])⟩;show 0=0/\0=0/\(l.getD (i+o) default).ver=1/\0<(l.getD (i+o) default).w/\(l.getD (i+o) default).xs=[]/\(l.getD (i+o) default).exact=true/\i+o<l.length;rw[h1];exact⟨rfl,rfl,rfl,hw,rfl,rfl,h2⟩
 have:=key (List.range n) λi hi=>by simpa using hi
 rwa [CH] at this
theorem zbo{m o:Nat}(h:n+o<=m):ltL m (fT o n V D):=by
 have key:∀(l:List Nat),(∀i∈l,i<n)->ltL m (l.map λi=>AV.ref (i+o) (V i) 0 (D i).length):=λl=>by
  induction l with
  |nil=>exact λ_=>trivial
  |cons i l ih =>
   intro h';exact⟨by have:=h' i (by simp);show i+o<_;omega,ih λj hj=>h' j (by simp[hj])⟩
 exact key _ λi hi=>by simpa using hi
theorem zbp{m:Nat}(he:∀x,(e x).pure=true):∀G∈fF w e n V D,ltL m G.xs:=λG hG=>by
 obtain⟨i,_,rfl⟩:=Au.1 hG;exact CM _ _ (Et he _)
theorem PN(l0:List Grp){G':Grp}:∀{l:List Grp}{t:Nat},t<l.length->ZQ l0 (l.getD t default) G'->Ho l0 l (l.set t G')
 |[],_,h,_=>by simp at h
 |a::l,0,_,h=>⟨h,JJ l0 l⟩
 |a::l,t+1,hl,h=>⟨⟨rfl,rfl,id,Br _ _⟩,PN l0 (by simpa using hl) (by simpa using h)⟩
theorem z3e{m b t v:Nat}{env:Env}{l:List Grp}{ex:Bool}(hw:0<w)(ht:t<l.length)(hg:l.getD t default=⟨1,v,ex,List.replicate n .nilS⟩):
 Ent m b env (Abs.hl l) env (Abs.hl (l.set t ⟨1,v,ex,fT l.length n (λ_=>1) λ_=>([]:List α)⟩++fF w e n (λ_=>1) λ_=>[])):=by
 refine (Q1 (List.replicate n w) (λx hx=>by have:=(List.mem_replicate.1 hx).2;omega)).trans (Sq ?_ λi _=>EC _ _);rw[zkg,<-EG _ _ ht];refine PN _ (by simp;omega) ?_;rw[Aq,A7 ht,<-Aq,hg];refine⟨rfl,rfl,id,zg1 hw λi hi=>⟨?_,by simp;omega⟩⟩;rw[Aq,AE (by omega),CY];simp[hi]
def fKs(t o n:Nat):List Nat:=t::(List.range n).map (·+o)
theorem z3f{t i:Nat}(h:i<n):i+o∈fKs t o n:=Af.2 (.inr (Au.2 ⟨i,Bt.2 h,rfl⟩))
theorem JL{t g:Nat}(h:g≠t)(h2:g<o\/o+n<=g):g∉fKs t o n:=λhh=>by
 rcases Af.1 hh with hh|hh
 ·exact h hh
 ·obtain⟨i,hi,rfl⟩:=Au.1 hh
  have:=Bt.1 hi;omega
theorem z3g{H:Az}{t v:Nat}(hw:0<w)(he:∀x,(e x).pure=true)(h1:H.at_ t=⟨1,v,true,fT o n V D⟩)(h2:∀i,i<n->H.at_ (i+o)=gG w e (V i) (D i)):
 CE 2 (H.only (fKs t o n)) (.ref t v 0 n)/\frzV 2 (H.only (fKs t o n)) (.ref t v 0 n)=.lst 1 (fD w e n D):=by
 have hat1:(H.only (fKs t o n)).at_ t=⟨1,v,true,fT o n V D⟩:=by
  show (if t∈fKs t o n then H.at_ t else (H.at_ t).dead)=_;rw[Ae (by simp[fKs]),h1]
 have hat:∀i,i<n->(H.only (fKs t o n)).at_ (i+o)=gG w e (V i) (D i):=λi hi=>by
  show (if i+o∈fKs t o n then H.at_ (i+o) else (H.at_ (i+o)).dead)=_;rw[Ae (z3f hi),h2 i hi]
 have htl:(((fT o n V D).drop 0).take n)=fT o n V D:=by
  rw[Bz];exact Ay (by simp[fT])
 have hz:∀x,frzV 0 (H.only (fKs t o n)) x=x:=λx=>rfl;constructor
 ·refine⟨by rw[hat1],by rw[hat1];exact Nat.one_pos,by rw[hat1];simp[fT],λy hy=>?_⟩
  rw[hat1,htl] at hy;obtain⟨i,hi,rfl⟩:=Au.1 hy;have hi':i<n:=by simpa using hi
  refine⟨by rw[hat i hi'];rfl,by rw[hat i hi'];exact hw,by rw[hat i hi'];simp[gG],λz hz=>?_⟩;rw[hat i hi'] at hz;obtain⟨u,_,rfl⟩:=Au.1 (BB (B6 hz));exact he u
 ·show AV.lst _ _=_
  rw[hat1,htl,fT,C8];congr 1;refine AS λi hi=>?_;have hi':i<n:=by simpa using hi
  show AV.lst _ _=_;rw[hat i hi']
  have e1:(((gG w e (V i) (D i)).xs.drop 0).take (D i).length).map (frzV 0 (H.only (fKs t o n)))=(D i).map e:=by
   rw[Bz,Ay (by simp[gG])];refine (AS λx hx=>?_).trans (FT _);exact hz x
  rw[e1];rfl
theorem z3h{F:List Grp}{t o:Nat}:∀{i:Nat},(∀j,j<F.length->i+j∈fKs t o n)->Ez i (fKs t o n) F=F.map Grp.dead:=by
 induction F with
 |nil=>intro i _;rfl
 |cons G F ih =>
  intro i h
  rw[Ez,Ae (by have:=h 0 (by simp);simpa using this),A4,ih λj hj=>by
   have:=h (j+1) (by simpa using hj)
   rwa [show i+1+j=i+(j+1) by omega]]
theorem Tw(ks:List Nat):∀(i:Nat)(l r:List Grp),Ez i ks (l++r)=Ez i ks l++Ez (i+l.length) ks r
 |i,[],r=>by simp[Ez]
 |i,G::l,r=>by
  rw[List.cons_append,Ez,Ez,Tw ks (i+1) l r,List.cons_append,List.length_cons,show i+1+l.length=i+(l.length+1) by omega]
end
def Xa(m:Nat)(env:Env):List (Nat × AV)->Prop
 |[]=>True
 |(t,y)::r=>env t=y/\ltV m y/\Xa m env r
theorem PO{m:Nat}{env:Env}:∀{L:List (Nat × AV)},Xa m env L->∀p∈L,env p.1=p.2
 |[],_,p,hp=>by cases hp
 |(t,y)::r,h,p,hp=>by
  rcases Af.1 hp with rfl|hp
  ·exact h.1
  ·exact PO h.2.2 p hp
theorem Tx{m:Nat}{env:Env}:∀{L:List (Nat × AV)},Xa m env L->∀i,ltV m (E0 L i)
 |[],_,i=>trivial
 |(t,y)::r,h,i=>by
  show ltV m (if i=t then y else E0 r i);split
  ·exact h.2.1
  ·exact Tx h.2.2 i
theorem FZ{n b:Nat}{env:Env}{l l0 gar:List Grp}(L:List (Nat × AV))(hl':l=l0++gar)(hb:b<=l0.length)(hcl:∀G∈l0,ltL l0.length G.xs)(hL:Xa l0.length env L):Ent n b env (Abs.hl l) (E0 L) (Abs.hl l0):=by
 subst hl';exact (M4 L (PO hL)).trans (Np hb hcl λi _=>Tx hL i)
theorem DJ{P:Program}{f:Nat}{xs:List AV}{l:List Grp}{K:AV->Az->Prop}(h:B2 P f xs (Abs.hl l) (λy H'=>∃y' H'',Ent 1 l.length (λ_=>y) H' (λ_=>y') H''/\K y' H'')):B2 P f xs (Abs.hl l) K :=
 ⟨h.1,λS cargs hS hx=>(h.2 S cargs hS hx).mono λe w' hh=>by
  obtain⟨v,S1,y,H',he,hw,ev,hS1,hv,y',H'',h1,h2⟩:=hh;have hn:S.n=l.length:=hS.n;obtain⟨S2,q1,q2,q3,q4⟩:=h1 S1 (λ_=>v) (by rw[<-hn];exact ev.n) hS1 (λi _=>hv);have hb:=(ev.down (b:=l.length) (by omega)).trans q2
  exact⟨v,S2,y',_,he,q1.trans hw,⟨hb.base,hb.os,hb.tape,hb.output,hb.size,hb.kept,hb.im,hb.keep,hb.fresh,by rw[hn];exact hb.n,λg hg=>hb.cur g (by omega),λg hg=>hb.same g (by omega)⟩,q3,q4 0 Nat.one_pos,h2⟩⟩
theorem Hc{b:Nat}{y:AV}{l l0 gar:List Grp}(hl':l=l0++gar)(hb:b<=l0.length)(hcl:∀G∈l0,ltL l0.length G.xs)(hy:ltV l0.length y):Ent 1 b (λ_=>y) (Abs.hl l) (λ_=>y) (Abs.hl l0):=by
 subst hl';exact Np hb hcl λi _=>hy
theorem z3i{P:Program}{f:Nat}{xs:List AV}{l l0 extra:List Grp}{K0 K:AV->Az->Prop}(hl':l=l0++extra)(h:B2 P f xs (Abs.hl l0) K0)(hlt:ltL l0.length xs)(hltG:∀G∈l0,ltL l0.length G.xs)
 (hK:∀y H',K0 y H'->∃l',H'=Abs.hl l'/\l'.length=l0.length/\ltV l0.length y/\(∀G∈l',ltL l0.length G.xs)/\@nx y (Abs.hl (l'++extra)) ⟨K⟩):@MO P f xs (Abs.hl l) ⟨K⟩:=by
 subst hl';exact z1o h hlt hltG hK
end Go.Proofs.YtflibbceibjddaaGreat
namespace Go.Proofs.YtflibbceibjddaaGreat.Abs
def Frz1(d:Nat)(H:Az)(ks:List Nat)(x y:AV):Prop:=y=x\/(CE d (H.only ks) x/\y=frzV d (H.only ks) x)
def FrzL(d:Nat)(H:Az)(ks:List Nat):List AV->List AV->Prop
 |[],ys=>ys=[]
 |x::xs,ys=>∃y r,ys=y::r/\Frz1 d H ks x y/\FrzL d H ks xs r
def Frz2(d:Nat)(H:Az)(ks:List Nat)(x y:AV):Prop:=Frz1 d H ks x y\/∃cs ds,x=.agg cs/\y=.agg ds/\FrzL d H ks cs ds
def FrzM(d:Nat)(H:Az)(ks:List Nat):List AV->List AV->Prop
 |[],ys=>ys=[]
 |x::xs,ys=>∃y r,ys=y::r/\Frz2 d H ks x y/\FrzM d H ks xs r
theorem FrzM.len{d:Nat}{H:Az}{ks:List Nat}:∀{xs ys:List AV},FrzM d H ks xs ys->ys.length=xs.length
 |[],_,h=>by rw[show _=[] from h]
 |x::xs,_,⟨y,r,rfl,_,h⟩=>by simp[FrzM.len h]
theorem Frz1.rel{d:Nat}{H:Az}{ks:List Nat}{S:MS}(hS:SRel S H){x y:AV}{v:Value}(h:Frz1 d H ks x y)(hv:VRel S x v):VRel (S.kill H ks) y v:=by
 rcases h with rfl|⟨h1,rfl⟩
 ·exact VRel.mono (Gq ks hS) _ hv
 ·exact Kc ks hS d h1 hv
theorem FrzL.rel{d:Nat}{H:Az}{ks:List Nat}{S:MS}(hS:SRel S H):∀{xs ys:List AV}{vs:List Value},FrzL d H ks xs ys->A9 S xs vs->A9 (S.kill H ks) ys vs
 |[],_,_,h,hv=>by rw[show _=[] from h];exact hv
 |x::xs,_,_,⟨y,r,rfl,h1,h2⟩,⟨u,q,rfl,k1,k2⟩=>⟨u,q,rfl,h1.rel hS k1,FrzL.rel hS h2 k2⟩
theorem Frz2.rel{d:Nat}{H:Az}{ks:List Nat}{S:MS}(hS:SRel S H){x y:AV}{v:Value}(h:Frz2 d H ks x y)(hv:VRel S x v):VRel (S.kill H ks) y v:=by
 rcases h with h|⟨cs,ds,rfl,rfl,h⟩
 ·exact h.rel hS hv
 ·obtain⟨vs,rfl,hvs⟩:=hv
  exact⟨vs,rfl,h.rel hS hvs⟩
theorem FrzM.rel{d:Nat}{H:Az}{ks:List Nat}{S:MS}(hS:SRel S H):∀{xs ys:List AV}{vs:List Value},FrzM d H ks xs ys->A9 S xs vs->A9 (S.kill H ks) ys vs
 |[],_,_,h,hv=>by rw[show _=[] from h];exact hv
 |x::xs,_,_,⟨y,r,rfl,h1,h2⟩,⟨u,q,rfl,k1,k2⟩=>⟨u,q,rfl,h1.rel hS k1,FrzM.rel hS h2 k2⟩
theorem FrzM.refl{d:Nat}{H:Az}{ks:List Nat}:∀(xs:List AV),FrzM d H ks xs xs
 |[]=>rfl
 |x::xs=>⟨x,xs,rfl,.inl (.inl rfl),FrzM.refl xs⟩
theorem FrzM.set{d:Nat}{H:Az}{ks:List Nat}{y:AV}:∀{xs:List AV}{i:Nat},i<xs.length->Frz2 d H ks (xs.getD i .any) y->FrzM d H ks xs (xs.set i y)
 |[],_,h,_=>by simp at h
 |x::xs,0,_,h=>⟨y,xs,rfl,h,FrzM.refl xs⟩
 |x::xs,i+1,hi,h=>⟨x,_,rfl,.inl (.inl rfl),FrzM.set (by simpa using hi) (by simpa using h)⟩
theorem KE{n b:Nat}{env:Env}{l l':List Grp}{g w v d:Nat}{ex:Bool}{xs ys:List AV}(ks:List Nat)(hw:0<w)(hlt:g<l.length)(hg:l.getD g default=⟨w,v,ex,xs⟩)(hk:g∉ks)
 (hxy:FrzM d (hl l) ks xs ys) (hl':(Ez 0 ks l).set g ⟨w,v,ex,ys⟩=l'):Ent n b env (hl l) env (hl l'):=λS val hb hS hv=>by
 subst hl';have hS1:=Kb ks hS;have he:=Gq ks hS;refine⟨S.kill (hl l) ks,rfl,he.down hb,?_,λi hi=>VRel.mono he _ (hv i hi)⟩;have hlk:g<(Ez 0 ks l).length:=by rw[FW];exact hlt
 have hat0:∀j,j<l.length->((hl l).kill ks).at_ j=(Ez 0 ks l).getD j default:=λj hj=>by
  rw[HL 0 ks l j hj,AW];rfl
 have hn:(hl ((Ez 0 ks l).set g ⟨w,v,ex,ys⟩)).n=((hl l).kill ks).n:=by simp[hl,Az.kill,FW]
 have hlen:((hl l).kill ks).n=l.length:=rfl
 have hat:∀j,j<l.length->(hl ((Ez 0 ks l).set g ⟨w,v,ex,ys⟩)).at_ j=if j=g then ⟨w,v,ex,ys⟩ else ((hl l).kill ks).at_ j:=λj hj=>by
  rw[De];by_cases e:j=g
  ·subst e;rw[Ae rfl];exact J0 _ hlk
  ·rw[Ac e,hat0 j hj];exact Gt _ (CS e)
 have hgk:((hl l).kill ks).at_ g=⟨w,v,ex,xs⟩:=by
  show (if g∈ks then _ else _)=_;rw[Ac hk,De,hg]
 have h1:GRel (S.kill (hl l) ks) ⟨w,v,ex,xs⟩ g:=by have:=hS1.grp g (by rw[hlen];exact hlt);rwa [hgk] at this
 have h0:GRel S ⟨w,v,ex,xs⟩ g:=by have:=hS.grp g hlt;rwa [De,hg] at this
 have hly:=hxy.len
 have hG:GRel (S.kill (hl l) ks) ⟨w,v,ex,ys⟩ g:=by
  refine⟨h1.ver,h1.wid,λ_ hc=>?_,λhh=>by show ys.length<=_;rw[hly];exact h1.len hh,λhh he=>by show ys.length=_;rw[hly];exact h1.full hh he,λhh=>by simp only at hh;omega⟩;obtain⟨⟨cells,TT,vs,a1,a2,a3,a4⟩,_⟩:=h0.live hw hc;exact⟨⟨cells,TT,vs,a1,a2,hxy.rel hS a3,a4⟩,(h1.live hw hc).2⟩
 have hhas:∀j,j<l.length->((hl ((Ez 0 ks l).set g ⟨w,v,ex,ys⟩)).at_ j).has ((S.kill (hl l) ks).cap j)->(((hl l).kill ks).at_ j).has ((S.kill (hl l) ks).cap j):=λj hj h=>by
  rw[hat j hj] at h;by_cases e:j=g
  ·subst e;rw[Ae rfl] at h;rw[hgk];exact h
  ·rw[Ac e] at h;exact h
 refine⟨hS1.n.trans hn.symm,λj hj=>?_,λj j' a c hne p q=>hS1.apart j j' (by rwa [hn] at a) (by rwa [hn] at c) hne (hhas j (by rwa [hn] at a) p) (hhas j' (by rwa [hn] at c) q),hS1.im⟩;rw[hn] at hj;rw[hat j hj];by_cases e:j=g
 ·subst e;rw[Ae rfl];exact hG
 ·rw[Ac e];exact hS1.grp j hj
end Go.Proofs.YtflibbceibjddaaGreat.Abs
set_option maxRecDepth 100000
namespace Go.Proofs.YtflibbceibjddaaGreat
open Abs O1 O2 O3
theorem z9b{m b:Nat}{env:Env}{l l':List Grp}(i g w v n:Nat){ex:Bool}{X:List AV}(hw:0<w)(hlt:g<l.length)(hg:l.getD g default=⟨w,v,ex,X⟩)(pX:AD X=true)(hn:X.length=n)(hi:env i=.ref g v 0 n)(hl':Ez 0 [g] l=l'):
 Ent m b env (Abs.hl l) (env.put (some i) (.lst w X)) (Abs.hl l'):=by
 subst hl' hn
 have hat:((Abs.hl l).only [g]).at_ g=⟨w,v,ex,X⟩:=by
  show (if g∈[g] then _ else _)=_;rw[Ae (by simp),De,hg]
 have hpz:=F9 ((Abs.hl l).only [g]) 0 pX
 have f1:CE 1 ((Abs.hl l).only [g]) (.ref g v 0 X.length):=by
  simp only[CE];rw[hat];simp only[Bz,AA];exact⟨trivial,hw,by omega,hpz.1⟩
 have f2:frzV 1 ((Abs.hl l).only [g]) (.ref g v 0 X.length)=.lst w X:=by
  simp only[frzV];rw[hat];simp[frzV]
 rw[<-hi] at f1 f2;have:=Uq (n:=m) (b:=b) i 1 [g] f1;rw[f2] at this;refine this.trans (Oa (by simp[Az.kill,hl_n,FW]) λj hj=>?_);rw[De,HL 0 [g] l j hj,AW];rfl
def mkH(S:Nat)(R:List Rule)(v:Nat):List Grp:=[⟨6,1,true,[.agg [.int .i64 2,.int .i64 2,.int .i64 S,.int .i64 0,.ref 1 v 0 R.length,.nilS]]⟩,⟨5,v,false,R.map Hs⟩]
theorem H9{S:Nat}{R:List Rule}{v:Nat}:∀G∈mkH S R v,ltL 2 G.xs:=λG hG=>by
 simp only[mkH,Af,Aj,Ar] at hG;rcases hG with rfl|rfl
 ·exact⟨⟨trivial,trivial,trivial,trivial,(show 1<2 by omega),trivial,trivial⟩,trivial⟩
 ·exact CM _ _ (Ca R)
def CN(a b:Int)(s:List Span)(out:List Term):Rule:=if 0<s.length then ⟨a,b,[s],1,out⟩ else ⟨a,b,[],0,out⟩
def Gx(S:Nat)(R:List Rule):Bool:=decide (1024<S)||decide ((4096:Int)<R.length)
theorem E4(S:Nat)(R:List Rule)(v:Nat)(hS:S<=1000000000):B2 Tryz.prog 86 [.ptr 0 1 0 0] (Abs.hl (mkH S R v)) λy H'=>y=.int .i64 S/\H'=Abs.hl (mkH (S+1) R v):=by
 have pR:=Ca R;unfold mkH;refine Gr (b:=2) Km rfl ?_;unfold GV;(with_reducible repeat'(first|simp (disch:=omega) only[push_cast,↓zz,seval,pR]|apply Aa|refine sp_ ?_ ?_<;>intro hc<;>push_cast at hc|omega|intro _))
 all_goals first|omega|trace_state
theorem Fc(S:Nat)(R:List Rule)(v:Nat):B2 Tryz.prog 48 [.ptr 0 1 0 0] (Abs.hl (mkH S R v)) λy H'=>y=.bool (Gx S R)/\H'=Abs.hl (mkH S R v):=by
 have pR:=Ca R;unfold mkH Gx;refine Gr (b:=2) La rfl ?_;unfold Ht;by_cases h:1024<S
 ·rw[AO h]
  (with_reducible repeat'(first|simp (disch:=omega) only[push_cast,↓zz,seval,pR]|apply Aa|refine sp_ ?_ ?_<;>intro hc<;>push_cast at hc|omega|intro _))
  all_goals first|omega|trace_state
 ·rw[Bb h]
  (with_reducible repeat'(first|simp (disch:=omega) only[push_cast,↓zz,seval,pR]|apply Aa|refine sp_ ?_ ?_<;>intro hc<;>push_cast at hc|omega|intro _))
  all_goals first|omega|trace_state
theorem UZ{k b:Nat}{env:Env}{A B:Grp}{x1 x2 x4 x5:AV}{e:Bool}{X:List AV}{n:Nat}(hn:X.length=n)(pX:AD X=true):
 Ent k b env (Abs.hl [A,B,⟨5,1,true,[.agg [x1,x2,.ref 4 1 0 1,x4,x5]]⟩,⟨2,2,e,X⟩,⟨1,1,true,[.ref 3 2 0 n]⟩]) env
  (Abs.hl [A,B,⟨5,1,true,[.agg [x1,x2,.lst 1 [.lst 2 X],x4,x5]]⟩,⟨0,3,false,[]⟩,⟨0,2,false,[]⟩]):=by
 subst hn;generalize hl:([A,B,⟨5,1,true,[.agg [x1,x2,.ref 4 1 0 1,x4,x5]]⟩,⟨2,2,e,X⟩,⟨1,1,true,[.ref 3 2 0 X.length]⟩]:List Grp)=l;have h4:((Abs.hl l).only [3,4]).at_ 4=⟨1,1,true,[.ref 3 2 0 X.length]⟩:=by subst hl;rfl
 have h3:((Abs.hl l).only [3,4]).at_ 3=⟨2,2,e,X⟩:=by subst hl;rfl
 have hpz:=F9 ((Abs.hl l).only [3,4]) 0 pX
 have o3:CE 1 ((Abs.hl l).only [3,4]) (.ref 3 2 0 X.length):=by
  simp only[CE];rw[h3];simp only[Bz,AA];exact⟨trivial,by decide,by omega,hpz.1⟩
 have v3:frzV 1 ((Abs.hl l).only [3,4]) (.ref 3 2 0 X.length)=.lst 2 X:=by
  simp only[frzV];rw[h3];simp[frzV]
 have o4:CE 2 ((Abs.hl l).only [3,4]) (.ref 4 1 0 1):=by
  rw[CE,h4];refine⟨rfl,Nat.one_pos,Ad _,λy hy=>?_⟩;have:y=.ref 3 2 0 X.length:=by simpa using hy
  rw[this];exact o3
 have v4:.lst 1 [.lst 2 X]=frzV 2 ((Abs.hl l).only [3,4]) (.ref 4 1 0 1):=by
  rw[frzV,h4];simp[v3]
 refine KE (g:=2) (w:=5) (v:=1) (d:=2) (ex:=true) (xs:=[.agg [x1,x2,.ref 4 1 0 1,x4,x5]]) (ys:=[.agg [x1,x2,.lst 1 [.lst 2 X],x4,x5]]) [3,4] (by decide) (by subst hl;simp) (by subst hl;rfl) (by decide) ?_ ?_
 ·exact⟨_,[],rfl,.inr ⟨_,_,rfl,rfl,_,_,rfl,.inl rfl,_,_,rfl,.inl rfl,_,_,rfl,.inr ⟨o4,v4⟩,_,_,rfl,.inl rfl,_,_,rfl,.inl rfl,rfl⟩,rfl⟩
 ·subst hl;rfl
theorem Jd(S:Nat)(R:List Rule)(v:Nat)(a c:Int)(s:List Span)(out:List Term)(hs:s.length<=1000000)(hR:R.length<=1000000):
 B2 Tryz.prog 87 [.ptr 0 1 0 0,.int .i64 a,.int .i64 c,Bf s,Hr out] (Abs.hl (mkH S R v)) λy H'=>y=.tup []/\∃v',H'=Abs.hl (mkH S (R++[CN a c s out]) v'):=by
 have pR:=Ca R;have ps:=AX s;have pO:=CI out;have hfin:mkH S (R++[CN a c s out]) (v+1)=[⟨6,1,true,[.agg [.int .i64 2,.int .i64 2,.int .i64 S,.int .i64 0,.ref 1 (v+1) 0 (R.length+1),.nilS]]⟩,⟨5,v+1,false,R.map Hs++[Hs (CN a c s out)]⟩]:=by simp[mkH]
 have hcl:=H9 (S:=S) (R:=R++[CN a c s out]) (v:=v+1);refine DJ (G3 Lf (F8 (W_T ?_)));unfold mkH;(with_reducible repeat'(first|simp (disch:=omega) only[push_cast,↓zz,seval,pR,ps,pO]|apply Aa|refine sp_ ?_ ?_<;>intro hc<;>push_cast at hc|omega|intro _));by_cases h:0<s.length
 ·have hr:CN a c s out=⟨a,c,[s],1,out⟩:=Ae h
  rw[hr] at hfin hcl ⊢;refine F8 (W_T ?_);(with_reducible repeat'(first|simp (disch:=omega) only[push_cast,↓zz,seval,pR,ps,pO]|apply Aa|refine sp_ ?_ ?_<;>intro hc<;>push_cast at hc|omega|intro _));refine Mt (UZ (by simp) ps) (W_T ?_);(with_reducible repeat'(first|simp (disch:=omega) only[push_cast,↓zz,seval,pR,ps,pO]|apply Aa|refine sp_ ?_ ?_<;>intro hc<;>push_cast at hc|omega|intro _));refine Hf [1] ?_;(with_reducible repeat'(first|simp (disch:=omega) only[push_cast,↓zz,seval,xx,Af,Aj,Ar,B7,Dd,B8,BW,BV,pR,ps,pO]|apply Aa|refine sp_ ?_ ?_<;>intro hc<;>push_cast at hc|omega|intro _));refine⟨.tup [],_,Hc (l0:=mkH S (R++[⟨a,c,[s],1,out⟩]) (v+1)) (gar:=[⟨5,1,true,[Hs ⟨a,c,[s],1,out⟩]⟩,⟨0,3,false,[]⟩,⟨0,2,false,[]⟩]) (by rw[hfin];rfl) (Ad _) hcl trivial,rfl,v+1,?_⟩;rw[hfin]
 ·have hr:CN a c s out=⟨a,c,[],0,out⟩:=Ac h
  rw[hr] at hfin hcl ⊢;refine F8 (W_T ?_);(with_reducible repeat'(first|simp (disch:=omega) only[push_cast,↓zz,seval,pR,ps,pO]|apply Aa|refine sp_ ?_ ?_<;>intro hc<;>push_cast at hc|omega|intro _))
  refine Mt (Sq (l':=[⟨6,1,true,[.agg [.int .i64 2,.int .i64 2,.int .i64 S,.int .i64 0,.ref 1 v 0 R.length,.nilS]]⟩,⟨5,v,false,R.map Hs⟩,⟨5,1,true,[Hs ⟨a,c,[],0,out⟩]⟩])
   ⟨⟨rfl,rfl,id,Br _ _⟩,⟨rfl,rfl,id,Br _ _⟩,⟨rfl,rfl,id,⟨⟨EC _ _,EC _ _,⟨Nat.one_pos,rfl⟩,EC _ _,EC _ _,rfl⟩,rfl⟩⟩,trivial⟩ (λi _=>EC _ _)) (W_T ?_)
  (with_reducible repeat'(first|simp (disch:=omega) only[push_cast,↓zz,seval,pR,ps,pO]|apply Aa|refine sp_ ?_ ?_<;>intro hc<;>push_cast at hc|omega|intro _));refine Hf [1] ?_;(with_reducible repeat'(first|simp (disch:=omega) only[push_cast,↓zz,seval,xx,Af,Aj,Ar,B7,Dd,B8,BW,BV,pR,ps,pO]|apply Aa|refine sp_ ?_ ?_<;>intro hc<;>push_cast at hc|omega|intro _));refine⟨.tup [],_,Hc (l0:=mkH S (R++[⟨a,c,[],0,out⟩]) (v+1)) (gar:=[⟨5,1,true,[Hs ⟨a,c,[],0,out⟩]⟩]) (by rw[hfin];rfl) (Ad _) hcl trivial,rfl,v+1,?_⟩;rw[hfin]
set_option maxRecDepth 100000
inductive Ea:Rec->Prop where
 |mk {k:Int} {s:List Span} {b:Int} {r w:List Int} {l:List Rec}:s.length<=1000000->(r.length<=1000000/\∀v∈r,-2147483648<=v/\v<=2147483647)->(w.length<=1000000/\∀v∈w,-2147483648<=v/\v<=2147483647)->l.length<=1000000->(∀n∈l,Ea n)->Ea (.mk k s b r w l)
mutual
def G1:Rec->Bool
 |.mk k _ _ r _ l=>if k=3 then decide (r.length=0) else if k=4 then Ff l else if k=5 then Gl l else decide (k=6)
def Ff:List Rec->Bool
 |[]=>true
 |n::l=>G1 n&&Ff l
def Gl:List Rec->Bool
 |[]=>false
 |n::l=>G1 n||Gl l
end
mutual
def okR:Rec->Int->Bool
 |.mk k s b r w l,d=>!decide (64<d)&&(if k=1 then !decide (b < -1114111\/1114111<b)&&(EN 2 s&&decide (Er (Fl s b) (domL 2)=[])) else if k=2 then EN 2 s
  else if k=3 then r.all (E3 2)&&w.all (E3 2) else if k=4\/k=5 then okL l (d+1) else if k=6 then okL l (d+1)&&!Ff l else false)
def okL:List Rec->Int->Bool
 |[],_=>true
 |n::l,d=>okR n d&&okL l d
end
def secR:Rec->Int->Bool
 |.mk k s b r w l,d=>!decide (64<d)&&(if k=3 then decide (r.length=0) else okR (.mk k s b r w l) d&&G1 (.mk k s b r w l))
theorem zg2{n:Rec}{d:Int}(h:okR n d=true):d<=64:=by
 obtain⟨k,s,b,r,w,l⟩:=n;rw[okR,Ab,AQ,Bc] at h;omega
theorem zbq{n:Rec}{d:Int}(h:okR n d=true):secR n d=G1 n:=by
 have hd:=zg2 h;obtain⟨k,s,b,r,w,l⟩:=n;rw[secR,h,AP,Bb (by omega),Eh,AP];split
 ·rename_i e;rw[G1,Ae e]
 ·rfl
theorem z9c(g:List Span)(hl:g.length<=1000000):PC Tryz.prog 114 [Bf g] (.bool (EN 2 g)):=by
 have hC:=PD g (by omega);have hD:=E2 2;have hW:=HU g (domL 2) (by omega) (by simp[domL]);have pg:=AX g;have pd:=AX (domL 2);have e:EN 2 g=(!decide ((g.length:Int)=0)&&(decide ((g.length:Int)<=64)&&(Jp g&&decide (Er g (domL 2)=[])))):=rfl;rw[e];generalize decide (Er g (domL 2)=[])=q at *;generalize Jp g=c at *;generalize domL 2=D at *;refine Cg Yj ?_;unfold Pq;by_cases h0:(g.length:Int)=0
 ·rw[AO h0]
  (with_reducible repeat'(first|simp (disch:=omega) only[push_cast,↓zz,seval,pg,h0]|apply Aa|refine sp_ ?_ ?_<;>intro hc<;>push_cast at hc|omega|intro _))
  all_goals first|omega|trace_state
 ·rw[Bb h0]
  by_cases h1:(g.length:Int)<=64
  ·rw[AO h1]
   cases c<;>cases q<;>(with_reducible repeat'(first|simp (disch:=omega) only[push_cast,↓zz,seval,pg,pd,h0,h1]|apply Aa|refine sp_ ?_ ?_<;>intro hc<;>push_cast at hc|refine ee hC ?_|refine ee hD ?_|refine ee hW ?_|((first|refine cc hC ?_|refine cc hD ?_|refine cc hW ?_);(simp(disch:=omega)only[push_cast,↓zz,seval,pg,pd,h0,h1]);(fail_if_success change False))|omega|intro _))
   all_goals first|omega|trace_state
  ·rw[Bb h1]
   (with_reducible repeat'(first|simp (disch:=omega) only[push_cast,↓zz,seval,pg,h0,h1]|apply Aa|refine sp_ ?_ ?_<;>intro hc<;>push_cast at hc|omega|intro _))
   all_goals first|omega|trace_state
theorem Xb{l:List Rec}{d:Int}{i:Nat}(hi:i<l.length):okL (l.drop i) d=(okR (nth l i) d&&okL (l.drop (i+1)) d):=by rw[drop_at hi,okL]
theorem Mm{l:List Rec}{i:Nat}(hi:i<l.length):Ff (l.drop i)=(G1 (nth l i)&&Ff (l.drop (i+1))):=by rw[drop_at hi,Ff]
theorem Mn{l:List Rec}{i:Nat}(hi:i<l.length):Gl (l.drop i)=(G1 (nth l i)||Gl (l.drop (i+1))):=by rw[drop_at hi,Gl]
theorem Ty(l:List Span)(d:Int):(Fl l d).length<=l.length:=by
 unfold Fl;split
 ·simp
 ·have h1:=Ep ((Bv l).map (Fb d))
  have h2:=Ep l;rw[Bi] at h1;omega
set_option maxHeartbeats 4000000 in
theorem PP(n:Rec):Ea n->∀d:Int,0<=d->d<=65->PC Tryz.prog 70 [recV n,.int .i64 d] (.tup [.bool (okR n d),.bool (secR n d)]):=by
 refine Rec.ind (P:=λn=>Ea n->∀d:Int,0<=d->d<=65->PC Tryz.prog 70 [recV n,.int .i64 d] (.tup [.bool (okR n d),.bool (secR n d)])) ?_ n;intro k s b r w l ih hf d hd0 hd1;cases hf with
 |mk hs hr hw hl hch =>
 have ps:=AX s;have pr:AD (r.map (AV.int .i32))=true:=AG .i32 _;have pw:AD (w.map (AV.int .i32))=true:=AG .i32 _;have pl:=BN l;rw[Ck];refine Cg S7 ?_;unfold LM;by_cases hd:64<d
 ·rw[show okR (.mk k s b r w l) d=false by rw[okR,AO hd];rfl,show secR (.mk k s b r w l) d=false by rw[secR,AO hd];rfl]
  (with_reducible repeat'(first|simp (disch:=omega) only[push_cast,↓zz,seval,ps,pr,pw,pl]|apply Aa|refine sp_ ?_ ?_<;>intro hc<;>push_cast at hc|omega|intro _))
 have e0:okR (.mk k s b r w l) d=(if k=1 then !decide (b < -1114111\/1114111<b)&&(EN 2 s&&decide (Er (Fl s b) (domL 2)=[])) else if k=2 then EN 2 s
  else if k=3 then r.all (E3 2)&&w.all (E3 2) else if k=4\/k=5 then okL l (d+1) else if k=6 then okL l (d+1)&&!Ff l else false):=by rw[okR,Bb hd];rfl
 have e1:secR (.mk k s b r w l) d=(if k=3 then decide (r.length=0) else okR (.mk k s b r w l) d&&G1 (.mk k s b r w l)):=by rw[secR,Bb hd];rfl
 rw[e1,e0,G1];clear e0 e1;have hS:=z9c s hs;have hD:=E2 2;have pD:=AX (domL 2);by_cases h1:k=1
 ·subst h1
  simp only[Be,Ac (show ¬(1:Int)=3 by decide),Ac (show ¬(1:Int)=4 by decide),Ac (show ¬(1:Int)=5 by decide),Ac (show ¬(1:Int)=6 by decide)];rw[show decide ((1:Int)=6)=false from rfl,CO];by_cases hb:b < -1114111\/1114111<b
  ·rw[AO hb]
   (with_reducible repeat'(first|simp (disch:=omega) only[push_cast,↓zz,seval,ps,pr,pw,pl]|apply Aa|refine sp_ ?_ ?_<;>intro hc<;>push_cast at hc|omega|intro _))
   all_goals first|omega|trace_state
  ·rw[Bb hb]
   have hM:=Tm s b (by omega);have hW:=HU (Fl s b) (domL 2) (by have:=Ty s b;omega) (by simp[domL]);have pM:=AX (Fl s b);generalize decide (Er (Fl s b) (domL 2)=[])=q at *;generalize Fl s b=M at *;generalize domL 2=D at *;cases hg:EN 2 s with
   |false =>
    rw[hg] at hS;(with_reducible repeat'(first|simp (disch:=omega) only[push_cast,↓zz,seval,ps,pr,pw,pl]|apply Aa|refine sp_ ?_ ?_<;>intro hc<;>push_cast at hc|refine ee hS ?_|(refine cc hS ?_;(simp(disch:=omega)only[push_cast,↓zz,seval,ps,pr,pw,pl]);(fail_if_success change False))|omega|intro _))
    all_goals first|omega|trace_state
   |true =>
    rw[hg] at hS;(with_reducible repeat'(first|simp (disch:=omega) only[push_cast,↓zz,seval,ps,pr,pw,pl,pM,pD]|apply Aa|refine sp_ ?_ ?_<;>intro hc<;>push_cast at hc|refine ee hS ?_|refine ee hM ?_|refine ee hD ?_|refine ee hW ?_|((first|refine cc hS ?_|refine cc hM ?_|refine cc hD ?_|refine cc hW ?_);(simp(disch:=omega)only[push_cast,↓zz,seval,ps,pr,pw,pl,pM,pD]);(fail_if_success change False))|omega|intro _))
    all_goals first|omega|trace_state
 by_cases h2:k=2
 ·subst h2
  simp only[Be,Ac (show ¬(2:Int)=1 by decide),Ac (show ¬(2:Int)=3 by decide),Ac (show ¬(2:Int)=4 by decide),Ac (show ¬(2:Int)=5 by decide)];rw[show decide ((2:Int)=6)=false from rfl,CO];generalize EN 2 s=q at *;(with_reducible repeat'(first|simp (disch:=omega) only[push_cast,↓zz,seval,ps,pr,pw,pl]|apply Aa|refine sp_ ?_ ?_<;>intro hc<;>push_cast at hc|refine ee hS ?_|(refine cc hS ?_;(simp(disch:=omega)only[push_cast,↓zz,seval,ps,pr,pw,pl]);(fail_if_success change False))|omega|intro _))
 by_cases h3:k=3
 ·subst h3
  simp only[Be,Ac (show ¬(3:Int)=1 by decide),Ac (show ¬(3:Int)=2 by decide)];have hR:=Oi 2 r (by omega) hr.2;have hW:=Oi 2 w (by omega) hw.2;have hz:decide (r.length=0)=decide ((r.length:Int)=0):=BE.2 (by omega);rw[hz];generalize w.all (E3 2)=qw at *;cases hq:r.all (E3 2)<;>rw[hq] at hR
  ·(with_reducible repeat'(first|simp (disch:=omega) only[push_cast,↓zz,seval,ps,pr,pw,pl]|apply Aa|refine sp_ ?_ ?_<;>intro hc<;>push_cast at hc|refine ee hR ?_|(refine cc hR ?_;(simp(disch:=omega)only[push_cast,↓zz,seval,ps,pr,pw,pl]);(fail_if_success change False))|omega|intro _))
  ·(with_reducible repeat'(first|simp (disch:=omega) only[push_cast,↓zz,seval,ps,pr,pw,pl]|apply Aa|refine sp_ ?_ ?_<;>intro hc<;>push_cast at hc|refine ee hR ?_|refine ee hW ?_|((first|refine cc hR ?_|refine cc hW ?_);(simp(disch:=omega)only[push_cast,↓zz,seval,ps,pr,pw,pl]);(fail_if_success change False))|omega|intro _))
 by_cases h456:k=4\/k=5\/k=6
 ·rw[Ac h1,Ac h2,Ac h3,Ac h3,Ac h3]
  (with_reducible repeat'(first|simp (disch:=omega) only[push_cast,↓zz,seval,ps,pr,pw,pl,h1,h2,h3]|apply Aa|refine sp_ ?_ ?_<;>intro hc<;>push_cast at hc|omega|intro _))
  all_goals first|(exfalso;omega)|skip
  all_goals
   refine Bw (B5 (λ(q:Nat × Bool × Bool)=>q.1<=l.length/\okL l (d+1)=okL (l.drop q.1) (d+1)/\Ff l=(q.2.1&&Ff (l.drop q.1))/\Gl l=(q.2.2||Gl (l.drop q.1))) (λq=>l.length-q.1)
    (λq=>[(1,.int .i64 d),(2,.ptr 0 1 0 0),(7,.bool q.2.1),(8,.bool q.2.2),(65,.lst 6 (l.map recV)),(66,.int .i64 l.length),(67,.int .i64 q.1)])
    (λ_=>[⟨6,1,true,[.agg [.int .i64 k,Bf s,.int .i64 b,AH r,AH w,.lst 6 (l.map recV)]]⟩]) (λenv _=>[Dg 6 (env 2)]) (0,true,false) ⟨by simp,by simp,by simp,by simp⟩ ?_ ?_)
   ·(with_reducible repeat'(first|simp (disch:=omega) only[push_cast,↓zz,seval,ps,pr,pw,pl]|apply Aa|refine sp_ ?_ ?_<;>intro hc<;>push_cast at hc|omega|intro _))
   rintro⟨i,qa,qs⟩ ⟨hi,hk1,hk2,hk3⟩;simp only at hi hk1 hk2 hk3;rcases Ak i l.length with hil|hil
   ·have hm:=ih _ (Bo hil) (hch _ (Bo hil)) (d+1) (by omega) (by omega)
    have hso:=zbq (n:=nth l i) (d:=d+1);rw[Xb hil] at hk1;rw[Mm hil,<-Bool.and_assoc] at hk2;rw[Mn hil,<-Bool.or_assoc] at hk3;generalize hne:nth l i=n1 at *;obtain⟨k',s',b',r',w',l'⟩:=n1;have ps':=AX s';have pr':AD (r'.map (AV.int .i32))=true:=AG .i32 _;have pw':AD (w'.map (AV.int .i32))=true:=AG .i32 _;have pl':=BN l';rw[Ck] at hm;have hrm:=Ck k' s' b' r' w' l';cases ho:okR (.mk k' s' b' r' w' l') (d+1) with
    |false =>
     rw[ho] at hm hk1;rw[Bh] at hk1;generalize secR (.mk k' s' b' r' w' l') (d+1)=q at *;refine W_T ?_;(with_reducible repeat'(first|simp (disch:=omega) only[push_cast,↓zz,seval,ps,pr,pw,pl,ps',pr',pw',pl',hne,hrm]|apply Aa|refine sp_ ?_ ?_<;>intro hc<;>push_cast at hc|refine ee hm ?_|(refine cc hm ?_;(simp(disch:=omega)only[push_cast,↓zz,seval,ps,pr,pw,pl,ps',pr',pw',pl',hne,hrm]);(fail_if_success change False))|omega|intro _))
     all_goals (simp[hk1];(repeat'(first|(simp(disch:=omega)only[push_cast,↓zz,seval,DC])|omega|(with_reducible refine Aa ?_ ?_)));done)
    |true =>
     rw[ho] at hm hk1;rw[AP] at hk1;rw[hso ho] at hm;generalize G1 (.mk k' s' b' r' w' l')=q at *;refine W_T ?_;cases qa<;>cases qs<;>(with_reducible repeat'(first|simp (disch:=omega) only[push_cast,↓zz,seval,ps,pr,pw,pl,ps',pr',pw',pl',hne,hrm]|apply Aa|refine sp_ ?_ ?_<;>intro hc<;>push_cast at hc|refine ee hm ?_|(refine cc hm ?_;(simp(disch:=omega)only[push_cast,↓zz,seval,ps,pr,pw,pl,ps',pr',pw',pl',hne,hrm]);(fail_if_success change False))|omega|intro _))
     ·refine⟨(i+1,false,q),?_⟩
      (with_reducible repeat'(first|simp (disch:=omega) only[push_cast,↓zz,seval,ps,pr,pw,pl]|apply Aa|refine sp_ ?_ ?_<;>intro hc<;>push_cast at hc|omega|intro _))
      all_goals first|(simpa using hk1)|(simpa using hk2)|(simpa using hk3)
     ·refine⟨(i+1,false,true),?_⟩
      (with_reducible repeat'(first|simp (disch:=omega) only[push_cast,↓zz,seval,ps,pr,pw,pl]|apply Aa|refine sp_ ?_ ?_<;>intro hc<;>push_cast at hc|omega|intro _))
      all_goals first|(simpa using hk1)|(simpa using hk2)|(simpa using hk3)
     ·refine⟨(i+1,q,q),?_⟩
      (with_reducible repeat'(first|simp (disch:=omega) only[push_cast,↓zz,seval,ps,pr,pw,pl]|apply Aa|refine sp_ ?_ ?_<;>intro hc<;>push_cast at hc|omega|intro _))
      all_goals first|(simpa using hk1)|(simpa using hk2)|(simpa using hk3)
     ·refine⟨(i+1,q,true),?_⟩
      (with_reducible repeat'(first|simp (disch:=omega) only[push_cast,↓zz,seval,ps,pr,pw,pl]|apply Aa|refine sp_ ?_ ?_<;>intro hc<;>push_cast at hc|omega|intro _))
      all_goals first|(simpa using hk1)|(simpa using hk2)|(simpa using hk3)
   ·obtain rfl:i=l.length:=by omega
    rw[List.drop_length] at hk1 hk2 hk3;simp only[okL,Ff,Gl,DG,DI] at hk1 hk2 hk3;refine W_T ?_;(with_reducible repeat'(first|simp (disch:=omega) only[push_cast,↓zz,seval,ps,pr,pw,pl,h1,h2,h3]|apply Aa|refine sp_ ?_ ?_<;>intro hc<;>push_cast at hc|omega|intro _))
    all_goals first
     |(exfalso;omega)
     |(have e:k=4:=by omega
       simp[hk1,hk2,hk3,e];(repeat'(first|(simp(disch:=omega)only[push_cast,↓zz,seval,DC])|omega|(with_reducible refine Aa ?_ ?_)));done)
     |(have e:k=5:=by omega
       simp[hk1,hk2,hk3,e];(repeat'(first|(simp(disch:=omega)only[push_cast,↓zz,seval,DC])|omega|(with_reducible refine Aa ?_ ?_)));done)
     |(have e:k=6:=by omega
       simp[hk1,hk2,hk3,e];(repeat'(first|(simp(disch:=omega)only[push_cast,↓zz,seval,DC])|omega|(with_reducible refine Aa ?_ ?_)));done)
     |trace_state
 ·rw[Ac h1,Ac h2,Ac h3,Ac (by omega),Ac (by omega),Ac h3,Bh]
  (with_reducible repeat'(first|simp (disch:=omega) only[push_cast,↓zz,seval,ps,pr,pw,pl,h1,h2,h3]|apply Aa|refine sp_ ?_ ?_<;>intro hc<;>push_cast at hc|omega|intro _))
  all_goals first|omega|trace_state
set_option maxRecDepth 100000
abbrev MSt:=Nat × List Rule
def addR(st:MSt)(a c:Nat)(s:List Span)(out:List Term):MSt:=(st.1,st.2++[CN a c s out])
def newS(st:MSt):MSt:=(st.1+1,st.2)
def Gm(st:MSt):Bool:=Gx st.1 st.2
def Fj(x:Int):Term:=⟨0,0,21,0,x,[]⟩
def cpyT(b:Int):Term:=⟨0,0,21,0,b,[⟨0,0,21,0⟩]⟩
def wrR:Nat->List Int->Nat->MSt->MSt × Nat
 |0,_,f,st=>(st,f)
 |n+1,w,f,st=>if w.length=0\/Gm st=true then (st,f) else wrR n (w.drop 64) st.1 (addR (newS st) f st.1 [] ((w.take 64).map Fj))
def rdR:List Int->Nat->MSt->MSt × Nat
 |[],f,st=>(st,f)
 |x::r,f,st=>if Gm st=true then (st,f) else rdR r st.1 (addR (newS st) f st.1 [⟨x,x⟩] [])
mutual
def mkM:Rec->Nat->MSt->MSt × Nat
 |.mk k s b r w l,f,st=>if Gm st=true then (st,f)
  else if k=1 then (addR (newS st) f st.1 s [cpyT b],st.1)
  else if k=2 then (addR (newS st) f st.1 s [],st.1)
  else if k=3 then rdR r (wrR w.length w f st).2 (wrR w.length w f st).1
  else if k=5 then (altR l f st.1 (newS st),st.1)
  else if k=6 then
   let p:=catR l (st.1+1) (addR (newS (addR (newS st) f st.1 [] [])) st.1 (st.1+1) [] [])
   let q:=addR p.1 p.2 st.1 [] []
   (addR (newS q) st.1 q.1 [] [],q.1)
  else catR l f st
def catR:List Rec->Nat->MSt->MSt × Nat
 |[],f,st=>(st,f)
 |n::l,f,st=>catR l (mkM n f st).2 (mkM n f st).1
def altR:List Rec->Nat->Nat->MSt->MSt
 |[],_,_,st=>st
 |n::l,f,t,st =>
  let p:=mkM n st.1 (addR (newS st) f st.1 [] [])
  altR l f t (addR p.1 p.2 t [] [])
end
theorem Va(S:Nat)(R:List Rule)(v:Nat)(a c:Int)(out:List Term)(hR:R.length<=1000000):
 B2 Tryz.prog 87 [.ptr 0 1 0 0,.int .i64 a,.int .i64 c,.nilS,Hr out] (Abs.hl (mkH S R v)) λy H'=>y=.tup []/\∃v',H'=Abs.hl (mkH S (R++[CN a c [] out]) v') :=
 FU (Bl (AV.le_refl _) (Bl (AV.le_refl _) (Bl (AV.le_refl _) (Bl (AV.le_nilS (by decide)) (Bl (AV.le_refl _) Ee))))) (Jd S R v a c [] out (by simp) hR)
theorem Ol(S:Nat)(R:List Rule)(v:Nat)(a c:Int)(s:List Span)(hs:s.length<=1000000)(hR:R.length<=1000000):
 B2 Tryz.prog 87 [.ptr 0 1 0 0,.int .i64 a,.int .i64 c,Bf s,.nilS] (Abs.hl (mkH S R v)) λy H'=>y=.tup []/\∃v',H'=Abs.hl (mkH S (R++[CN a c s []]) v') :=
 FU (Bl (AV.le_refl _) (Bl (AV.le_refl _) (Bl (AV.le_refl _) (Bl (AV.le_refl _) (Bl (AV.le_nilS (by decide)) Ee))))) (Jd S R v a c s [] hs hR)
theorem Gn(S:Nat)(R:List Rule)(v:Nat)(a c:Int)(hR:R.length<=1000000):
 B2 Tryz.prog 87 [.ptr 0 1 0 0,.int .i64 a,.int .i64 c,.nilS,.nilS] (Abs.hl (mkH S R v)) λy H'=>y=.tup []/\∃v',H'=Abs.hl (mkH S (R++[CN a c [] []]) v') :=
 FU (Bl (AV.le_refl _) (Bl (AV.le_refl _) (Bl (AV.le_refl _) (Bl (AV.le_nilS (by decide)) (Bl (AV.le_nilS (by decide)) Ee))))) (Jd S R v a c [] [] (by simp) hR)
structure WSt where
 n:Nat
 w:List Int
 f:Nat
 S:Nat
 R:List Rule
 v:Nat
theorem Tz(w:List Int)(f S:Nat)(R:List Rule)(v:Nat)(hw:w.length<=300000)(h32:∀x∈w,-2147483648<=x/\x<=2147483647)(hS:S<=300000)(hR:R.length<=300000):
 B2 Tryz.prog 88 [.ptr 0 1 0 0,.int .i64 f,AH w] (Abs.hl (mkH S R v)) λy H'=>y=.int .i64 ((wrR w.length w f (S,R)).2:Nat)/\∃v',H'=Abs.hl (mkH (wrR w.length w f (S,R)).1.1 (wrR w.length w f (S,R)).1.2 v'):=by
 generalize hT:wrR w.length w f (S,R)=T;have pw:AD (w.map (AV.int .i32))=true:=AG .i32 _;refine DJ (G3 JC (F8 (W_T ?_)));unfold mkH;(with_reducible repeat'(first|simp (disch:=omega) only[push_cast,↓zz,seval,pw]|apply Aa|refine sp_ ?_ ?_<;>intro hc<;>push_cast at hc|omega|intro _));refine F8 (W_T ?_);(with_reducible repeat'(first|simp (disch:=omega) only[push_cast,↓zz,seval,pw]|apply Aa|refine sp_ ?_ ?_<;>intro hc<;>push_cast at hc|omega|intro _))
 refine Bw (B5 (λ(q:WSt)=>q.w.length<=q.n/\wrR q.n q.w q.f (q.S,q.R)=T/\q.S+q.n<=600000/\q.R.length+q.n<=600000/\Hold (∀x∈q.w,-2147483648<=x/\x<=2147483647)) (λq=>q.n)
  (λq=>[(0,.ptr 0 1 0 0),(1,.int .i64 q.f),(2,AH q.w)]) (λq=>mkH q.S q.R q.v) (λ_ _=>[]) ⟨w.length,w,f,S,R,v⟩ ⟨Ad _,hT,by simp only;omega,by simp only;omega,⟨h32⟩⟩ ?_ ?_)
 ·unfold mkH
  (with_reducible repeat'(first|simp (disch:=omega) only[push_cast,↓zz,seval,pw,Ca]|apply Aa|refine sp_ ?_ ?_<;>intro hc<;>push_cast at hc|omega|intro _))
 rintro⟨n,w,f,S,R,v⟩ ⟨h1,h2,h3,h4,⟨h5⟩⟩;simp only at h1 h2 h3 h4 h5 ⊢;have pw:AD (w.map (AV.int .i32))=true:=AG .i32 _;have hFu:=Fc S R v;have hSt:=E4 S R v (by omega);unfold mkH at hFu hSt ⊢;have pR:=Ca R;by_cases hw0:w.length=0
 ·have e:wrR n w f (S,R)=((S,R),f):=by
   cases n with
   |zero=>rfl
   |succ n=>rw[wrR,Ae (.inl hw0)]
  rw[e] at h2;subst h2;refine W_T ?_;(with_reducible repeat'(first|simp (disch:=omega) only[push_cast,↓zz,seval,pw]|apply Aa|refine sp_ ?_ ?_<;>intro hc<;>push_cast at hc|omega|intro _));refine W_T ?_;(with_reducible repeat'(first|simp (disch:=omega) only[push_cast,↓zz,seval,pw]|apply Aa|refine sp_ ?_ ?_<;>intro hc<;>push_cast at hc|omega|intro _));exact⟨_,_,Ent.refl,rfl,v,rfl⟩
 cases hfu:Gx S R with
 |true =>
  have e:wrR n w f (S,R)=((S,R),f):=by
   cases n with
   |zero=>rfl
   |succ n=>rw[wrR,Ae (.inr hfu)]
  rw[e] at h2;subst h2;rw[hfu] at hFu;refine W_T ?_;(with_reducible repeat'(first|simp (disch:=omega) only[push_cast,↓zz,seval,pw]|apply Aa|refine sp_ ?_ ?_<;>intro hc<;>push_cast at hc|omega|intro _))
  (refine Ch [0,1] (hFu) (by decide) (by simp) (by (simp(disch:=omega)only[push_cast,↓zz,seval,pw])) (by (simp(disch:=omega)only[push_cast,↓zz,seval,pw])) (by (simp(disch:=omega)only[push_cast,↓zz,seval,pw])) (by (simp(disch:=omega)only[push_cast,↓zz,seval,Af,Aj,Ar,Aw,AL,As,pw])) ?_)
  rintro y H' ⟨rfl,rfl⟩;refine⟨_,rfl,by simp,?_⟩;(with_reducible repeat'(first|simp (disch:=omega) only[push_cast,↓zz,seval,pw]|apply Aa|refine sp_ ?_ ?_<;>intro hc<;>push_cast at hc|omega|intro _));refine W_T ?_;(with_reducible repeat'(first|simp (disch:=omega) only[push_cast,↓zz,seval,pw]|apply Aa|refine sp_ ?_ ?_<;>intro hc<;>push_cast at hc|omega|intro _));exact⟨_,_,Ent.refl,rfl,v,rfl⟩
 |false =>
  obtain⟨n,rfl⟩:∃m,n=m+1:=⟨n-1,by omega⟩;rw[wrR,Ac (by rintro (h|h);exact hw0 h;exact absurd (show Gx S R=true from h) (by rw[hfu];simp))] at h2;rw[hfu] at hFu;refine F8 (W_T ?_);(with_reducible repeat'(first|simp (disch:=omega) only[push_cast,↓zz,seval,pw]|apply Aa|refine sp_ ?_ ?_<;>intro hc<;>push_cast at hc|omega|intro _))
  (refine Ch [0,1] (hFu) (by decide) (by simp) (by (simp(disch:=omega)only[push_cast,↓zz,seval,pw])) (by (simp(disch:=omega)only[push_cast,↓zz,seval,pw])) (by (simp(disch:=omega)only[push_cast,↓zz,seval,pw])) (by (simp(disch:=omega)only[push_cast,↓zz,seval,Af,Aj,Ar,Aw,AL,As,pw])) ?_)
  rintro y H' ⟨rfl,rfl⟩;refine⟨_,rfl,by simp,?_⟩;(with_reducible repeat'(first|simp (disch:=omega) only[push_cast,↓zz,seval,pw]|apply Aa|refine sp_ ?_ ?_<;>intro hc<;>push_cast at hc|omega|intro _));refine Zn (F8 (W_T ?_));(with_reducible repeat'(first|simp (disch:=omega) only[push_cast,↓zz,seval,pw]|apply Aa|refine sp_ ?_ ?_<;>intro hc<;>push_cast at hc|omega|intro _));refine F8 (W_T ?_);(with_reducible repeat'(first|simp (disch:=omega) only[push_cast,↓zz,seval]|apply Aa|refine sp_ ?_ ?_<;>intro hc<;>push_cast at hc|omega|intro _));refine F8 (W_T ?_);have hmn:min (w.length:Int) 64=((w.take 64).length:Int):=by rw[BJ];omega
  (with_reducible repeat'(first|simp (disch:=omega) only[push_cast,↓zz,seval,pw,hmn]|apply Aa|refine sp_ ?_ ?_<;>intro hc<;>push_cast at hc|omega|intro _));have pt:AD ((w.take 64).map (AV.int .i32))=true:=AG .i32 _;have ht5:∀x∈w.take 64,-2147483648<=x/\x<=2147483647:=λx hx=>h5 x (B6 hx)
  have hdr:List.drop (w.take 64).length w=w.drop 64:=by
   rw[BJ];rcases Nat.le_total 64 w.length with h|h
   ·rw[BI h]
   ·rw[Nat.min_eq_right h,List.drop_length,Ax h]
  have htk:List.take (w.take 64).length w=w.take 64:=by
   rw[BJ];rcases Nat.le_total 64 w.length with h|h
   ·rw[BI h]
   ·rw[Nat.min_eq_right h,AA,Ay h]
  have hl1:0<(w.take 64).length/\(w.take 64).length<=64:=by rw[BJ];omega
  have hl2:(w.drop 64).length<=n:=by rw[List.length_drop];omega
  have hd5:∀x∈w.drop 64,-2147483648<=x/\x<=2147483647:=λx hx=>h5 x (BB hx);obtain⟨hl1,hl64⟩:=hl1;have pd:AD ((w.drop 64).map (AV.int .i32))=true:=AG .i32 _;generalize w.take 64=z at *;generalize w.drop 64=w2 at *
  refine Bw (B5 (λ(k:Nat)=>k<=z.length) (λk=>z.length-k)
   (λk=>[(0,.ptr 0 1 0 0),(1,.int .i64 f),(2,AH w),(7,.int .i64 z.length),(8,.ref 2 1 0 k),(25,AH z),(26,.int .i64 z.length),(27,.int .i64 k)])
   (λk=>[⟨6,1,true,[.agg [.int .i64 2,.int .i64 2,.int .i64 S,.int .i64 0,.ref 1 v 0 R.length,.nilS]]⟩,⟨5,v,false,R.map Hs⟩,⟨6,1,false,((z.take k).map Fj).map GK⟩]) (λenv _=>[Dg 6 (env 8)]) 0 (A6 _) ?_ ?_)
  ·(with_reducible repeat'(first|simp (disch:=omega) only[push_cast,↓zz,seval,pw,pR,pt,hmn,htk]|apply Aa|refine sp_ ?_ ?_<;>intro hc<;>push_cast at hc|omega|intro _))
  intro k hk;have hlk:((z.take k).map Fj).length=k:=by simp;omega
  have pk:=CI ((z.take k).map Fj);rcases Ak k z.length with hkz|hkz
  ·have hx:=ht5 _ (Bo hkz)
   have hCo:=Yo (nth z k);rw[IntWalk.i64_in _ (by omega)] at hCo;have hnx:(z.take (k+1)).map Fj=(z.take k).map Fj++[Fj (nth z k)]:=by rw[take_at hkz,Ao];rfl
   have hcv:GK (Fj (nth z k))=.agg [.int .i64 0,.int .i64 0,.int .i64 21,.int .i64 0,.int .i64 (nth z k),.lst 4 []]:=rfl;generalize hxe:nth z k=x at *;refine W_T ?_;(with_reducible repeat'(first|simp (disch:=omega) only[push_cast,↓zz,seval,pw,pR,pt,pk,hlk,hxe]|apply Aa|refine sp_ ?_ ?_<;>intro hc<;>push_cast at hc|refine ee hCo ?_|(refine cc hCo ?_;(simp(disch:=omega)only[push_cast,↓zz,seval,pw,pR,pt,pk,hlk,hxe]);(fail_if_success change False))|omega|intro _))
   all_goals
    refine⟨k+1,?_⟩;(with_reducible repeat'(first|simp (disch:=omega) only[push_cast,↓zz,seval,pw,pR,pt,pk,hlk,hnx,hcv]|apply Aa|refine sp_ ?_ ?_<;>intro hc<;>push_cast at hc|omega|intro _))
  obtain rfl:k=z.length:=by omega
  have et:z.take z.length=z:=AA;rw[et] at pk hlk ⊢;have hRu:=Va (S+1) R v f S (z.map Fj) (by omega);unfold mkH at hRu;refine W_T ?_;(with_reducible repeat'(first|simp (disch:=omega) only[push_cast,↓zz,seval,pw,pR,pt,pk]|apply Aa|refine sp_ ?_ ?_<;>intro hc<;>push_cast at hc|omega|intro _));refine Mt (z9b (l':=[⟨6,1,true,[.agg [.int .i64 2,.int .i64 2,.int .i64 S,.int .i64 0,.ref 1 v 0 R.length,.nilS]]⟩,⟨5,v,false,R.map Hs⟩,⟨0,2,false,[]⟩]) 8 2 6 1 z.length (by decide) (by simp) rfl pk (by simp) rfl rfl) (F8 (W_T ?_));(with_reducible repeat'(first|simp (disch:=omega) only[push_cast,↓zz,seval,pw,pR,pt,pk]|apply Aa|refine sp_ ?_ ?_<;>intro hc<;>push_cast at hc|omega|intro _))
  (refine Ch [0,1] (hSt) (by decide) (by simp) (by (simp(disch:=omega)only[push_cast,↓zz,seval,pw,pR,pt,pk])) (by (simp(disch:=omega)only[push_cast,↓zz,seval,pw,pR,pt,pk])) (by (simp(disch:=omega)only[push_cast,↓zz,seval,pw,pR,pt,pk])) (by (simp(disch:=omega)only[push_cast,↓zz,seval,Af,Aj,Ar,Aw,AL,As,pw,pR,pt,pk])) ?_)
  rintro y H' ⟨rfl,rfl⟩;refine⟨_,rfl,by simp,?_⟩;(with_reducible repeat'(first|simp (disch:=omega) only[push_cast,↓zz,seval,pw,pR,pt,pk]|apply Aa|refine sp_ ?_ ?_<;>intro hc<;>push_cast at hc|omega|intro _));refine F8 (W_T ?_);(with_reducible repeat'(first|simp (disch:=omega) only[push_cast,↓zz,seval,pw,pR,pt,pk]|apply Aa|refine sp_ ?_ ?_<;>intro hc<;>push_cast at hc|omega|intro _))
  (refine Ch [0,1] (hRu) (by decide) (by simp) (by (simp(disch:=omega)only[push_cast,↓zz,seval,pw,pR,pt,pk])) (by (simp(disch:=omega)only[push_cast,↓zz,seval,pw,pR,pt,pk])) (by (simp(disch:=omega)only[push_cast,↓zz,seval,pw,pR,pt,pk])) (by (simp(disch:=omega)only[push_cast,↓zz,seval,Af,Aj,Ar,Aw,AL,As,pw,pR,pt,pk])) ?_)
  rintro y H' ⟨rfl,v',rfl⟩;refine⟨_,rfl,by simp,?_⟩;(with_reducible repeat'(first|simp (disch:=omega) only[push_cast,↓zz,seval,pw,pR,pt,pk]|apply Aa|refine sp_ ?_ ?_<;>intro hc<;>push_cast at hc|omega|intro _));refine W_T ?_;(with_reducible repeat'(first|simp (disch:=omega) only[push_cast,↓zz,seval,pw,pR,pt,pk,hdr]|apply Aa|refine sp_ ?_ ?_<;>intro hc<;>push_cast at hc|omega|intro _))
  all_goals
   refine⟨⟨n,w2,S,S+1,R++[CN f S [] (z.map Fj)],v'⟩,?_⟩;(with_reducible repeat'(first|simp (disch:=omega) only[push_cast,↓zz,seval,pw,pR,pt,pk,pd,hdr]|apply Aa|refine sp_ ?_ ?_<;>intro hc<;>push_cast at hc|omega|intro _))
  all_goals first|exact h2|exact⟨hd5⟩|(simp;omega)|trace_state
set_option maxRecDepth 100000
abbrev e1(i:Nat):AV:=.int .i64 i
set_option maxRecDepth 100000
def ruI(l:List Rule)(s:Nat):List Nat:=(List.range l.length).filter λi=>decide ((nth l i).from_=(s:Int))
theorem Hl{l:List Rule}{s i:Nat}:i∈ruI l s↔i<l.length/\(nth l i).from_=s:=by simp[ruI]
theorem Vb(l:List Rule)(s:Nat):(ruI l s).length<=l.length:=by
 have:=BL (λi=>decide ((nth l i).from_=(s:Int))) (List.range l.length)
 rwa [CH] at this
def Vd(l:List Rule)(a b:Int):Prop:=∃i p,okP l a (i::p)/\endP l a (i::p)=b
theorem z9d{l:List Rule}{i:Nat}(h:i<l.length)(he:CZ (nth l i)=true):Vd l (nth l i).from_ (nth l i).to_ :=
 ⟨i,[],⟨WS.2 ⟨h,he,rfl⟩,trivial⟩,rfl⟩
theorem YI{l:List Rule}{a b c:Int}(h:Vd l a b)(k:Vd l b c):Vd l a c:=by
 obtain⟨i,p,h1,h2⟩:=h;obtain⟨j,q,k1,k2⟩:=k;refine⟨i,p++j::q,?_,?_⟩
 ·rw[<-List.cons_append,UV,h2];exact⟨h1,k1⟩
 ·rw[<-List.cons_append,Rf,h2];exact k2
theorem z3j{l:List Rule}{n:Nat}(hl:∀r∈l,(0<=r.from_/\r.from_<n)/\0<=r.to_/\r.to_<n)(hc:¬cycP l n){a:Int}(ha:0<=a):¬Vd l a a:=by
 rintro⟨i,p,h1,h2⟩
 have key:∀k:Nat,∃q,okP l a q/\endP l a q=a/\k<=q.length:=λk=>by
  induction k with
  |zero=>exact⟨[],trivial,rfl,Ad _⟩
  |succ k ih =>
   obtain⟨q,q1,q2,q3⟩:=ih;refine⟨q++i::p,?_,?_,by simp;omega⟩
   ·rw[UV,q2];exact⟨q1,h1⟩
   ·rw[Rf,q2];exact h2
 obtain⟨q,q1,_,q3⟩:=key (n+2);have:=zfw hl hc ha q1;omega
def YJ(l:List Rule)(ord:List Nat):Prop:=∀i,i<ord.length->∀r∈l,CZ r=true->r.from_=(nth ord i:Nat)->∃t:Nat,r.to_=t/\t∈ord.take i
theorem z3k{l:List Rule}{ord:List Nat}{s:Nat}(h:YJ l ord)(hs:∀r∈l,CZ r=true->r.from_=(s:Int)->∃t:Nat,r.to_=t/\t∈ord):YJ l (ord++[s]):=λi hi r hr he hf=>by
 rw[Ah,List.length_singleton] at hi;rcases Ak i ord.length with h1|h1
 ·have e:nth (ord++[s]) i=nth ord i:=by simp[nth,List.getD,A7 h1]
  rw[e] at hf;obtain⟨t,t1,t2⟩:=h i h1 r hr he hf;exact⟨t,t1,by rw[Cr (by omega)];exact t2⟩
 ·obtain rfl:i=ord.length:=by omega
  have e:nth (ord++[s]) ord.length=s:=by simp[nth,List.getD]
  rw[e] at hf;obtain⟨t,t1,t2⟩:=hs r hr he hf;exact⟨t,t1,by rw[Cr (Ad _),AA];exact t2⟩
structure PQ(l:List Rule)(n:Nat)(dn:Nat->Bool)(ord:List Nat)(s:Nat):Prop where
 p1:∀a∈ord,dn a=true
 p2:∀a,a<n->dn a=true->a∈ord\/Vd l a s
 p3:YJ l ord
 p4:ord.Nodup/\∀a∈ord,a<n
structure Rh(l:List Rule)(n:Nat)(dn:Nat->Bool)(ord:List Nat)(s:Nat)(dn':Nat->Bool)(new:List Nat):Prop where
 q2:s∈ord++new
 q3:∀a,a<n->(dn' a=true↔dn a=true\/a∈new)
 q4:YJ l (ord++new)
 q5:(ord++new).Nodup/\∀a∈ord++new,a<n
 q6:∀a∈new,dn a=false
def IE(dn:Nat->Bool):Nat->Nat
 |0=>0
 |k+1=>IE dn k+(if dn k=true then 0 else 1)
theorem T3{dn dn':Nat->Bool}:∀{n:Nat},(∀a,a<n->dn a=true->dn' a=true)->IE dn' n<=IE dn n
 |0,_=>Ad _
 |n+1,h=>by
  have ih:=T3 (n:=n) λa ha=>h a (by omega);simp only[IE];cases h1:dn n with
  |true=>rw[h n (by omega) h1];simp;exact ih
  |false=>simp;split<;>omega
theorem T4{dn dn':Nat->Bool}{s:Nat}(h1:dn s=false)(h2:dn' s=true):∀{n:Nat},s<n->(∀a,a<n->dn a=true->dn' a=true)->IE dn' n<IE dn n
 |0,hs,_=>by omega
 |n+1,hs,h=>by
  simp only[IE];by_cases e:s=n
  ·subst e
   have:=T3 (n:=s) λa ha=>h a (by omega);simp[h1,h2];omega
  ·have ih:=T4 h1 h2 (n:=n) (by omega) λa ha=>h a (by omega)
   cases h3:dn n with
   |true=>rw[h n (by omega) h3];simp;exact ih
   |false=>simp;split<;>omega
structure Om(l:List Rule)(n:Nat)(dn:Nat->Bool)(ord:List Nat)(s:Nat)(dk:Nat->Bool)(new:List Nat)(k:Nat):Prop where
 m3:∀a,a<n->(dk a=true↔dn a=true\/a=s\/a∈new)
 m4:YJ l (ord++new)
 m5:(ord++new).Nodup/\∀a∈ord++new,a<n
 m6:∀a∈new,dn a=false/\a≠s
 m7:∀j,j<k->CZ (nth l (nth (ruI l s) j))=true->∃t:Nat,(nth l (nth (ruI l s) j)).to_=t/\t∈ord++new
theorem zg3{l:List Rule}{n:Nat}{dn:Nat->Bool}{ord:List Nat}{s:Nat}{dk:Nat->Bool}{new:List Nat}{k i:Nat}(hm:Om l n dn ord s dk new k)(hp:PQ l n dn ord s)(hi:i∈ruI l s)(he:CZ (nth l i)=true)(j:Nat)(hj:(nth l i).to_=j):PQ l n dk (ord++new) j:=by
 obtain⟨i1,i2⟩:=Hl.1 hi;have hone:Vd l s j:=by have:=z9d i1 he;rwa [i2,hj] at this
 refine⟨λa ha=>?_,λa ha h=>?_,hm.m4,hm.m5⟩
 ·have han:=hm.m5.2 a ha
  rcases Am.1 ha with h|h
  ·exact (hm.m3 a han).2 (.inl (hp.p1 a h))
  ·exact (hm.m3 a han).2 (.inr (.inr h))
 ·rcases (hm.m3 a ha).1 h with h|rfl|h
  ·rcases hp.p2 a ha h with h|h
   ·exact .inl (Cv _ h)
   ·exact .inr (YI h hone)
  ·exact .inr hone
  ·exact .inl (C7 _ h)
theorem z9e{l:List Rule}{n:Nat}{dn:Nat->Bool}{ord:List Nat}{s:Nat}{dk:Nat->Bool}{new:List Nat}{k i:Nat}(hm:Om l n dn ord s dk new k)(hk:k<(ruI l s).length)(hi:i=nth (ruI l s) k)(he:CZ (nth l i)=false):Om l n dn ord s dk new (k+1) :=
 ⟨hm.m3,hm.m4,hm.m5,hm.m6,λj hj h=>by
  rcases Ak j k with h1|h1
  ·exact hm.m7 j h1 h
  ·obtain rfl:j=k:=by omega
   rw[<-hi,he] at h;cases h⟩
theorem z9f{l:List Rule}{n:Nat}{dn:Nat->Bool}{ord:List Nat}{s:Nat}{dk:Nat->Bool}{new:List Nat}{k i:Nat}{dn2:Nat->Bool}{new2:List Nat}(hm:Om l n dn ord s dk new k)(hp:PQ l n dn ord s)(hk:k<(ruI l s).length)(hi:i=nth (ruI l s) k)
 (h:CZ (nth l i)=true/\∃j:Nat,(nth l i).to_=j/\Rh l n dk (ord++new) j dn2 new2):Om l n dn ord s dn2 (new++new2) (k+1):=by
 obtain⟨he,j,hj,hq⟩:=h;have hsn:s<n->dk s=true:=λhs=>(hm.m3 s hs).2 (.inr (.inl rfl));refine⟨λa ha=>?_,by rw[<-A3];exact hq.q4,by rw[<-A3];exact hq.q5,λa ha=>?_,λm hmk h=>?_⟩
 ·rw[hq.q3 a ha,hm.m3 a ha,Am]
  constructor
  ·rintro ((h|h|h)|h)
   ·exact .inl h
   ·exact .inr (.inl h)
   ·exact .inr (.inr (.inl h))
   ·exact .inr (.inr (.inr h))
  ·rintro (h|h|h|h)
   ·exact .inl (.inl h)
   ·exact .inl (.inr (.inl h))
   ·exact .inl (.inr (.inr h))
   ·exact .inr h
 ·rcases Am.1 ha with h|h
  ·exact hm.m6 a h
  ·have han:a<n:=hq.q5.2 a (C7 _ h)
   have h6:=hq.q6 a h;refine⟨?_,λe=>?_⟩
   ·cases hd:dn a with
    |false=>rfl
    |true=>rw[(hm.m3 a han).2 (.inl hd)] at h6;cases h6
   ·subst e;rw[hsn han] at h6;cases h6
 ·rw[<-A3]
  rcases Ak m k with h1|h1
  ·obtain⟨t,t1,t2⟩:=hm.m7 m h1 h
   exact⟨t,t1,Cv _ t2⟩
  ·obtain rfl:m=k:=by omega
   rw[<-hi];exact⟨j,hj,hq.q2⟩
theorem zg4{l:List Rule}{n:Nat}{dn:Nat->Bool}{ord:List Nat}{s:Nat}{dk:Nat->Bool}{new:List Nat}(hm:Om l n dn ord s dk new (ruI l s).length)(hp:PQ l n dn ord s)(hs:s<n)(hsno:s∉ord)(hd:dn s=false):Rh l n dn ord s dk (new++[s]):=by
 have hsnew:s∉new:=λh=>(hm.m6 s h).2 rfl;refine⟨by simp,λa ha=>?_,?_,⟨?_,λa ha=>?_⟩,λa ha=>?_⟩
 ·rw[hm.m3 a ha,Am,An]
  constructor
  ·rintro (h|h|h)
   ·exact .inl h
   ·exact .inr (.inr h)
   ·exact .inr (.inl h)
  ·rintro (h|h|h)
   ·exact .inl h
   ·exact .inr (.inr h)
   ·exact .inr (.inl h)
 ·rw[<-A3]
  refine z3k hm.m4 λr hr he hf=>?_;obtain⟨i,hi,rfl⟩:=B0 hr;have e:nth l i=l[i]:=HN hi;have hmem:i∈ruI l s:=Hl.2 ⟨hi,by rw[e];exact hf⟩;obtain⟨j,hj,hje⟩:=B0 hmem;have e2:nth (ruI l s) j=i:=by rw[HN hj];exact hje
  have:=hm.m7 j hj (by rw[e2,e];exact he);rw[e2,e] at this;exact this
 ·rw[<-A3]
  refine Dp.2 ⟨hm.m5.1,BX.2 ⟨by simp,Ei⟩,λa ha b hb=>?_⟩;rw[An.1 hb];rintro rfl;rcases Am.1 ha with h|h
  ·exact hsno h
  ·exact hsnew h
 ·rw[<-A3] at ha
  rcases Am.1 ha with h|h
  ·exact hm.m5.2 a h
  ·rw[An.1 h];exact hs
 ·rcases Am.1 ha with h|h
  ·exact (hm.m6 a h).1
  ·rw[An.1 h];exact hd
def rnB(d:Desc)(x:List Int)(RU FI od li:AV):AV:=.agg [.int .i64 d.in_,.int .i64 d.out,.int .i64 d.states,.int .i64 d.start,F4 d.rules,Gh d.finals,AH x,RU,FI,od,li]
def ruV(l:List Rule)(n:Nat):AV:=.lst 1 (fD 1 e1 n (ruI l))
def srtL(d:Desc)(x:List Int)(n:Nat)(FI:AV)(v:Nat)(dn:Nat->Bool)(ord:List Nat):List Grp :=
 [⟨11,1,true,[rnB d x (ruV d.rules n) FI (.ref 2 v 0 ord.length) .nilS]⟩,⟨1,1,true,spB n dn⟩,gG 1 e1 v ord]
theorem Fw(d:Desc)(x:List Int)(n:Nat)(FI:AV)(hFI:FI.pure=true)(v:Nat)(dn:Nat->Bool)(ord:List Nat):∀G∈srtL d x n FI v dn ord,ltL 3 G.xs:=λG hG=>by
 have h1:ltV 3 (F4 d.rules):=Ct _ _ (Ca _);have h2:ltV 3 (Gh d.finals):=Ct _ _ (Cn _);have h3:ltV 3 (AH x):=Ct _ _ (AG .i32 _);have h4:ltV 3 (ruV d.rules n):=Ct _ _ (FN λ_=>rfl);have h5:ltV 3 FI:=Ct _ _ hFI;simp only[srtL,Af,Aj,Ar] at hG;rcases hG with rfl|rfl|rfl
 ·exact⟨⟨trivial,trivial,trivial,trivial,h1,h2,h3,h4,h5,(show 2<3 by omega),trivial,trivial⟩,trivial⟩
 ·exact CM _ _ (BU.2 λy hy=>by obtain⟨i,_,rfl⟩:=Au.1 hy;rfl)
 ·exact CM _ _ (Et (λ_=>rfl) _)
theorem z9g(d:Desc)(x:List Int){n:Nat}(hn:n<=1024)(hrl:d.rules.length<=4096)(hl:∀r∈d.rules,(0<=r.from_/\r.from_<n)/\0<=r.to_/\r.to_<n)(hc:¬cycP d.rules n)(FI:AV)(hFI:FI.pure=true):
 ∀(u:Nat)(s:Nat)(v:Nat)(dn:Nat->Bool)(ord:List Nat),IE dn n<=u->s<n->PQ d.rules n dn ord s ->
 B2 Tryz.prog 98 [.ptr 0 1 0 0,.int .i64 s,.ref 1 1 0 n] (Abs.hl (srtL d x n FI v dn ord)) λy H'=>∃v' dn' new,y=.tup [] /\
  H'=Abs.hl (srtL d x n FI v' dn' (ord++new))/\Rh d.rules n dn ord s dn' new:=by
 intro u
 induction u using Nat.strongRecOn with
 |ind u ih =>
 intro s v dn ord hu hs hp;have hs0:(0:Int)<=s:=by omega
 have pR:=Ca d.rules;have pFi:=Cn d.finals;have pX:AD (x.map (AV.int .i32))=true:=AG .i32 _;have pRU:AD (fD 1 e1 n (ruI d.rules))=true:=FN λ_=>rfl;have lB:∀on,(spB n on).length=n:=λon=>by simp[spB]
 have aB:(spB n dn).getD s .any=.bool (dn s):=CK hs;have pB:∀on,AD (spB n on)=true:=λon=>BU.2 λy hy=>by obtain⟨i,_,rfl⟩:=Au.1 hy;rfl
 refine DJ (G3 Lg (W_T ?_));unfold Hx;cases hd:dn s with
 |true =>
  rw[hd] at aB;have hso:s∈ord:=(hp.p2 s hs hd).resolve_right (z3j hl hc hs0);rw[srtL];unfold rnB;(with_reducible repeat'(first|simp (disch:=omega) only[push_cast,↓zz,seval,pR,pFi,pX,hFI,lB,aB,pB]|apply Aa|refine sp_ ?_ ?_<;>intro hc<;>push_cast at hc|omega|intro _))
  all_goals exact⟨_,_,Ent.refl,v,dn,[],rfl,by rw[AB];rfl,⟨by simpa using hso,λa _=>by simp,by rw[AB];exact hp.p3,by rw[AB];exact hp.p4,λa ha=>by cases ha⟩⟩
 |false =>
  rw[hd] at aB;have hset:=zfr (on:=dn) hs;have lRU:(fD 1 e1 n (ruI d.rules)).length=n:=WW;have aR:(fD 1 e1 n (ruI d.rules)).getD s .any=.lst 1 ((ruI d.rules s).map e1):=z9a hs;have aR2:(fD 1 e1 n (ruI d.rules))[s]? = some (.lst 1 ((ruI d.rules s).map e1)):=WX hs;have pI:AD ((ruI d.rules s).map e1)=true:=Et (λ_=>rfl) _;have hIl:=Vb d.rules s;have hsno:s∉ord:=λh=>by have:=hp.p1 s h;rw[hd] at this;cases this
  have hlt:∀dn',(∀a,a<n->dn a=true->dn' a=true)->dn' s=true->IE dn' n<u:=λdn' h1 h2=>AU (T4 hd h2 hs h1) hu;rw[srtL];unfold rnB ruV;generalize hRe:fD 1 e1 n (ruI d.rules)=RU at *;(with_reducible repeat'(first|simp (disch:=omega) only[push_cast,↓zz,seval,pR,pFi,pX,hFI,lB,aB,pB,hset,lRU,aR,aR2,pI]|apply Aa|refine sp_ ?_ ?_<;>intro hc<;>push_cast at hc|omega|intro _))
  refine Bw (J8 (λ(q:Nat × Nat × (Nat->Bool) × List Nat)=>q.1<=(ruI d.rules s).length/\Hold (Om d.rules n dn ord s q.2.2.1 q.2.2.2 q.1)) (λq=>(ruI d.rules s).length-q.1)
   (λq=>E0 [(0,.ptr 0 1 0 0),(1,.int .i64 s),(2,.ref 1 1 0 n),(22,.lst 1 ((ruI d.rules s).map e1)),(23,.int .i64 (ruI d.rules s).length),(24,.int .i64 q.1)])
   (λq=>Abs.hl (srtL d x n FI q.2.1 q.2.2.1 (ord++q.2.2.2))) (0,v,setB dn s,[]) ⟨A6 _,⟨?_⟩⟩ ?_ ?_)
  ·refine⟨λa _=>?_,by rw[AB];exact hp.p3,by rw[AB];exact hp.p4,λa ha=>(by cases ha),λj hj=>absurd hj (Ba _)⟩
   simp only[setB];by_cases e:a=s<;>simp[e]
  ·refine FZ (gar:=[]) _ ?_ (by simp[srtL,hl_n]) (Fw d x n FI hFI _ _ _) ?_
   ·rw[AB,AB,srtL]
    unfold rnB ruV;rw[hRe]
   ·have hI:ltV 3 (.lst 1 ((ruI d.rules s).map e1)):=Ct _ _ pI
    exact⟨rfl,(show 0<3 by omega),rfl,trivial,rfl,(show 1<3 by omega),rfl,hI,rfl,trivial,rfl,trivial,trivial⟩
  rintro⟨k,v1,dk,new⟩ ⟨hk,⟨hm⟩⟩;simp only at hk hm ⊢;have hI:ltV 3 (.lst 1 ((ruI d.rules s).map e1)):=Ct _ _ pI;rcases Ak k (ruI d.rules s).length with hkl|hkl
  ·obtain⟨i,hi⟩:∃i,i=nth (ruI d.rules s) k:=⟨_,rfl⟩
   have him:i∈ruI d.rules s:=by rw[hi];exact Bo hkl
   obtain⟨i1,i2⟩:=Hl.1 him;have aI:((ruI d.rules s).map e1).getD k .any=.int .i64 i:=by rw[hi];simp[nth,List.getD,hkl]
   have hto:=(hl _ (Bo i1)).2;have hmid:=λdn2 new2 h=>z9f (dn:=dn) (ord:=ord) (s:=s) (dk:=dk) (new:=new) (dn2:=dn2) (new2:=new2) hm hp hkl hi h;have hskip:=z9e (dn:=dn) (ord:=ord) (s:=s) (dk:=dk) (new:=new) hm hkl hi;have hpre:=λh=>zg3 (dn:=dn) (ord:=ord) (s:=s) (dk:=dk) (new:=new) (i:=i) hm hp him h;generalize hre:nth d.rules i=r at *;have hgr:=Cc r.guards;have hot:=CI r.out;obtain⟨j,hj⟩:∃j:Nat,r.to_=j:=⟨r.to_.toNat,by omega⟩;have hjn:j<n:=by omega
   rw[srtL];unfold rnB ruV;rw[hRe];refine W_T ?_;cases he:CZ r with
   |true =>
    have he0:(r.guards.length:Int)=0:=by simpa [CZ] using he
    have hIH:=ih (IE dk n) (hlt dk (λa ha h=>(hm.m3 a ha).2 (.inl h)) ((hm.m3 s hs).2 (.inr (.inl rfl)))) j v1 dk (ord++new) (Ad _) hjn (hpre he j hj);(with_reducible repeat'(first|simp (disch:=omega) only[push_cast,↓zz,seval,pR,pFi,pX,hFI,lB,pB,pI,aI,hre,hgr,hot,hj,i1,he0]|apply Aa|refine sp_ ?_ ?_<;>intro hc<;>push_cast at hc|omega|intro _));refine z3i (l0:=srtL d x n FI v1 dk (ord++new)) (extra:=[_]) (by rw[srtL];unfold rnB ruV;rw[hRe,Ah];rfl) hIH ?_ (Fw d x n FI hFI _ _ _) ?_
    ·exact⟨(show 0<3 by omega),trivial,(show 1<3 by omega),trivial⟩
    rintro y H' ⟨v2,dn2,new2,rfl,rfl,hpost⟩;refine⟨_,rfl,rfl,trivial,Fw d x n FI hFI _ _ _,?_⟩;have hM:=hmid dn2 new2 ⟨he,j,hj,hpost⟩;rw[A3];(with_reducible repeat'(first|simp (disch:=omega) only[push_cast,↓zz,seval]|apply Aa|refine sp_ ?_ ?_<;>intro hc<;>push_cast at hc|omega|intro _));refine⟨(k+1,v2,dn2,new++new2),FZ (gar:=[_]) _ rfl (by simp[srtL,hl_n]) (Fw d x n FI hFI _ _ _) ?_,⟨by omega,⟨hM⟩⟩,by simp only;omega⟩;exact⟨rfl,(show 0<3 by omega),rfl,trivial,rfl,(show 1<3 by omega),rfl,hI,rfl,trivial,rfl,trivial,trivial⟩
   |false =>
    have he0:¬(r.guards.length:Int)=0:=by simpa [CZ] using he
    (with_reducible repeat'(first|simp (disch:=omega) only[push_cast,↓zz,seval,pR,pFi,pX,hFI,lB,pB,pI,aI,hre,hgr,hot,hj,i1,he0]|apply Aa|refine sp_ ?_ ?_<;>intro hc<;>push_cast at hc|omega|intro _));refine⟨(k+1,v1,dk,new),FZ (gar:=[⟨5,1,true,[.agg [.int .i64 r.from_,.int .i64 j,DT r.guards,.int .i64 r.eat,Hr r.out]]⟩]) _ ?_ (by simp[srtL,hl_n]) (Fw d x n FI hFI _ _ _) ?_,⟨by omega,⟨hskip he⟩⟩,by simp only;omega⟩
    ·simp only
     rw[srtL];unfold rnB ruV;rw[hRe,Ah];rfl
    ·exact⟨rfl,(show 0<3 by omega),rfl,trivial,rfl,(show 1<3 by omega),rfl,hI,rfl,trivial,rfl,trivial,trivial⟩
  ·obtain rfl:k=(ruI d.rules s).length:=by omega
   have hend:=zg4 hm hp hs hsno hd
   have hol:(ord++new).length<=n:=by
    have:=KC (l:=ord++new) (m:=List.range n) hm.m5.1 λa ha=>Bt.2 (hm.m5.2 a ha);simpa using this
   have hEx:=zfz (e:=e1) (ord++new);have pO:AD ((ord++new).map e1)=true:=Et (λ_=>rfl) _;have eO:(ord++(new++[s])).map e1=(ord++new).map e1++[.int .i64 (s:Int)]:=by simp
   have eL:(ord++(new++[s])).length=(ord++new).length+1:=by simp;omega
   have hfin:∀v1,srtL d x n FI (v1+1) dk (ord++(new++[s]))=[⟨11,1,true,[rnB d x (ruV d.rules n) FI (.ref 2 (v1+1) 0 ((ord++new).length+1)) .nilS]⟩,⟨1,1,true,spB n dk⟩,⟨1,v1+1,false,(ord++new).map e1++[.int .i64 (s:Int)]⟩]:=λv1=>by
    have he:(ord++(new++[s])).isEmpty=false:=by simp
    rw[srtL,gG,eO,eL,he]
   rw[srtL,gG];generalize ord++new=on at *;unfold rnB ruV;rw[hRe];refine W_T ?_;(with_reducible repeat'(first|simp (disch:=omega) only[push_cast,↓zz,seval,pR,pFi,pX,hFI,lB,pB,pI,hEx,pO]|apply Aa|refine sp_ ?_ ?_<;>intro hc<;>push_cast at hc|omega|intro _));refine⟨_,_,Hc (l0:=srtL d x n FI (v1+1) dk (ord++(new++[s]))) (gar:=[⟨1,1,true,[.int .i64 (s:Int)]⟩]) ?_ (by simp[srtL,hl_n]) (Fw d x n FI hFI _ _ _) trivial,v1+1,dk,new++[s],rfl,rfl,hend⟩;rw[hfin];unfold rnB ruV;rw[hRe];rfl
def lvB(n m:Nat)(L:Nat->Nat->Bool):List AV:=(List.range m).map λp=>AV.bool (L (p / n) (p % n))
def setP{β:Type}(L:Nat->Nat->β)(a t:Nat)(v:β):Nat->Nat->β:=λb u=>if b=a/\u=t then v else L b u
section
variable {n m a t:Nat}{L:Nat->Nat->Bool}
theorem KF(h:t<n):(a * n+t) / n=a:=by
 rw[CB,Nat.mul_add_div (by omega),Nat.div_eq_of_lt h,Nat.add_zero]
theorem KG(h:t<n):(a * n+t) % n=t:=by
 rw[CB,Nat.mul_add_mod,EB h]
theorem Xc{p:Nat}(h:t<n)(hp:p / n=a/\p % n=t):p=a * n+t:=by
 have:=FG p n;rw[hp.1,hp.2,CB] at this;exact this.symm
theorem GA{k:Nat}(h:t<n)(ha:a<=k):a * n+t<(k+1) * n:=by
 have h1:a * n<=k * n:=AT n ha;have h2:(k+1) * n=k * n+n:=Nat.succ_mul k n;omega
theorem JM:(lvB n m L).length=m:=by simp[lvB]
theorem MC:AD (lvB n m L)=true:=BU.2 λx hx=>by
 obtain⟨i,_,rfl⟩:=Au.1 hx;rfl
theorem zbr{z:AV}(ht:t<n)(hp:a * n+t<m):(lvB n m L).getD (a * n+t) z=.bool (L a t):=by
 rw[lvB,CK hp,KF ht,KG ht]
theorem z3l{v:Bool}(ht:t<n)(hp:a * n+t<m):(lvB n m L).set (a * n+t) (.bool v)=lvB n m (setP L a t v):=by
 rw[lvB,Es hp,lvB];refine AS λp _=>?_;simp only[setP];by_cases e:p=a * n+t
 ·subst e;rw[Ae rfl,KF ht,KG ht,Ae ⟨rfl,rfl⟩]
 ·rw[Ac e,Ac λh=>e (Xc ht h)]
theorem z9h:List.replicate m (AV.bool false)=lvB n m λ_ _=>false:=by
 refine Cj (by simp[lvB]) λi h1 h2=>?_;simp[lvB]
end
structure Liv(d:Desc)(x:List Int)(n:Nat)(ord:List Nat)(at_ j:Nat)(L:Nat->Nat->Bool):Prop where
 start:L 0 d.start.toNat=true
 lead:∀a t,L a t=true->t<n/\a<=x.length/\∃u,UW d x 0 d.start u a t
 clos:∀a t,(a<at_\/(a=at_/\t∈ord.drop (n-j)))->L a t=true->∀r∈d.rules,r.from_=(t:Nat)->goB x r.guards a=true->L (a+r.eat.toNat) r.to_.toNat=true
structure LivS(d:Desc)(x:List Int)(n:Nat)(ord:List Nat)(at_ j s k:Nat)(L:Nat->Nat->Bool):Prop where
 liv:Liv d x n ord at_ j L
 on:L at_ s=true
 some_:∀i,i<k->goB x (nth d.rules (nth (ruI d.rules s) i)).guards at_=true->L (at_+(nth d.rules (nth (ruI d.rules s) i)).eat.toNat) (nth d.rules (nth (ruI d.rules s) i)).to_.toNat=true
structure LivE(d:Desc)(x:List Int)(n:Nat)(L:Nat->Nat->Bool):Prop where
 start:L 0 d.start.toNat=true
 lead:∀a t,L a t=true->t<n/\a<=x.length/\∃u,UW d x 0 d.start u a t
 clos:∀a t,L a t=true->∀r∈d.rules,r.from_=(t:Nat)->goB x r.guards a=true->L (a+r.eat.toNat) r.to_.toNat=true
section
variable {d:Desc}{x:List Int}{n:Nat}{ord:List Nat}{at_ j s k:Nat}{L:Nat->Nat->Bool}
theorem ED(ht:Topo d.rules n ord):ord.length=n:=by
 have h1:=KC (l:=ord) (m:=List.range n) ht.nodup λa ha=>Bt.2 ((ht.all a).1 ha);have h2:=KC (l:=List.range n) (m:=ord) EA λa ha=>(ht.all a).2 (Bt.1 ha);simp at h1 h2;omega
theorem z9i(hs:0<=d.start/\d.start<n)(hol:ord.length=n):Liv d x n ord 0 0 (setP (λ_ _=>false) 0 d.start.toNat true):=by
 refine⟨by simp[setP],λa t h=>?_,λa t h hL=>?_⟩
 ·simp only[setP] at h
  split at h
  ·rename_i e
   obtain⟨rfl,rfl⟩:=e;refine⟨by omega,A6 _,[],?_⟩;rw[BK hs.1];exact .here
  ·cases h
 ·rcases h with h|⟨_,h⟩
  ·omega
  ·rw[Ax (by omega)] at h;cases h
theorem z3m(h:Liv d x n ord at_ j L)(ho:L at_ s=true):LivS d x n ord at_ j s 0 L:=⟨h,ho,λi hi=>absurd hi (Ba _)⟩
theorem zg5(h:LivS d x n ord at_ j s k L)(hno:goB x (nth d.rules (nth (ruI d.rules s) k)).guards at_=false):LivS d x n ord at_ j s (k+1) L:=by
 refine⟨h.liv,h.on,λi hi hg=>?_⟩;rcases Ak i k with h1|h1
 ·exact h.some_ i h1 hg
 ·obtain rfl:i=k:=by omega
  rw[hno] at hg;cases hg
theorem z9j(h:LivS d x n ord at_ j s k L)(hg:Goes d n)(ht:Topo d.rules n ord)(hj:j<n)(hs:s=nth ord (n-1-j))(hk:k<(ruI d.rules s).length)(hgo:goB x (nth d.rules (nth (ruI d.rules s) k)).guards at_=true):
 LivS d x n ord at_ j s (k+1) (setP L (at_+(nth d.rules (nth (ruI d.rules s) k)).eat.toNat) (nth d.rules (nth (ruI d.rules s) k)).to_.toNat true):=by
 obtain⟨i1,i2⟩:=Hl.1 (Bo hk);have hr:=Bo i1;generalize hre:nth d.rules (nth (ruI d.rules s) k)=r at *;obtain⟨hf,htt,he1,he2⟩:=hg.r r hr;have hle:=Jq hgo
 have mono:∀a t,L a t=true->setP L (at_+r.eat.toNat) r.to_.toNat true a t=true:=λa t hl=>by
  simp only[setP];split
  ·rfl
  ·exact hl
 have hol:=ED ht;refine⟨⟨mono _ _ h.liv.start,λa t hl=>?_,λa t hp hl q hq hqf hqg=>mono _ _ ?_⟩,mono _ _ h.on,λi hi hgi=>?_⟩
 ·simp only[setP] at hl
  split at hl
  ·rename_i e
   obtain⟨rfl,rfl⟩:=e;obtain⟨_,_,u,hu⟩:=h.liv.lead _ _ h.on;refine⟨by omega,by omega,u++FR x r.out r.guards at_,?_⟩;have:=hu.step r hr i2 hgo
   rwa [BK htt.1]
  ·exact h.liv.lead a t hl
 ·refine h.liv.clos a t hp ?_ q hq hqf hqg
  simp only[setP] at hl;split at hl
  ·rename_i e
   exfalso;obtain⟨rfl,rfl⟩:=e;rcases hp with hp|⟨hp,hm⟩
   ·omega
   ·have e0:r.eat.toNat=0:=by omega
    have heps:CZ r=true:=by
     cases hh:CZ r with
     |true=>rfl
     |false=>have:=he2 hh;omega
    obtain⟨t,t1,t2⟩:=ht.eps (n-1-j) (by omega) r hr heps (by rw[<-hs];exact i2);have e3:r.to_.toNat=t:=by omega
    rw[e3] at hm;have hm2:t∈ord.drop (n-1-j):=BB (i:=1) (by rw[List.drop_drop,show n-1-j+1=n-j by omega];exact hm);have hnd:=ht.nodup;rw[<-Cf (n-1-j) ord,Dp] at hnd;exact hnd.2.2 t t2 t hm2 rfl
  ·exact hl
 ·rcases Ak i k with h1|h1
  ·exact mono _ _ (h.some_ i h1 hgi)
  ·obtain rfl:i=k:=by omega
   rw[hre];simp[setP]
theorem Mo{l:List Nat}{i t:Nat}(hi:i<l.length)(h:t∈l.drop i):t=nth l i\/t∈l.drop (i+1):=by
 rw[drop_at hi,Af] at h;exact h
theorem z9k(h:LivS d x n ord at_ j s (ruI d.rules s).length L)(ht:Topo d.rules n ord)(hj:j<n)(hs:s=nth ord (n-1-j)):Liv d x n ord at_ (j+1) L:=by
 have hol:=ED ht;refine⟨h.liv.start,h.liv.lead,λa t hp hl q hq hqf hqg=>?_⟩;rcases hp with hp|⟨rfl,hm⟩
 ·exact h.liv.clos a t (.inl hp) hl q hq hqf hqg
 ·rw[show n-(j+1)=n-1-j by omega] at hm
  rcases Mo (by omega) hm with h1|h1
  ·rw[<-hs] at h1
   subst h1;obtain⟨i,hi,rfl⟩:=B0 hq;have e:nth d.rules i=d.rules[i]:=HN hi;obtain⟨p,hp,hpe⟩:=B0 (Hl.2 ⟨hi,by rw[e];exact hqf⟩);have e2:nth (ruI d.rules t) p=i:=by rw[HN hp];exact hpe
   have:=h.some_ p hp (by rw[e2,e];exact hqg)
   rwa [e2,e] at this
  ·exact h.liv.clos a t (.inr ⟨rfl,by rwa [show n-j=n-1-j+1 by omega]⟩) hl q hq hqf hqg
theorem z9l(h:Liv d x n ord at_ j L)(ht:Topo d.rules n ord)(hj:j<n)(hs:s=nth ord (n-1-j))(ho:L at_ s=false):Liv d x n ord at_ (j+1) L:=by
 have hol:=ED ht;refine⟨h.start,h.lead,λa t hp hl q hq hqf hqg=>?_⟩;rcases hp with hp|⟨rfl,hm⟩
 ·exact h.clos a t (.inl hp) hl q hq hqf hqg
 ·rw[show n-(j+1)=n-1-j by omega] at hm
  rcases Mo (by omega) hm with h1|h1
  ·rw[<-hs] at h1
   subst h1;rw[ho] at hl;cases hl
  ·exact h.clos a t (.inr ⟨rfl,by rwa [show n-j=n-1-j+1 by omega]⟩) hl q hq hqf hqg
theorem zg6(h:Liv d x n ord at_ n L)(ht:Topo d.rules n ord):Liv d x n ord (at_+1) 0 L:=by
 have hol:=ED ht;refine⟨h.start,h.lead,λa t hp hl q hq hqf hqg=>?_⟩;rcases hp with hp|⟨_,hm⟩
 ·rcases Ak a at_ with h1|h1
  ·exact h.clos a t (.inl h1) hl q hq hqf hqg
  ·refine h.clos a t (.inr ⟨by omega,?_⟩) hl q hq hqf hqg
   rw[Nat.sub_self,Bz];exact (ht.all t).2 (h.lead a t hl).1
 ·rw[Nat.sub_zero,Ax (by omega)] at hm;cases hm
theorem zg7(h:Liv d x n ord (x.length+1) 0 L):LivE d x n L :=
 ⟨h.start,h.lead,λa t hl q hq hqf hqg=>h.clos a t (.inl (by have:=(h.lead a t hl).2.1;omega)) hl q hq hqf hqg⟩
structure PR(l:List Rule)(n k:Nat)(dn:Nat->Bool)(ord:List Nat):Prop where
 a1:∀a,a<n->(dn a=true↔a∈ord)
 a2:YJ l ord
 a3:ord.Nodup/\∀a∈ord,a<n
 a4:∀a,a<k->a∈ord
theorem Ve(l:List Rule)(n:Nat):PR l n 0 (λ_=>false) [] :=
 ⟨λa _=>by simp,λi hi=>absurd hi (Ba _),⟨Ei,λa h=>by cases h⟩,λa h=>absurd h (Ba _)⟩
theorem YK{l:List Rule}{dn:Nat->Bool}(h:PR l n k dn ord):PQ l n dn ord k :=
 ⟨λa ha=>(h.a1 a (h.a3.2 a ha)).2 ha,λa ha hd=>.inl ((h.a1 a ha).1 hd),h.a2,h.a3⟩
theorem Vf{l:List Rule}{dn dn':Nat->Bool}{new:List Nat}(h:PR l n k dn ord)(hp:Rh l n dn ord k dn' new):PR l n (k+1) dn' (ord++new):=by
 refine⟨λa ha=>?_,hp.q4,hp.q5,λa ha=>?_⟩
 ·rw[hp.q3 a ha,h.a1 a ha,Am]
 ·rcases Ak a k with h1|h1
  ·exact Cv _ (h.a4 a h1)
  ·obtain rfl:a=k:=by omega
   exact hp.q2
theorem Vg{l:List Rule}{dn:Nat->Bool}(h:PR l n n dn ord):Topo l n ord :=
 ⟨h.a3.1,λs=>⟨h.a3.2 s,h.a4 s⟩,h.a2⟩
end
section
variable {d:Desc}{x:List Int}{n:Nat}{ord:List Nat}{L:Nat->Nat->Bool}
def Past(ord:List Nat)(at_ j a t:Nat):Prop:=at_<a\/(a=at_/\t∈ord.take j)
theorem z9m{at_ a t:Nat}(hol:ord.length=n)(ht:t∈ord)(h:Past ord at_ 0 a t):Past ord (at_+1) n a t:=by
 rcases h with h|⟨_,h⟩
 ·rcases Ak (at_+1) a with h1|h1
  ·exact .inl h1
  ·exact .inr ⟨by omega,by rw[Ay (by omega)];exact ht⟩
 ·simp at h
theorem T5{at_ j a t:Nat}(hj:j<ord.length)(h:Past ord at_ (j+1) a t):Past ord at_ j a t\/(a=at_/\t=nth ord j):=by
 rcases h with h|⟨h1,h⟩
 ·exact .inl (.inl h)
 ·rw[take_at hj,Am,An] at h
  rcases h with h|h
  ·exact .inl (.inr ⟨h1,h⟩)
  ·exact .inr ⟨h1,h⟩
theorem Vh(hg:Goes d n)(ht:Topo d.rules n ord){at_ j:Nat}(hj:j<n){r:Rule}(hr:r∈d.rules)(hf:r.from_=(nth ord j:Nat)):Past ord at_ j (at_+r.eat.toNat) r.to_.toNat:=by
 obtain⟨_,htt,he1,he2⟩:=hg.r r hr;cases he:CZ r with
 |true =>
  have e0:=z3a hg hr he;obtain⟨t,t1,t2⟩:=ht.eps j (by rw[ED ht];exact hj) r hr he hf;refine .inr ⟨by omega,?_⟩;rw[show r.to_.toNat=t by omega];exact t2
 |false=>exact .inl (by have:=he2 he;omega)
theorem zg8(hg:Goes d n)(ht:Topo d.rules n ord)(ho:(∀r∈d.rules,r.out.length<=64)/\∀f∈d.finals,f.out.length<=64):∀(k at_:Nat),x.length-at_<k->at_<=x.length->∀i,i<=n->∀s∈ord.take i,∀w,RelW d x at_ (s:Nat) w->w.length<=64 * ((x.length-at_) * n+i):=by
 have hl:∀(out:List Term) gs a,(FR x out gs a).length=out.length:=λout gs a=>by simp[FR,FY]
 have hol:=ED ht;intro k
 induction k with
 |zero=>intro at_ h;omega
 |succ k ih =>
  intro at_ hk ha i
  induction i with
  |zero=>intro _ s hs;simp at hs
  |succ i ihi =>
   intro hi s hs w hw;rw[take_at (by omega),Am,An] at hs;rcases hs with hs|rfl
   ·have:=ihi (by omega) s hs w hw
    omega
   ·rcases Ic.1 hw with⟨f,hf,_,_,rfl⟩|⟨r,hr,hf,hgo,v,hv,rfl⟩
    ·rw[hl]
     have:=ho.2 f hf;have:64 * ((x.length-at_) * n+i+1)≥64:=by omega
     omega
    ·rw[Ah,hl]
     have h64:=ho.1 r hr;obtain⟨_,htt,e1,e2⟩:=hg.r r hr;have hle:=Jq hgo;have hv2:RelW d x (at_+r.eat.toNat) (r.to_.toNat:Nat) v:=by rw[BK htt.1];exact hv
     have key:v.length<=64 * ((x.length-at_) * n+i):=by
      rcases Vh (at_:=at_) hg ht (by omega:i<n) hr hf with hp|⟨hp,hm⟩
      ·have h1:=ih (at_+r.eat.toNat) (by omega) (by omega) n (Ad _) r.to_.toNat (by rw[Ay (by omega)];exact (ht.all _).2 (by omega)) v hv2
       have h2:(x.length-(at_+r.eat.toNat)) * n+n<=(x.length-at_) * n:=by
        rw[<-Nat.succ_mul];exact AT n (by omega)
       omega
      ·rw[hp] at hv2
       exact ihi (by omega) _ hm v hv2
     omega
theorem Xd(hg:Goes d n)(ht:Topo d.rules n ord)(ho:(∀r∈d.rules,r.out.length<=64)/\∀f∈d.finals,f.out.length<=64)(hn:n<=1024)(hx:x.length<=1024){at_ s:Nat}(ha:at_<=x.length)(hs:s<n){w:List Int}(hw:RelW d x at_ s w):w.length<=100000000:=by
 have h1:=zg8 hg ht ho (x.length-at_+1) at_ (by omega) ha n (Ad _) s (by rw[Ay (by rw[ED ht];omega)];exact (ht.all s).2 hs) w hw;have h2:(x.length-at_) * n<=1024 * 1024:=Cs (by omega) hn;omega
structure OutI(d:Desc)(x:List Int)(L:Nat->Nat->Bool)(ord:List Nat)(most:Nat)(at_ j:Nat)(S:Nat->Nat->List (List Int))(many:Bool):Prop where
 no:many=false->∀a t,a<=x.length->L a t=true->Past ord at_ j a t->S a t=outW d x a t/\(S a t).length<=most
 yes:many=true->∃a t,L a t=true/\most<(outW d x a t).length
variable {most at_ j:Nat}{S:Nat->Nat->List (List Int)}{many:Bool}
theorem z3n(ho:ord.length=n):OutI d x L ord most x.length 0 (λ_ _=>[]) false:=by
 refine⟨λ_ a t ha _ hp=>?_,λh=>by cases h⟩;rcases hp with h|⟨_,h⟩
 ·omega
 ·simp at h
theorem z3o(h:OutI d x L ord most at_ j S true)(at2 j2:Nat):OutI d x L ord most at2 j2 S true:=⟨λh=>(by cases h),h.yes⟩
theorem z3p(h:OutI d x L ord most at_ j S many)(hj:j<ord.length)(ho:L at_ (nth ord j)=false):OutI d x L ord most at_ (j+1) S many:=by
 refine⟨λhm a t ha hl hp=>?_,h.yes⟩;rcases T5 hj hp with h1|⟨rfl,rfl⟩
 ·exact h.no hm a t ha hl h1
 ·rw[ho] at hl;cases hl
theorem z9n(h:OutI d x L ord most (at_+1) n S many)(hl:LivE d x n L)(ht:Topo d.rules n ord):OutI d x L ord most at_ 0 S many:=⟨λhm a t ha hlt hp=>h.no hm a t ha hlt (z9m (ED ht) ((ht.all t).2 (hl.lead a t hlt).1) hp),h.yes⟩
theorem On(hg:Goes d n)(ht:Topo d.rules n ord){a t:Nat}(ha:a<=x.length)(hs:t<n):JK d x a t (outW d x a t):=Tu (zke hg ht (x.length-a+1) a (by omega) ha t hs)
theorem zg9(h:OutI d x L ord most at_ j S false)(hl:LivE d x n L)(hg:Goes d n)(ht:Topo d.rules n ord)(hj:j<n)(ha:at_<=x.length)(hlv:L at_ (nth ord j)=true):Jh (outL d x (λa t=>S a t.toNat) at_ (nth ord j:Nat))=outW d x at_ (nth ord j:Nat):=by
 refine (z3b (WT λr hr hf hgo=>?_)).symm;obtain⟨_,htt,e1,e2⟩:=hg.r r hr;have hle:=Jq hgo;have h1:=h.no rfl (at_+r.eat.toNat) r.to_.toNat (by omega) (hl.clos _ _ hlv r hr hf hgo) (Vh hg ht hj hr hf);have h2:=On hg ht (x:=x) (a:=at_+r.eat.toNat) (t:=r.to_.toNat) (by omega) (by omega);rw[<-h1.1,BK htt.1] at h2;exact h2
theorem z3q(h:OutI d x L ord most at_ j S false)(hl:LivE d x n L)(hg:Goes d n)(ht:Topo d.rules n ord)(hj:j<n)(ha:at_<=x.length)(hlv:L at_ (nth ord j)=true){M:List (List Int)}(hM:M=outW d x at_ (nth ord j:Nat)):OutI d x L ord most at_ (j+1) (setP S at_ (nth ord j) M) (decide (most<M.length)):=by
 refine⟨λhm a t hal hlt hp=>?_,λhm=>?_⟩
 ·simp only[Bc,Nat.not_lt] at hm
  simp only[setP];by_cases e:a=at_/\t=nth ord j
  ·rw[Ae e]
   obtain⟨rfl,rfl⟩:=e;exact⟨hM,hm⟩
  ·rw[Ac e]
   rcases T5 (by rw[ED ht];exact hj) hp with h1|h1
   ·exact h.no rfl a t hal hlt h1
   ·exact absurd h1 e
 ·simp only[Ai] at hm
  exact⟨at_,nth ord j,hlv,by rw[<-hM];exact hm⟩
theorem z9o(h:OutI d x L ord most 0 n S many)(hl:LivE d x n L)(hg:Goes d n)(ht:Topo d.rules n ord)(hs:0<=d.start/\d.start<n):many=decide (most<(outW d x 0 d.start).length)/\(many=false->S 0 d.start.toNat=outW d x 0 d.start):=by
 have hst:((d.start.toNat:Nat):Int)=d.start:=BK hs.1;have hO:=On hg ht (x:=x) (a:=0) (t:=d.start.toNat) (A6 _) (by omega);rw[hst] at hO;cases many with
 |false =>
  have h1:=h.no rfl 0 d.start.toNat (A6 _) hl.start (.inr ⟨rfl,by rw[Ay (by rw[ED ht];omega)];exact (ht.all _).2 (by omega)⟩);rw[hst] at h1;have h2:=h1.2;rw[h1.1] at h2;refine⟨?_,λ_=>h1.1⟩;rw[eq_comm,Bc];omega
 |true =>
  obtain⟨a,t,h1,h2⟩:=h.yes rfl;obtain⟨k1,k2,u,hu⟩:=hl.lead a t h1;have:=WU hu (On hg ht k2 k1) hO;refine⟨?_,λh=>by cases h⟩;rw[eq_comm,Ai];omega
theorem z9p(hl:LivE d x n L)(hg:Goes d n)(ht:Topo d.rules n ord)(hs:0<=d.start/\d.start<n){a t:Nat}(h:L a t=true):(outW d x a t).length<=(outW d x 0 d.start).length:=by
 have hst:((d.start.toNat:Nat):Int)=d.start:=BK hs.1;have hO:=On hg ht (x:=x) (a:=0) (t:=d.start.toNat) (A6 _) (by omega);rw[hst] at hO;obtain⟨k1,k2,u,hu⟩:=hl.lead a t h;exact WU hu (On hg ht k2 k1) hO
end
set_option maxRecDepth 100000
theorem IF(n:Nat):AD (List.replicate n AV.nilS)=true:=BU.2 λx hx=>by rw[CL hx];rfl
set_option maxRecDepth 100000
def T6(xs:List Nat):List (List AV):=(List.range xs.length).map λ(k:Nat)=>[AV.int .i64 ((xs.length:Int)-1-(k:Int)),e1 (nth xs (xs.length-1-k))]
theorem Oo(xs:List Nat):(T6 xs).length=xs.length:=by simp[T6]
theorem Xe{xs:List Nat}{k:Nat}(h:k<xs.length):(T6 xs)[k]? = some [AV.int .i64 ((xs.length:Int)-1-k),e1 (nth xs (xs.length-1-k))]:=by
 simp[T6,h]
theorem z3r{xs:List Nat}{k:Nat}{row:List AV}(h:(T6 xs)[k]? = some row):k<xs.length/\row=[AV.int .i64 ((xs.length:Int)-1-k),e1 (nth xs (xs.length-1-k))]:=by
 have hk:k<xs.length:=by rw[<-Oo xs];exact (AJ.1 h).1
 rw[Xe hk] at h;exact⟨hk,(Cx h).symm⟩
theorem YL(xs:List Nat):∀r∈T6 xs,∀x∈r,Flat x:=λr hr x hx=>by
 obtain⟨k,_,rfl⟩:=Au.1 hr;simp only[Af,Aj,Ar] at hx;rcases hx with rfl|rfl<;>exact λS=>rfl
theorem z3s(xs:List Nat):∀r∈T6 xs,r.length=2:=λr hr=>by
 obtain⟨k,_,rfl⟩:=Au.1 hr;rfl
theorem z3t(xs:List Nat)(hl:xs.length<=1000000000000):RY Tryz.prog 134 [.cptr (.lst 1 (xs.map e1))] (T6 xs):=by
 have pX:AD (xs.map e1)=true:=Et (λ_=>rfl) _;refine z0v GM λI hP hr=>?_;show TI I _ DU _ _ _ _;unfold DU;refine GX (TI_v hP (by rfl) ?_);(with_reducible repeat'(first|simp (disch:=omega) only[push_cast,↓zz,seval,pX]|apply Aa|refine sp_ ?_ ?_<;>intro hc<;>push_cast at hc|omega|intro _));refine (HS (UC (λ(t:Nat) s env H=>t<=xs.length/\s=some t/\∀p∈[(0,AV.yld I.l),(1,AV.cptr (.lst 1 (xs.map e1))),(3,AV.int .i64 ((xs.length:Int)-1-t))],env p.1=p.2) (λt=>xs.length-t) 0 ?_ ?_):TI I 19 _ _ _ _ _)
 ·refine⟨A6 _,rfl,?_⟩
  simp only[Af,Aj,Ar,Aw,AL];refine⟨rfl,rfl,?_⟩;show AV.int .i64 ((xs.length:Int)-1)=AV.int .i64 ((xs.length:Int)-1-((0:Nat):Int));simp
 rintro t s env H ⟨ht,rfl,hlv⟩;refine z1t (live:=[(0,AV.yld I.l),(1,AV.cptr (.lst 1 (xs.map e1))),(3,AV.int .i64 ((xs.length:Int)-1-t))]) (λp hp=>⟨hlv p hp,?_⟩) ?_
 ·simp only[Af,Aj,Ar] at hp
  rcases hp with rfl|rfl|rfl<;>first|rfl|exact pX
 refine GX (TI_v hP (by rfl) ?_);(with_reducible repeat'(first|simp (disch:=omega) only[push_cast,↓zz,seval]|apply Aa|refine sp_ ?_ ?_<;>intro hc<;>push_cast at hc|omega|intro _))
 ·have htl:t<xs.length:=by omega
  have hrow:=Xe htl
  have aX:(xs.map e1).getD (xs.length-1-t) .any=.int .i64 (nth xs (xs.length-1-t):Nat):=by
   have:xs.length-1-t<xs.length:=by omega
   simp[nth,List.getD,this]
  have hcast:((xs.length:Int)-1-t).toNat=xs.length-1-t:=by omega
  have hnx:(xs.length:Int)-1-t-1=(xs.length:Int)-1-((t+1:Nat):Int):=by push_cast;omega
  rw[show e1 (nth xs (xs.length-1-t))=AV.int .i64 ((nth xs (xs.length-1-t):Nat):Int) from rfl] at hrow;generalize nth xs (xs.length-1-t)=z at *;refine (GX (HS (GX ?_)):TI I 19 _ _ _ _ _);refine Wr (pre:=[_,_,_,_,_,_]) (post:=[_]) rfl rfl ?_;rw[hP,<-KT];(with_reducible repeat'(first|simp (disch:=omega) only[push_cast,↓zz,seval,pX,aX,hcast]|apply Aa|refine sp_ ?_ ?_<;>intro hc<;>push_cast at hc|omega|intro _));refine⟨[AV.int .i64 ((xs.length:Int)-1-t),AV.int .i64 (z:Int)],rfl,?_,by rw[hr];exact hrow,?_,?_⟩
  ·intro x hx
   simp only[Af,Aj,Ar] at hx;rcases hx with rfl|rfl<;>exact λS v hv=>hv
  ·rw[<-KT]
   (with_reducible repeat'(first|simp (disch:=omega) only[push_cast,↓zz,seval]|apply Aa|refine sp_ ?_ ?_<;>intro hc<;>push_cast at hc|omega|intro _));refine (TI_v hP ?q1 ?_:TI I 19 _ _ _ _ _)
   case q1=>rfl
   (with_reducible repeat'(first|simp (disch:=omega) only[push_cast,↓zz,seval]|apply Aa|refine sp_ ?_ ?_<;>intro hc<;>push_cast at hc|omega|intro _));refine (TI_v hP ?q2 ?_:TI I 19 _ _ _ _ _)
   case q2=>rfl
   (with_reducible repeat'(first|simp (disch:=omega) only[push_cast,↓zz,seval]|apply Aa|refine sp_ ?_ ?_<;>intro hc<;>push_cast at hc|omega|intro _));refine⟨t+1,⟨by omega,rfl,rfl,rfl,?_⟩,by omega⟩;show AV.int .i64 ((xs.length:Int)-1-t-1)=AV.int .i64 ((xs.length:Int)-1-((t+1:Nat):Int));rw[hnx]
  ·rw[<-KT]
   (with_reducible repeat'(first|simp (disch:=omega) only[push_cast,↓zz,seval]|apply Aa|refine sp_ ?_ ?_<;>intro hc<;>push_cast at hc|omega|intro _));refine (TI_v hP ?q3 ?_:TI I 19 _ _ _ _ _)
   case q3=>rfl
   (with_reducible repeat'(first|simp (disch:=omega) only[push_cast,↓zz,seval]|apply Aa|refine sp_ ?_ ?_<;>intro hc<;>push_cast at hc|omega|intro _));exact⟨trivial,.inr rfl⟩
 ·refine⟨trivial,.inl ?_⟩
  rw[Oo];congr 1;omega
theorem Oq(xs:List Nat)(hl:xs.length<=1000000000000):PC Tryz.prog 99 [.lst 1 (xs.map e1)] (.fn 134 [.cptr (.lst 1 (xs.map e1))]):=by
 have pX:AD (xs.map e1)=true:=Et (λ_=>rfl) _;refine Cg Hg ?_;unfold FC;(with_reducible repeat'(first|simp (disch:=omega) only[push_cast,↓zz,seval,pX]|apply Aa|refine sp_ ?_ ?_<;>intro hc<;>push_cast at hc|omega|intro _))
 all_goals trace_state
end Go.Proofs.YtflibbceibjddaaGreat
