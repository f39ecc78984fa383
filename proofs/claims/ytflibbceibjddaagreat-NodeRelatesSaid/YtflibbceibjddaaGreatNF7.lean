/-
  Parts of the proof that the law holds whatever the input; without conditions.
-/
import Derived.Test.YtflibbceibjddaaGreatNF6
import Derived.Test.YtflibbceibjddaaGreatNF4
import Derived.Test.YtflibbceibjddaaGreatNF5
set_option linter.unusedSimpArgs false
set_option linter.unusedVariables false
set_option linter.unusedSectionVars false
set_option maxRecDepth 100000
namespace Go.Proofs.YtflibbceibjddaaGreat
open Abs O1 O2 O3
theorem zf4{lo hi D q:Int}(hD:0<D)(h:lo<=hi):(∃x,lo<=x/\x<=hi/\x / D=q)↔lo / D<=q/\q<=hi / D:=by
 constructor
 ·rintro⟨x,h1,h2,rfl⟩
  exact⟨C9 hD h1,C9 hD h2⟩
 ·rintro⟨h1,h2⟩
  rcases Int.lt_or_eq_of_le h1 with h3|h3
  ·refine⟨q * D,?_,?_,Int.mul_ediv_cancel _ (by omega)⟩
   ·have:=(Int.ediv_lt_iff_lt_mul hD).1 h3;omega
   ·exact (Int.le_ediv_iff_mul_le hD).1 h2
  ·exact⟨lo,BJ _,h,h3⟩
theorem S7{x y M:Int}(hM:0<M)(h1:x<=y)(h2:y-x<M):y / M=x / M\/y / M=x / M+1:=by
 have a:=C9 hM h1;have c:y / M<=(x+M * 1) / M:=C9 hM (by omega);rw[Int.add_mul_ediv_left _ _ (by omega)] at c;omega
theorem Nx{w M k:Int}(h:0<=w/\w<M):(M * k+w) % M=w:=by
 rw[Int.add_comm,Int.add_mul_emod_self_left,Int.emod_eq_of_lt h.1 h.2]
theorem z62{a b M w:Int}(hM:0<M)(hab:a<=b)(hs:b-a<M-1):
 (∃q,a<=q/\q<=b/\q % M=w)↔if a % M<=b % M then a % M<=w/\w<=b % M else (0<=w/\w<=b % M)\/(a % M<=w/\w<=M-1):=by
 have ea:=Dx a M;have eb:=Dx b M;have a1:=BM a (by omega:M≠0);have a2:=BB a hM;have b1:=BM b (by omega:M≠0);have b2:=BB b hM;constructor
 ·rintro⟨q,h1,h2,rfl⟩
  have eq:=Dx q M;have q1:=BM q (by omega:M≠0);have q2:=BB q hM;have k1:=S7 hM hab (by omega);have k2:=S7 hM h1 (by omega);have e1:M * (a / M+1)=M * (a / M)+M:=by rw[Int.mul_add,Int.mul_one]
  rcases k1 with k1|k1<;>rcases k2 with k2|k2<;>rw[k1] at eb<;>rw[k2] at eq<;>(try rw[e1] at eb)<;>(try rw[e1] at eq)<;>split<;>omega
 ·intro h
  have k1:=S7 hM hab (by omega);have e1:M * (a / M+1)=M * (a / M)+M:=by rw[Int.mul_add,Int.mul_one]
  rcases k1 with k1|k1
  ·rw[k1] at eb
   rw[Ae (by omega)] at h;exact⟨M * (a / M)+w,by omega,by omega,Nx (by omega)⟩
  ·rw[k1,e1] at eb
   rw[Ab (by omega)] at h;rcases h with h|h
   ·exact⟨M * (a / M+1)+w,by omega,by omega,Nx (by omega)⟩
   ·exact⟨M * (a / M)+w,by omega,by omega,Nx (by omega)⟩
theorem zce{a b M w:Int}(hM:0<M)(hs:M-1<=b-a):(∃q,a<=q/\q<=b/\q % M=w)↔0<=w/\w<=M-1:=by
 constructor
 ·rintro⟨q,_,_,rfl⟩
  have q1:=BM q (by omega:M≠0);have q2:=BB q hM;omega
 ·intro h
  have e:=Dx (w-a) M;have q1:=BM (w-a) (by omega:M≠0);have q2:=BB (w-a) hM;refine⟨a+(w-a) % M,by omega,by omega,?_⟩;have:a+(w-a) % M=M * (-((w-a) / M))+w:=by rw[Int.mul_neg];omega
  rw[this,Nx (by omega)]
theorem Y1{d t:Nat}{s:Span}{w:Int}(hs:s.lo<=s.hi)(hn:¬(2 ^ t-1:Int)<=s.hi / 2 ^ d-s.lo / 2 ^ d):memL (imgS d t s) w↔∃x,(s.lo<=x/\x<=s.hi)/\x / 2 ^ d % 2 ^ t=w:=by
 have hD:(0:Int)<2 ^ d:=EN (by decide);have hT:(0:Int)<2 ^ t:=EN (by decide);have hab:=C9 hD hs
 have key:(∃x,(s.lo<=x/\x<=s.hi)/\x / 2 ^ d % 2 ^ t=w)↔∃q,s.lo / 2 ^ d<=q/\q<=s.hi / 2 ^ d/\q % 2 ^ t=w:=by
  constructor
  ·rintro⟨x,⟨h1,h2⟩,h3⟩
   exact⟨x / 2 ^ d,C9 hD h1,C9 hD h2,h3⟩
  ·rintro⟨q,h1,h2,h3⟩
   obtain⟨x,k1,k2,k3⟩:=(zf4 hD hs).2 ⟨h1,h2⟩;exact⟨x,⟨k1,k2⟩,by rw[k3];exact h3⟩
 rw[key,z62 hT hab (by omega),imgS];split
 ·simp[Bz,Cc]
 ·simp[Bz,Cc]
theorem Y2{d t:Nat}{w:Int}:∀(l out:List Span),(∀s∈l,s.lo<=s.hi)->(∀v,memL out v->0<=v/\v<=2 ^ t-1)->(memL (imgF d t l out) w↔memL out w\/∃x,memL l x/\x / 2 ^ d % 2 ^ t=w)
 |[],out,_,_=>by simp[imgF,Cc]
 |s::l,out,h,ho=>by
  have hD:(0:Int)<2 ^ d:=EN (by decide);have hT:(0:Int)<2 ^ t:=EN (by decide);have hs:=h s (by simp);rw[imgF];split
  ·rename_i hb
   have hf:=zce (w:=w) hT hb;constructor
   ·intro hw
    have hw':0<=w/\w<=2 ^ t-1:=by simpa [allS,Bz,Cc] using hw
    obtain⟨q,h1,h2,h3⟩:=hf.2 hw';obtain⟨x,k1,k2,k3⟩:=(zf4 hD hs).2 ⟨h1,h2⟩;exact .inr ⟨x,Bz.2 (.inl ⟨k1,k2⟩),by rw[k3];exact h3⟩
   ·intro hw
    have:0<=w/\w<=2 ^ t-1:=by
     rcases hw with hw|⟨x,_,rfl⟩
     ·exact ho w hw
     ·have q1:=BM (x / 2 ^ d) (by omega:(2:Int) ^ t≠0)
      have q2:=BB (x / 2 ^ d) hT;omega
    simpa [allS,Bz,Cc] using this
  ·rename_i hb
   rw[Y2 l _ (λs hs=>h s (by simp[hs])) (λv hv=>?_),Fv,Y1 hs hb]
   ·constructor
    ·rintro ((h1|⟨x,h1,h2⟩)|⟨x,h1,h2⟩)
     ·exact .inl h1
     ·exact .inr ⟨x,Bz.2 (.inl h1),h2⟩
     ·exact .inr ⟨x,Bz.2 (.inr h1),h2⟩
    ·rintro (h1|⟨x,h1,h2⟩)
     ·exact .inl (.inl h1)
     ·rcases Bz.1 h1 with h1|h1
      ·exact .inl (.inr ⟨x,h1,h2⟩)
      ·exact .inr ⟨x,h1,h2⟩
   ·rcases Fv.1 hv with hv|hv
    ·exact ho v hv
    ·obtain⟨x,_,rfl⟩:=(Y1 hs hb).1 hv
     have q1:=BM (x / 2 ^ d) (by omega:(2:Int) ^ t≠0);have q2:=BB (x / 2 ^ d) hT;omega
theorem mem_map{α:Type}{f:α->Span}{l:List α}{v:Int}:memL (l.map f) v↔∃a∈l,(f a).lo<=v/\v<=(f a).hi:=by
 simp only[memL,Ax];exact⟨λ⟨_,⟨a,h,rfl⟩,h2⟩=>⟨a,h,h2⟩,λ⟨a,h,h2⟩=>⟨_,⟨a,h,rfl⟩,h2⟩⟩
theorem Y3{p:Part}(s:List Span)(hb:Gd p=true):Plain (imgL p s)/\∀v,memL (imgL p s) v↔∃x,memL s x/\(0<=x/\x<=2097151)/\valP p x=v:=by
 have hbi:=KZ.1 hb;have ht:=Nl p.take.toNat (by omega);have hT:(0:Int)<2 ^ p.take.toNat:=EN (by decide);obtain⟨m1,m2,m3⟩:=Yp s
 have hF:∀w,memL (imgF p.drop.toNat p.take.toNat (Ge (B4 s) (B4 topS)) []) w↔∃x,(memL s x/\0<=x/\x<=2097151)/\x / 2 ^ p.drop.toNat % 2 ^ p.take.toNat=w:=λw=>by
  rw[Y2 _ _ (λt ht=>(m2 t ht).2.1) (λv hv=>absurd hv (Cc v))];simp only[Cc,Bm,m3]
 have hr:∀w,memL (imgF p.drop.toNat p.take.toNat (Ge (B4 s) (B4 topS)) []) w->0<=w/\w<=2 ^ p.take.toNat-1:=λw hw=>by
  obtain⟨x,_,rfl⟩:=(hF w).1 hw;have q1:=BM (x / 2 ^ p.drop.toNat) (by omega:(2:Int) ^ p.take.toNat≠0);have q2:=BB (x / 2 ^ p.drop.toNat) hT;omega
 unfold imgL;rw[Ab (by simp[hb])];split
 ·rename_i hu
  refine⟨(B5 _).1,λv=>?_⟩;rw[(B5 _).2 v,hF];have e:∀x,valP p x=x / 2 ^ p.drop.toNat % 2 ^ p.take.toNat:=λx=>by simp[valP,hu]
  constructor
  ·rintro⟨⟨x,⟨h1,h2⟩,h3⟩,_⟩
   exact⟨x,h1,h2,by rw[e];exact h3⟩
  ·rintro⟨x,h1,h2,h3⟩
   rw[e] at h3;have:=hr v ((hF v).2 ⟨x,⟨h1,h2⟩,h3⟩);exact⟨⟨x,⟨h1,h2⟩,h3⟩,by omega⟩
 ·rename_i hu
  refine⟨(B5 _).1,λv=>?_⟩;rw[(B5 _).2 v,mem_map];constructor
  ·rintro⟨⟨n,hn,h1,h2⟩,_⟩
   simp only[oneS] at h1 h2;have hn':=I0.1 hn;rw[(B5 _).2,(B5 _).2] at hn';obtain⟨x,⟨k1,k2⟩,k3⟩:=(hF n).1 hn'.1.1;exact⟨x,k1,k2,by rw[valP,k3];omega⟩
  ·rintro⟨x,h1,h2,h3⟩
   have hv:=FE hb h2;have hm:=(hF (x / 2 ^ p.drop.toNat % 2 ^ p.take.toNat)).2 ⟨x,⟨h1,h2⟩,rfl⟩;have:=hr _ hm;refine⟨⟨x / 2 ^ p.drop.toNat % 2 ^ p.take.toNat,I0.2 ?_,?_⟩,by omega⟩
   ·rw[(B5 _).2,(B5 _).2]
    exact⟨⟨hm,by omega⟩,by omega⟩
   ·rw[valP] at h3
    simp only[oneS];omega
def Full(l:List Span):Prop:=∀s∈l,s.lo<=s.hi
theorem z63{a b:List Span}(ha:Full a)(hb:Full b):Plain (UL a b)/\∀v,memL (UL a b) v↔(∃x y,memL a x/\memL b y/\x+y=v)/\-1073741824<=v/\v<=1073741824:=by
 refine⟨(B5 _).1,λv=>?_⟩;rw[UL,(B5 _).2 v,Wp,Yq];refine and_congr_left λ_=>?_;constructor
 ·rintro⟨s,hs,h⟩
  obtain⟨r,hr,h1,h2⟩:=mem_map.1 h;simp only[sumS] at h1 h2;have k1:=ha s hs;have k2:=hb r hr;refine⟨max s.lo (v-r.hi),v-max s.lo (v-r.hi),⟨s,hs,by omega,by omega⟩,⟨r,hr,by omega,by omega⟩,by omega⟩
 ·rintro⟨x,y,⟨s,hs,h1,h2⟩,⟨r,hr,h3,h4⟩,rfl⟩
  exact⟨s,hs,mem_map.2 ⟨r,hr,by simp only[sumS];omega,by simp only[sumS];omega⟩⟩
theorem z64{out:List Span}{n:Int}(h:Full out):Full (addS out ⟨n,n⟩)/\∀v,memL (addS out ⟨n,n⟩) v↔memL out v\/v=n:=by
 rcases Gh out with rfl|⟨m,y,rfl⟩
 ·refine⟨λs hs=>?_,λv=>?_⟩
  ·simp only[Iz,Am] at hs;subst hs;simp
  ·rw[Iz,Bz];simp only[Cc,Ap,Bm];omega
 ·have hy:=h y (by simp)
  rw[Lj];simp only;split
  ·rename_i he
   refine⟨λs hs=>?_,λv=>?_⟩
   ·rcases Ao.1 hs with hs|hs
    ·exact h s (by simp[hs])
    ·simp only[Am] at hs;subst hs;simp only;omega
   ·rw[Fv,Fv,Bz,Bz]
    simp only[Cc,Ap];constructor
    ·rintro (h1|h1)
     ·exact .inl (.inl h1)
     ·by_cases hv:v=n
      ·exact .inr hv
      ·exact .inl (.inr (by omega))
    ·rintro ((h1|h1)|h1)
     ·exact .inl h1
     ·exact .inr (by omega)
     ·exact .inr (by omega)
  ·refine⟨λs hs=>?_,λv=>?_⟩
   ·rcases Ao.1 hs with hs|hs
    ·exact h s hs
    ·simp only[Am] at hs;subst hs;simp
   ·rw[Fv,Bz]
    simp only[Cc,Ap];have:(n<=v/\v<=n)↔v=n:=by omega
    rw[this]
theorem Y4(l:List Part){v:Int}:∀(m:List Int)(out:List Span),Full out->(memL (m.foldl (togF l) out) v↔memL out v\/∃x∈m,totV l x=v)
 |[],out,_=>by simp
 |x::m,out,h=>by
  obtain⟨h1,h2⟩:=z64 (n:=totV l x) h;rw[List.foldl_cons,togF,Y4 l m _ h1,h2];simp only[Af,exists_eq_or_imp];constructor
  ·rintro ((h|h)|h)
   ·exact .inl h
   ·exact .inr (.inl h.symm)
   ·exact .inr (.inr h)
  ·rintro (h|h|h)
   ·exact .inl (.inl h)
   ·exact .inl (.inr h.symm)
   ·exact .inr h
theorem zcf{l:List Part}{s:List Span}(hl:l.length<=4)(hb:∀p∈l,Gd p=true)(hs:Syms s):Plain (togL l s)/\∀v,memL (togL l s) v↔∃x,memL s x/\totV l x=v:=by
 unfold togL;split
 ·rename_i h1
  obtain⟨p,rfl⟩:=List.length_eq_one_iff.1 h1;obtain⟨i1,i2⟩:=Y3 s (hb p (by simp));refine⟨i1,λv=>?_⟩;have e:nth [p] 0=p:=rfl;rw[e,i2];have e2:∀x,totV [p] x=valP p x:=λx=>by simp[totV]
  constructor
  ·rintro⟨x,h1,_,h3⟩;exact⟨x,h1,by rw[e2];exact h3⟩
  ·rintro⟨x,h1,h3⟩
   have:=hs.mem h1;exact⟨x,h1,by omega,by rw[<-e2];exact h3⟩
 ·refine⟨(B5 _).1,λv=>?_⟩
  rw[(B5 _).2 v,Y4 l _ _ (λs hs=>by cases hs),UN hs];simp only[Cc,Bm,I0];constructor
  ·rintro⟨h,_⟩;exact h
  ·rintro⟨x,h1,rfl⟩
   have:=hs.mem h1;have:=OW (x:=x) (by omega) hb;exact⟨⟨x,h1,rfl⟩,by omega⟩
def Win(sets:List (List Span))(w:List Int):Prop:=w.length=sets.length/\∀i,i<sets.length->memL (nth sets i) (nth w i)
def Pd(l:List Part)(pl:List Int)(w:List Int):Int:=(pl.map λa=>totV (atL l a) (nth w a.toNat)).sum
def totW(w:List Int)(l:List Part):Int:=(l.map λp=>valP p (nth w p.at_.toNat)).sum
theorem Wu{w:List Int}{i j:Nat}{x:Int}(h:i<w.length):nth (w.set i x) j=if j=i then x else nth w j:=by
 simp only[nth,As,List.getElem?_set];split
 ·subst_vars;simp[h]
 ·rename_i hne;rw[Ab (λe=>hne e.symm)]
theorem I2{α:Type}{f g:α->Int}:∀{l:List α},(∀a∈l,f a=g a)->(l.map f).sum=(l.map g).sum
 |[],_=>rfl
 |a::l,h=>by simp[h a (by simp),I2 (l:=l) λb hb=>h b (by simp[hb])]
theorem Pe{α:Type}{f g:α->Int}:∀{l:List α},(l.map λa=>f a+g a).sum=(l.map f).sum+(l.map g).sum
 |[]=>rfl
 |a::l=>by
  have:=Pe (f:=f) (g:=g) (l:=l);simp only[AR,List.sum_cons,this];omega
theorem Jh{α:Type}{f:α->Int}:∀{l:List α},(∀a∈l,f a=0)->(l.map f).sum=0
 |[],_=>rfl
 |a::l,h=>by simp[h a (by simp),Jh (l:=l) λb hb=>h b (by simp[hb])]
theorem Pf{c:Int}{g:Int->Int}:∀{l:List Int},l.Nodup->c∈l->(l.map λa=>if c=a then g a else 0).sum=g c
 |[],_,h=>by cases h
 |a::l,hn,h=>by
  obtain⟨h1,h2⟩:=BN.1 hn;by_cases e:c=a
  ·subst e
   have:(l.map λa=>if c=a then g a else 0).sum=0:=Jh λb hb=>Ab λ(e2:c=b)=>h1 (by rw[e2];exact hb);simp[this]
  ·have hm:c∈l:=by simpa [e] using h
   simp[e,Pf h2 hm]
theorem Mm(w:List Int):∀(l:List Part)(pl:List Int),pl.Nodup->(∀p∈l,p.at_∈pl)->Pd l pl w=totW w l
 |[],pl,_,_=>Jh λa _=>rfl
 |p::l,pl,hn,h=>by
  have ih:=Mm w l pl hn λq hq=>h q (by simp[hq])
  have e:∀a∈pl,totV (atL (p::l) a) (nth w a.toNat)=(if p.at_=a then valP p (nth w a.toNat) else 0)+totV (atL l a) (nth w a.toNat):=λa _=>by
   simp only[atL,Cg,Ah];split
   ·simp[totV]
   ·simp[totV]
  rw[Pd,I2 e,Pe,Pf (g:=λa=>valP p (nth w a.toNat)) hn (h p (by simp))];rw[Pd] at ih;rw[ih];simp[totW]
theorem Pg:∀(l:List Part)(pl:List Int),pl.Nodup->(l.foldl Fp pl).Nodup/\(∀a,a∈l.foldl Fp pl↔a∈pl\/∃p∈l,p.at_=a)/\(l.foldl Fp pl).length<=pl.length+l.length
 |[],pl,h=>⟨h,λa=>by simp,by simp⟩
 |p::l,pl,h=>by
  have h1:(Fp pl p).Nodup/\(∀a,a∈Fp pl p↔a∈pl\/p.at_=a)/\(Fp pl p).length<=pl.length+1:=by
   unfold Fp;split
   ·rename_i hm
    exact⟨h,λa=>⟨.inl,λhh=>hh.elim id λe=>e ▸ hm⟩,by omega⟩
   ·rename_i hm
    refine⟨CQ.2 ⟨h,by simp,λa ha b hb=>?_⟩,λa=>by simp[eq_comm],by simp⟩;simp only[Am] at hb;subst hb;exact λe=>hm (e ▸ ha)
  obtain⟨k1,k2,k3⟩:=Pg l (Fp pl p) h1.1;refine⟨k1,λa=>?_,by have:=h1.2.2;simp only[List.foldl_cons,List.length_cons];omega⟩;rw[List.foldl_cons,k2,h1.2.1];simp only[Af,exists_eq_or_imp,F1]
theorem QM{l:List Span}(h:Plain l):Full l:=h.1
theorem zjh{sets:List (List Span)}{w:List Int}{a:Nat}{x:Int}(hw:Win sets w)(ha:a<sets.length)(hx:memL (nth sets a) x):Win sets (w.set a x):=by
 refine⟨by simp[hw.1],λi hi=>?_⟩;rw[Wu (by rw[hw.1];exact ha)];split
 ·subst_vars;exact hx
 ·exact hw.2 i hi
theorem UP{l:List Part}{sets:List (List Span)}(hS:QH l sets)(hl:l.length<=4)(hne:∃w,Win sets w):∀(pl:List Int)(out:List Span),pl.Nodup->(∀a∈pl,0<=a/\a<sets.length)->Full out->pl.length<=4 ->
 (∀v,memL out v->-1114111<=v/\v<=1114111+(4-(pl.length:Int)) * 264241152)->Full (pl.foldl (Jg l sets) out)/\∀v,memL (pl.foldl (Jg l sets) out) v↔∃o w,memL out o/\Win sets w/\o+Pd l pl w=v
 |[],out,_,_,hf,_,_=>⟨hf,λv=>by
  obtain⟨w,hw⟩:=hne;simp only[List.foldl_nil,Pd,AZ,List.sum_nil,Int.add_zero]
  exact⟨λh=>⟨v,w,h,hw,rfl⟩,λ⟨o,_,h,_,e⟩=>e ▸ h⟩⟩
 |a::pl,out,hn,hp,hf,hlen,hb=>by
  obtain⟨n1,n2⟩:=BN.1 hn;have ha:=hp a (by simp);have hm:nth sets a.toNat∈sets:=AS (by omega);have hsy:=hS.syms _ hm
  have hbits:∀p∈atL l a,Gd p=true:=λp hp=>by
   have:=hS.parts p ((Bn.1 hp).1);simp only[E4,Ac] at this;exact this.2
  have hla:(atL l a).length<=4:=AJ (BI _ _) hl;obtain⟨t1,t2⟩:=zcf hla hbits hsy;obtain⟨p1,p2⟩:=z63 hf (QM t1)
  have htot:∀x,memL (nth sets a.toNat) x->0<=totV (atL l a) x/\totV (atL l a) x<=264241152:=λx hx=>by
   have:=hsy.mem hx;have:=OW (x:=x) (by omega) hbits;omega
  simp only[List.length_cons] at hlen hb
  have hv:∀v,memL (Jg l sets out a) v↔∃o x,memL out o/\memL (nth sets a.toNat) x/\o+totV (atL l a) x=v:=λv=>by
   rw[Jg,p2];constructor
   ·rintro⟨⟨o,y,h1,h2,h3⟩,_⟩
    obtain⟨x,k1,k2⟩:=(t2 y).1 h2;exact⟨o,x,h1,k1,by rw[k2];exact h3⟩
   ·rintro⟨o,x,h1,h2,rfl⟩
    have:=hb o h1;have:=htot x h2
    push_cast at *
    exact⟨⟨o,_,h1,(t2 _).2 ⟨x,h2,rfl⟩,rfl⟩,by omega,by omega⟩
  obtain⟨i1,i2⟩:=UP hS hl hne pl (Jg l sets out a) n2 (λb hb=>hp b (by simp[hb])) (QM p1) (by omega) (λv h=>by
   obtain⟨o,x,h1,h2,rfl⟩:=(hv v).1 h;have:=hb o h1;have:=htot x h2
   push_cast at *
   omega)
  refine⟨i1,λv=>?_⟩;rw[List.foldl_cons,i2];constructor
  ·rintro⟨u,w,h1,hw,rfl⟩
   obtain⟨o,x,k1,k2,rfl⟩:=(hv u).1 h1;refine⟨o,w.set a.toNat x,k1,zjh hw (by omega) k2,?_⟩
   have e1:Pd l pl (w.set a.toNat x)=Pd l pl w:=I2 λb hb=>by
    have:=hp b (by simp[hb]);rw[Wu (by rw[hw.1];omega),Ab];intro e;exact n1 ((show b=a by omega) ▸ hb)
   have e2:Pd l (a::pl) (w.set a.toNat x)=totV (atL l a) x+Pd l pl (w.set a.toNat x):=by
    simp only[Pd,AR,List.sum_cons];rw[Wu (by rw[hw.1];omega),Ae rfl]
   rw[e2,e1];omega
  ·rintro⟨o,w,h1,hw,rfl⟩
   have hx:=hw.2 a.toNat (by omega);refine⟨o+totV (atL l a) (nth w a.toNat),w,(hv _).2 ⟨o,_,h1,hx,rfl⟩,hw,?_⟩;simp only[Pd,AR,List.sum_cons];omega
theorem zcg(x:Int):Full [⟨x,x⟩]:=λs hs=>by simp only[Am] at hs;subst hs;simp
theorem Wv{x v:Int}:memL [⟨x,x⟩] v↔v=x:=by rw[Bz];simp only[Cc,Ap];omega
theorem z65{t:Term}{sets:List (List Span)}(hS:QH t.parts sets)(hl:t.parts.length<=4)(hs:Gr t.sum=true)(hne:∃w,Win sets w):Full (IH t sets)/\∀v,memL (IH t sets) v↔∃w,Win sets w/\t.sum+totW w t.parts=v:=by
 obtain⟨k1,k2,k3⟩:=Pg t.parts [] (by simp);have hsm:=GR hs;simp only[List.length_nil] at k3
 have hat:∀a,a∈F6 t.parts->0<=a/\a<sets.length:=λa ha=>by
  obtain h|⟨p,hp,rfl⟩:=(k2 a).1 ha
  ·cases h
  ·exact Iv (hS.parts p hp)
 obtain⟨h1,h2⟩:=UP hS hl hne (F6 t.parts) [⟨t.sum,t.sum⟩] k1 hat (zcg _) (by rw[F6];omega) (λv hv=>by
  rw[Wv] at hv;have:(F6 t.parts).length<=4:=by rw[F6];omega
  omega)
 refine⟨h1,λv=>?_⟩;rw[IH,h2];constructor
 ·rintro⟨o,w,e,hw,rfl⟩
  rw[Wv] at e;exact⟨w,hw,by rw[e,F6,Mm w _ _ k1 λp hp=>(k2 _).2 (.inr ⟨p,hp,rfl⟩)]⟩
 ·rintro⟨w,hw,rfl⟩
  exact⟨_,w,Wv.2 rfl,hw,by rw[F6,Mm w _ _ k1 λp hp=>(k2 _).2 (.inr ⟨p,hp,rfl⟩)]⟩
theorem Ww{w:List Int}{n:Int}:∀{l:List Part},(∀p∈l,E4 p n=true)->(∀p∈l,0<=nth w p.at_.toNat/\nth w p.at_.toNat<=1114111)->totP w l=totW w l/\0<=totW w l/\totW w l<=l.length * 66060288
 |[],_,_=>by simp[totP,totW]
 |p::l,h,hx=>by
  obtain⟨i1,i2,i3⟩:=Ww (l:=l) (λq hq=>h q (by simp[hq])) (λq hq=>hx q (by simp[hq]));have hr:=h p (by simp);simp only[E4,Ac] at hr;have hxp:=hx p (by simp);have hv:=FE hr.2 (x:=nth w p.at_.toNat) (by omega);have e1:val1 p (nth w p.at_.toNat)=valP p (nth w p.at_.toNat):=(LW hr.2 (by omega)).2;have e2:totW w (p::l)=valP p (nth w p.at_.toNat)+totW w l:=by simp[totW]
  rw[totP,e1,e2,i1];refine⟨rfl,by omega,?_⟩
  push_cast [List.length_cons]
  omega
theorem Ji{t:Term}{sets:List (List Span)}{w:List Int}(hS:QH t.parts sets)(hn:DF t=true)(hw:Win sets w):
 EH t w=if 0<=t.sum+totW w t.parts/\t.sum+totW w t.parts<=1114111 then some (t.base+valP t.outer (t.sum+totW w t.parts)) else none:=by
 simp only[DF,Ac,Ah] at hn;obtain⟨⟨⟨hb,hs⟩,ho⟩,_,hl⟩:=hn;have hsm:=GR hs;have hbm:=GR hb;have hsym:∀i,i<sets.length->0<=nth w i/\nth w i<=1114111:=λi hi=>(hS.syms _ (AS hi)).mem (hw.2 i hi)
 obtain⟨e1,b1,b2⟩:=Ww (w:=w) hS.parts (λp hp=>by
  have:=Iv (hS.parts p hp)
  exact hsym _ (by omega))
 have hall:w.all symB=true:=by
  rw[AP];intro x hx;obtain⟨i,hi,rfl⟩:=Bv hx;have:=hsym i (by rw[<-hw.1];exact hi);have e:nth w i=w[i]:=by simp[nth,hi]
  rw[e] at this;simp[symB];omega
 have hright:LX w t.parts=true:=by
  rw[LX,AP];intro p hp;rw[hw.1];exact hS.parts p hp
 have hsum:=z4s w t.parts t.sum (zj1 (by omega));rw[Ae hright,e1,zj1 (by omega)] at hsum;unfold EH;rw[Ae hall,hsum];simp only;by_cases h:0<=t.sum+totW w t.parts/\t.sum+totW w t.parts<=1114111
 ·have hvb:valB t.outer (t.sum+totW w t.parts)=true:=(LW ho (by omega)).1
  have hv2:=FE ho (x:=t.sum+totW w t.parts) (by omega);rw[Ae h,Ae (by simp[hvb];omega),show IntKind.i64.wrap (t.base+valP t.outer (t.sum+totW w t.parts))=t.base+valP t.outer (t.sum+totW w t.parts) from IntWalk.i64_in _ (by omega)]
 ·rw[Ab h,Ab]
  simp only[valB,ho,AO,Ac,Ah];omega
theorem QN:∀{m:List Span},Plain m->m≠[]->∃a b,UI m=some a/\Wn m=some b/\memL m a/\memL m b/\∀v,memL m v->a<=v/\v<=b
 |[],_,h=>absurd rfl h
 |[s],h,_=>by
  have:=h.head;refine⟨s.lo,s.hi,rfl,rfl,Bz.2 (.inl (by omega)),Bz.2 (.inl (by omega)),λv hv=>?_⟩;rw[Bz] at hv;simpa [Cc] using hv
 |s::r::m,h,_=>by
  have hs:=h.head;obtain⟨a,b,e1,e2,h1,h2,h3⟩:=QN h.tail (by simp);have hb:=h.after h2;refine⟨s.lo,b,rfl,?_,Bz.2 (.inl (by omega)),Bz.2 (.inr h2),λv hv=>?_⟩
  ·simpa [Wn] using e2
  ·rcases Bz.1 hv with h4|h4
   ·omega
   ·have:=h.after h4
    have:=h3 v h4;omega
theorem S8{l:List Span}{v:Int}(h:memL l v):l≠[]:=by rintro rfl;exact Cc v h
theorem z0i{l:List Span}{u:Int}(hu:memL l u)(hb:∀v,memL l v->-1073741824<=v/\v<=1073741824):PO l=true↔∀v,memL l v->0<=v/\v<=1114111:=by
 obtain⟨p1,p2⟩:=B5 l;have hm:∀v,memL (B4 l) v↔memL l v:=λv=>by rw[p2];exact⟨λh=>h.1,λh=>⟨h,hb v h⟩⟩
 obtain⟨a,b,e1,e2,h1,h2,h3⟩:=QN p1 (S8 ((hm u).2 hu))
 have hl:0<(l.length:Int):=by
  have:=Db.2 (S8 hu);omega
 simp only[PO,e1,e2,Option.getD_some,Ac,Ah];constructor
 ·rintro⟨_,k1,k2⟩ v hv
  have:=h3 v ((hm v).2 hv);omega
 ·intro h
  exact⟨hl,(h a ((hm a).1 h1)).1,(h b ((hm b).1 h2)).2⟩
theorem zch{gs:List (List Span)}:Mi gs gs.length=true↔∃w,Win (gs.map symI) w:=by
 rw[Mi,A7,AP];constructor
 ·intro h
  refine⟨(gs.map symI).map λs=>(nth s 0).lo,by simp,λi hi=>?_⟩;have hi':i<gs.length:=by simpa using hi
  have h1:=h _ (AS hi');have e1:nth (gs.map symI) i=symI (nth gs i):=by simp[nth,hi']
  have e2:nth ((gs.map symI).map λs=>(nth s 0).lo) i=(nth (symI (nth gs i)) 0).lo:=by simp[nth,hi']
  rw[e1,e2];simp only[Ah] at h1;have hm:=AS (l:=symI (nth gs i)) (i:=0) (by omega);have hs:=(UG (nth gs i)).2 _ hm;exact⟨_,hm,by omega,by omega⟩
 ·rintro⟨w,hw⟩ g hg
  obtain⟨i,hi,rfl⟩:=Bv hg;have h1:=hw.2 i (by simpa using hi);have e1:nth (gs.map symI) i=symI gs[i]:=by simp[nth,hi]
  rw[e1] at h1;have:=Db.2 (S8 h1);simp only[Ah];omega
theorem z0j{t:Term}{gs:List (List Span)}(h4:gs.length<=4)(hn:DF t=true)(hp:prtB t gs.length=true):
 ((FK t gs).2=true↔∀w,Win (gs.map symI) w->(EH t w).isSome=true)/\((FK t gs).2=false->(FK t gs).1=[]) /\
 ((FK t gs).2=true->Plain (FK t gs).1/\∀v,memL (FK t gs).1 v↔∃w,Win (gs.map symI) w/\EH t w=some v):=by
 have hS:=Mj hp h4;have hnum:=hn;simp only[DF,Ac,Ah] at hnum;obtain⟨⟨⟨hb,hs⟩,ho⟩,_,hl⟩:=hnum;have hsm:=GR hs;have hbm:=GR hb
 have hI:FJ t gs=if Mi gs gs.length=false then ([],true) else (IH t (gs.map symI),PO (IH t (gs.map symI))):=by
  rw[FJ,Ab (by simp[hn];omega),Ab (by simp[hp])]
 have hsome:=@zch gs;cases hB:Mi gs gs.length
 ·rw[hB] at hI hsome
  have hno:∀w,¬Win (gs.map symI) w:=λw hw=>by have:=hsome.2 ⟨w,hw⟩;cases this
  have e:FK t gs=([],true):=by rw[FK,hI];simp
  rw[e];refine⟨⟨λ_ w hw=>absurd hw (hno w),λ_=>rfl⟩,λh=>(by cases h),λ_=>⟨⟨by simp,by simp⟩,λv=>⟨λh=>absurd h (Cc v),λ⟨w,hw,_⟩=>absurd hw (hno w)⟩⟩⟩
 ·rw[hB] at hI hsome
  obtain⟨w0,hw0⟩:=hsome.1 rfl;obtain⟨v1,v2⟩:=z65 hS hl hs ⟨w0,hw0⟩
  have hbd:∀w,Win (gs.map symI) w->0<=totW w t.parts/\totW w t.parts<=264241152:=λw hw=>by
   obtain⟨_,b1,b2⟩:=Ww (w:=w) hS.parts (λp hp=>by
    have:=Iv (hS.parts p hp)
    exact (hS.syms _ (AS (by omega))).mem (hw.2 _ (by omega)))
   omega
  have hin:=z0i ((v2 _).2 ⟨w0,hw0,rfl⟩) (λv hv=>by
   obtain⟨w,hw,rfl⟩:=(v2 v).1 hv;have:=hbd w hw
   omega)
  have hin2:PO (IH t (gs.map symI))=true↔∀w,Win (gs.map symI) w->(EH t w).isSome=true:=by
   rw[hin];constructor
   ·intro h w hw
    rw[Ji hS hn hw,Ae (h _ ((v2 _).2 ⟨w,hw,rfl⟩))];rfl
   ·intro h v hv
    obtain⟨w,hw,rfl⟩:=(v2 v).1 hv;have:=h w hw;rw[Ji hS hn hw] at this;split at this
    ·assumption
    ·cases this
  have hne:(IH t (gs.map symI)).length≠0:=λh=>S8 ((v2 _).2 ⟨w0,hw0,rfl⟩) (Ay h);cases hi:PO (IH t (gs.map symI))
  ·have e:FK t gs=([],false):=by rw[FK,hI];simp[hi]
   rw[e];rw[hi] at hin2;exact⟨hin2,λ_=>rfl,λh=>by cases h⟩
  ·have e:FK t gs=(Fh (imgL t.outer (IH t (gs.map symI))) t.base,true):=by
    rw[FK,hI];simp[hi,hne]
   rw[e];rw[hi] at hin2;refine⟨hin2,λh=>(by cases h),λ_=>⟨?_,λv=>?_⟩⟩
   ·unfold Fh
    split
    ·exact⟨by simp,by simp⟩
    ·exact (B5 _).1
   ·obtain⟨_,i2⟩:=Y3 (IH t (gs.map symI)) ho
    rw[Sv (by omega),i2];constructor
    ·rintro⟨⟨⟨x,h1,h2,h3⟩,_⟩,_⟩
     obtain⟨w,hw,rfl⟩:=(v2 x).1 h1;have hv:=hin.1 hi _ h1;exact⟨w,hw,by rw[Ji hS hn hw,Ae hv,h3];congr 1;omega⟩
    ·rintro⟨w,hw,h⟩
     have hm:=(v2 _).2 ⟨w,hw,rfl⟩;have hv:=hin.1 hi _ hm;rw[Ji hS hn hw,Ae hv] at h;have hvs:=FE ho (x:=t.sum+totW w t.parts) (by omega);simp only[Aq] at h;exact⟨⟨⟨_,hm,by omega,by omega⟩,by omega⟩,by omega⟩
def Dh(s x:Int):Bool:=decide ((s=1/\0<=x/\x<256)\/(s=2/\0<=x/\x<1114112/\(x<55296\/57344<=x)))
theorem zci(s x:Int)(hx:-2147483648<=x/\x<=2147483647):PC Tryz.prog 45 [.int .i64 s,.int .i32 x] (.bool (Dh s x)):=by
 refine Cf ZL ?_;unfold Qy;(with_reducible repeat'(first|simp(disch:=omega)only[push_cast,↓zz,seval]|refine sp_ ?_ ?_<;>try(intro hc;push_cast at hc)|omega|intro _))
 all_goals
  rw[Dh]
  first
   |(rw[<-decide_not,B1];omega)
   |(rw[B1];omega)
   |(rw[eq_comm,AQ];omega)
   |(rw[eq_comm,Ah];omega)
def fitW(t:Term)(o:Int)(w:List Int):Bool:=match EH t w with
 |some v=>decide (0<=v/\v<=1114111)&&Dh o v
 |none=>false
theorem win_cons{g:List Span}{gs:List (List Span)}{w:List Int}:Win (g::gs) w↔∃x r,w=x::r/\memL g x/\Win gs r:=by
 constructor
 ·rintro⟨h1,h2⟩
  cases w with
  |nil=>simp at h1
  |cons x r =>
   refine⟨x,r,rfl,?_,by simpa using h1,λi hi=>?_⟩
   ·exact h2 0 (by simp)
   ·exact h2 (i+1) (by simp;omega)
 ·rintro⟨x,r,rfl,h1,h2⟩
  refine⟨by simp[h2.1],λi hi=>?_⟩;cases i with
  |zero=>exact h1
  |succ i=>exact h2.2 i (by simp at hi;omega)
theorem z67{w:List Int}:Win [] w↔w=[]:=by
 constructor
 ·rintro⟨h,_⟩;exact Ay h
 ·rintro rfl;exact⟨rfl,λi hi=>by simp at hi⟩
theorem Ph{o v:Int}:memL (domL o) v↔Dh o v=true:=by
 unfold domL;simp only[Dh,Ah];split
 ·rw[Bz];simp only[Cc,Ap];omega
 ·split
  ·rw[Bz,Bz];simp only[Cc,Ap];omega
  ·simp only[Cc,false_iff];omega
theorem zcj{o v:Int}(h:Dh o v=true):0<=v/\v<=1114111:=by
 simp only[Dh,Ah] at h;omega
theorem Pi{l d:List Span}(hl:∀v,memL l v->-1073741824<=v/\v<=1073741824)(hp:Full l):Em l d=[]↔∀v,memL l v->memL d v:=by
 obtain⟨m1,m2⟩:=J4 l d;constructor
 ·intro h v hv
  rw[h] at m2;exact AN λhn=>Cc v ((m2 v).2 ⟨hv,hl v hv,hn⟩)
 ·intro h
  cases hm:Em l d with
  |nil=>rfl
  |cons s r =>
   rw[hm] at m1 m2;obtain⟨a,_,c⟩:=(m2 s.lo).1 (Bz.2 (.inl ⟨BJ _,m1.1 s (by simp)⟩));exact absurd (h _ a) c
theorem Pj{t:Term}{i o n:Int}(h:Ib t i o n=true):DF t=true/\prtB t n=true:=by
 simp only[Ib,G5,Ac] at h;obtain⟨⟨⟨⟨_,hn⟩,hr⟩,_⟩,_⟩:=h;refine⟨hn,?_⟩;rw[prtB,AP];intro p hp;have:=AP.1 hr p hp;simp only[Ac] at this;exact this.1
theorem Y5{t:Term}{gs:List (List Span)}(h4:gs.length<=4)(hn:DF t=true)(hp:prtB t gs.length=true){w:List Int}{v:Int}(hw:Win (gs.map symI) w)(hv:EH t w=some v):-1073741824<=v/\v<=1073741824:=by
 have hnum:=hn;simp only[DF,Ac,Ah] at hnum;have hbm:=GR hnum.1.1.1;rw[Ji (Mj hp h4) hn hw] at hv;split at hv
 ·have:=FE hnum.1.2 (x:=t.sum+totW w t.parts) (by omega)
  simp only[Aq] at hv;omega
 ·cases hv
theorem Pk{t:Term}{i o:Int}{gs:List (List Span)}(h4:gs.length<=4):Mk t i o gs=true↔Ib t i o gs.length=true/\∀w,Win (gs.map symI) w->fitW t o w=true:=by
 rw[Mk,Ac,Ac,Ah];refine and_congr_right λhr=>?_;obtain⟨hn,hp⟩:=Pj hr;obtain⟨s1,s2,s3⟩:=z0j h4 hn hp;constructor
 ·rintro⟨hi,hm⟩ w hw
  obtain⟨p1,p2⟩:=s3 hi;rw[Pi (λv hv=>by obtain⟨w,h1,h2⟩:=(p2 v).1 hv;exact Y5 h4 hn hp h1 h2) p1.1] at hm;have hv:=zb8 (s1.1 hi w hw);have:=Ph.1 (hm _ ((p2 _).2 ⟨w,hw,hv⟩));have hb:=zcj this;rw[fitW,hv];simp[hb,this]
 ·intro h
  have hi:(FK t gs).2=true:=s1.2 λw hw=>by
   have:=h w hw;rw[fitW] at this;cases hv:EH t w with
   |none=>rw[hv] at this;cases this
   |some v=>rfl
  obtain⟨p1,p2⟩:=s3 hi;refine⟨hi,(Pi (λv hv=>by obtain⟨w,h1,h2⟩:=(p2 v).1 hv;exact Y5 h4 hn hp h1 h2) p1.1).2 λv hv=>?_⟩;obtain⟨w,h1,h2⟩:=(p2 v).1 hv;have:=h w h1;rw[fitW,h2] at this;simp only[Ac] at this;exact Ph.2 this.2
theorem J9{d:Desc}(h:GI d=0):Sz d=true/\(∀r∈d.rules,Ln d r=true)/\∀f∈d.finals,Hy d f=true:=by
 have h0:(Hz d).1=0:=by
  unfold GI at h;split at h
  ·assumption
  ·omega
 unfold Hz at h0;split at h0
 ·simp at h0
 ·rename_i hh
  refine⟨by simpa using hh,?_⟩;split at h0
  ·simp at h0
  ·rename_i hr
   split at h0
   ·simp at h0
   ·rename_i hf
    exact⟨J8 hr,J8 hf⟩
theorem MV{d:Desc}{out:List Term}{gs:List (List Span)}(h:I1 d out gs=true):out.length<=64/\∀t∈out,t.parts.length<=4:=by
 simp only[I1,Ac,Ah] at h;refine⟨by omega,λt ht=>?_⟩;have:=AP.1 h.2 t ht;simp only[Mk,Ac] at this;have h2:=(Pj this.1).1;simp only[DF,Ac,Ah] at h2;exact h2.2.2
theorem z68{α β:Type}[Inhabited α](base:List β)(l:List α)(f:α->β):∃g:Nat->List β,g 0=base/\(∀k,k<l.length->g (k+1)=g k++[f (nth l k)])/\g l.length=base++l.map f/\∀k,(g k).length<=base.length+k :=
 ⟨λk=>base++(l.take k).map f,by simp,λk hk=>by simp only;rw[take_at hk];simp,by simp only;rw[A7],λk=>by simp;omega⟩
def fwdE(d:Desc):List (Int × Int):=d.rules.map λr=>(r.from_,r.to_)
def bwdE(d:Desc):List (Int × Int):=d.rules.map λr=>(r.to_,r.from_)
def endE(d:Desc):List Int:=d.finals.map (·.from_)
structure Wf(d:Desc):Prop where
 n:∃n:Nat,d.states=n/\1<=n/\n<=1024
 start:0<=d.start/\d.start<d.states
 rl:d.rules.length<=4096
 fl:d.finals.length<=4096
 r:∀r∈d.rules,(0<=r.from_/\r.from_<d.states)/\0<=r.to_/\r.to_<d.states
 f:∀f∈d.finals,0<=f.from_/\f.from_<d.states
theorem zji{d:Desc}(h:GI d=0):Wf d:=by
 obtain⟨h1,h2,h3⟩:=J9 h;have h4:=z60 h1;refine⟨⟨d.states.toNat,by omega,by omega,by omega⟩,h4.2.2.2,h4.2.1,h4.2.2.1,λr hr=>z61 (h2 r hr),λf hf=>?_⟩;have:=h3 f hf;simp only[Hy,IE,Ac,Ah] at this;exact this.1
theorem Wf.fwd{d:Desc}(h:Wf d){n:Nat}(hn:d.states=n):InR n [d.start] (fwdE d) where
 f s hs:=by simp only[Am] at hs;subst hs;have:=h.start;omega
 e e he:=by
  obtain⟨r,hr,rfl⟩:=Ax.1 he;have:=h.r r hr;simp only;omega
theorem Wf.bwd{d:Desc}(h:Wf d){n:Nat}(hn:d.states=n):InR n (endE d) (bwdE d) where
 f s hs:=by
  obtain⟨f,hf,rfl⟩:=Ax.1 hs;have:=h.f f hf;omega
 e e he:=by
  obtain⟨r,hr,rfl⟩:=Ax.1 he;have:=h.r r hr;simp only;omega
noncomputable def comeL (d:Desc):List Bool:=zf3 d.states.toNat [d.start] (fwdE d)
noncomputable def goL (d:Desc):List Bool:=zf3 d.states.toNat (endE d) (bwdE d)
theorem Lq{α:Type}{p:α->Bool}:∀{l:List α}{i:Nat},(∀x∈l,p x=true)->IJ p l i=none
 |[],_,_=>rfl
 |x::l,i,h=>by rw[IJ,Ae (h x (by simp)),Lq λy hy=>h y (by simp[hy])]
theorem Wx{d:Desc}(h1:Sz d=true)(h2:∀r∈d.rules,Ln d r=true)(h3:∀f∈d.finals,Hy d f=true)(h4:¬cycP d.rules d.states.toNat):Hz d=(0,0)/\GI d=0:=by
 have e:Hz d=(0,0):=by
  rw[Hz,Ab (by simp[h1]),Lq h2];simp only;rw[Lq h3];simp only;rw[Ab h4]
 exact⟨e,by rw[GI,e];rfl⟩
def zo0(a b:Int):Desc:=⟨a,b,1,0,[],[]⟩
structure zjj(d:Desc)(k:Nat)(f:Bool)(w a l:Int):Prop where
 le:k<=d.rules.length
 fr:freeB d=(f&&(d.rules.drop k).all λr=>!Dk r)
 wi:znx d=(d.rules.drop k).foldl widF w
 ah:zny d=(d.rules.drop k).foldl aheF a
 lo:longV d=d.finals.foldl lonG ((d.rules.drop k).foldl lonF l)
 nn:0<=a
theorem zjj.step{d:Desc}{k:Nat}{f:Bool}{w a l:Int}(h:zjj d k f w a l)(hk:k<d.rules.length){f2:Bool}{w2 a2 l2:Int}(e1:f2=(f&&!Dk (nth d.rules k)))(e2:w2=widF w (nth d.rules k))(e3:a2=aheF a (nth d.rules k))(e4:l2=lonF l (nth d.rules k)):zjj d (k+1) f2 w2 a2 l2 where
 le:=by omega
 fr:=by rw[h.fr,drop_at hk,List.all_cons,e1,Bool.and_assoc]
 wi:=by rw[h.wi,fold_at hk,e2]
 ah:=by rw[h.ah,fold_at hk,e3]
 lo:=by rw[h.lo,fold_at hk,e4]
 nn:=by have:=h.nn;rw[e3,aheF];omega
theorem MW(s:Int):PC Tryz.prog 52 [.int .i64 s] (Bg (domL s)):=by
 refine Cf PI ?_;unfold JJ;(with_reducible repeat'(first|simp(disch:=omega)only[push_cast,↓zz,seval]|refine sp_ ?_ ?_<;>try(intro hc;push_cast at hc)|omega|intro _))
 all_goals (simp only[domL, *];rfl)
theorem z0k(l:List Span)(d:Int)(hl:l.length<=10000000000):PC Tryz.prog 51 [Bg l,.int .i64 d] (Bg (Fh l d)):=by
 have hN:=Mg l hl;have hz:(d < -2147483648\/2147483648<d)->Fh l d=[]:=λh=>by rw[Fh,Ae h]
 refine Cf Ug ?_;unfold M3;by_cases hb:d < -2147483648\/2147483648<d
 ·rw[hz hb]
  (with_reducible repeat'(first|simp(disch:=omega)only[push_cast,↓zz,seval]|refine sp_ ?_ ?_<;>try(intro hc;push_cast at hc)|omega|intro _))
  all_goals first
   |(exfalso;omega)
   |((repeat'(first|(simp(disch:=omega)only[push_cast,↓zz,seval,D3])|omega|(with_reducible refine Aa ?_ ?_)));done)
 have hbd:=EV l;have hmv:Fh l d=B4 ((B4 l).map (Fl d)):=by rw[Fh,Ab hb]
 have hnl:(B4 l).length<=10000000000:=AJ (E3 l) hl;have hM:=Mg ((B4 l).map (Fl d)) (by simpa using hnl);rw[hmv];generalize B4 l=m at *;obtain⟨g,g0,gs,ge,gl⟩:=z68 ([]:List Span) m (Fl d);(with_reducible repeat'(first|simp(disch:=omega)only[push_cast,↓zz,seval]|refine sp_ ?_ ?_<;>try(intro hc;push_cast at hc)|refine ee hN ?_|(refine cc hN ?_;simp(disch:=omega)only[push_cast,↓zz,seval];fail_if_success change False)|omega|intro _));refine Br (Bs (λ(k:Nat)=>k<=m.length) (λk=>m.length-k) (λk=>[(1,.int .i64 d),(5,Bg m),(6,.ref 0 1 0 (g k).length),(7,.int .i64 k)]) (λk=>[⟨2,1,false,(g k).map C2⟩]) (λenv _=>[C7 2 (env 6)]) 0 (by simp) ?_ ?_)
 ·(with_reducible repeat'(first|simp(disch:=omega)only[push_cast,↓zz,seval,g0]|refine sp_ ?_ ?_<;>try(intro hc;push_cast at hc)|omega|intro _))
 intro k hk;have gk:=gl k;simp only[List.length_nil] at gk;have hgp:=Cd (g k);have hpm:=Cd m;rcases Ak k m.length with hkm|hkm
 ·have hx:=hbd _ (AS hkm)
  have e1:=gs k hkm;generalize hxe:nth m k=x at *;have w1:IntKind.i64.wrap (x.lo+d)=x.lo+d:=IntWalk.i64_in _ (by omega);have w2:IntKind.i64.wrap (x.hi+d)=x.hi+d:=IntWalk.i64_in _ (by omega);refine W_T ?_;(with_reducible repeat'(first|simp(disch:=omega)only[push_cast,↓zz,seval,hpm,hxe,w1,w2]|refine sp_ ?_ ?_<;>try(intro hc;push_cast at hc)|omega|intro _))
  all_goals
   refine⟨k+1,?_⟩;(with_reducible repeat'(first|simp(disch:=omega)only[push_cast,↓zz,seval,e1,Fl]|refine sp_ ?_ ?_<;>try(intro hc;push_cast at hc)|omega|intro _))
 ·obtain rfl:k=m.length:=by omega
  have hge:g m.length=m.map (Fl d):=by rw[ge];simp
  rw[hge] at *;have et:List.take m.length (m.map (Fl d))=m.map (Fl d):=Az (by simp);refine W_T ?_;(with_reducible repeat'(first|simp(disch:=omega)only[push_cast,↓zz,seval,hpm,hgp,et]|refine sp_ ?_ ?_<;>try(intro hc;push_cast at hc)|refine ee hM ?_|(refine cc hM ?_;simp(disch:=omega)only[push_cast,↓zz,seval,hpm,hgp,et];fail_if_success change False)|omega|intro _))
structure GOk(i:Int)(gs:List (List Span)):Prop where
 len:gs.length<=4
 short:∀g∈gs,g.length<=64
 some:∀g∈gs,∃v,memL g v
 dom:∀g∈gs,∀v,memL g v->Dh i v=true
theorem QO:∀{l:List Int}{a b:Int},DW l->(∀x∈l,a<=x/\x<=b)->a<=b+1->(l.length:Int)<=b-a+1
 |[],a,b,_,_,h=>by simp;omega
 |x::l,a,b,hr,hm,h=>by
  obtain⟨r1,r2⟩:=AM.1 hr;have hx:=hm x (by simp);have:=QO (a:=x+1) (b:=b) r2 (λy hy=>by have:=r1 y hy;have:=hm y (by simp[hy]);omega) (by omega)
  push_cast [List.length_cons]
  omega
structure zo1(now:List Int):Prop where
 ris:DW now
 bd:∀x∈now,-1114111<=x/\x<=1114111
 pos:0<now.length
theorem zo1.len{now:List Int}(h:zo1 now):now.length<=2228223:=by
 have:=QO h.ris h.bd (by omega);omega
structure TOk(t:Term)(i:Int)(gs:List (List Span)):Prop where
 parts:∀p∈t.parts,E4 p gs.length=true
 four:t.parts.length<=4
 sm:-1114111<=t.sum/\t.sum<=1114111
 sort:i=1\/(i=2/\t.parts.length<=1/\∀p∈t.parts,ID p=true)
theorem TOk.bits{t:Term}{i:Int}{gs:List (List Span)}(h:TOk t i gs):∀p∈t.parts,Gd p=true:=λp hp=>by
 have:=h.parts p hp;simp only[E4,Ac] at this;exact this.2
theorem TOk.at{t:Term}{i:Int}{gs:List (List Span)}(h:TOk t i gs):∀p∈t.parts,0<=p.at_/\p.at_<gs.length:=λp hp=>Iv (h.parts p hp)
theorem QP:∀{l:List Span}{last:Int},Lm last l=true↔(∀s∈l,s.lo<=s.hi/\-1073741824<=s.lo/\s.hi<=1073741824/\last+1<s.lo)/\l.Pairwise λs t=>s.hi+1<t.lo
 |[],last=>by simp[Lm]
 |s::l,last=>by
  rw[Lm,Ac,Ah,QP (l:=l),AM];constructor
  ·rintro⟨h1,h2,h3⟩
   refine⟨λt ht=>?_,λt ht=>(h2 t ht).2.2.2,h3⟩;rcases Af.1 ht with rfl|ht
   ·exact h1
   ·have:=h2 t ht
    omega
  ·rintro⟨h1,h2,h3⟩
   exact⟨h1 s (by simp),λt ht=>⟨(h1 t (by simp[ht])).1,(h1 t (by simp[ht])).2.1,(h1 t (by simp[ht])).2.2.1,h2 t ht⟩,h3⟩
theorem z0l{g:List Span}:JP g=true↔g=B4 g:=by
 rw[JP,QP];constructor
 ·rintro⟨h1,h2⟩
  exact (Ll ⟨λs hs=>(h1 s hs).1,h2⟩ λs hs=>⟨(h1 s hs).2.1,(h1 s hs).2.2.1⟩).symm
 ·intro h
  have hp:=(B5 g).1;have hb:=EV g;rw[<-h] at hp hb;exact⟨λs hs=>by have:=hb s hs;omega,hp.2⟩
def zf5(i:Int)(g:List Span):Bool:=decide (g.length≠0)&&(decide (g.length<=64)&&(decide (g=B4 g)&&decide (Em g (domL i)=[])))
theorem z0m(i:Int)(g:List Span):zf5 i g=EW i g:=by
 have hc:decide (g=B4 g)=JP g:=by rw[Dp,Ah,z0l]
 have h1:decide (g.length≠0)=!decide ((g.length:Int)=0):=by
  rw[Dp,AA,Ah,AQ];omega
 have h2:decide (g.length<=64)=decide ((g.length:Int)<=64):=by rw[B1];omega
 rw[zf5,EW,hc,h1,h2]
structure zo2(d:Desc):Prop where
 fin:Ml d
 rg:∀r∈d.rules,r.guards.length<=9223372036854775807
 fg:∀f∈d.finals,f.guards.length<=9223372036854775807
structure Hold(p:Prop):Prop where
 get:p
theorem FR{α:Type}[DecidableEq α][Inhabited α]{l m:List α}{k:Nat}(h1:k<l.length)(h2:k<m.length):decide (l.drop k=m.drop k)=(decide (nth l k=nth m k)&&decide (l.drop (k+1)=m.drop (k+1))):=by
 rw[drop_at h1,drop_at h2];simp
theorem JQ(a b:List (List Span))(hl:a.length<=1000000000000)(ha:∀l∈a,l.length<=1000000000000):PC Tryz.prog 55 [Du a,Du b] (.bool (decide (a=b))):=by
 refine Cf Nj ?_;unfold IB;(with_reducible repeat'(first|simp(disch:=omega)only[push_cast,↓zz,seval]|refine sp_ ?_ ?_<;>try(intro hc;push_cast at hc)|omega|intro _))
 ·have:a≠b:=by intro h;subst h;first|omega|simp_all
  simp[this]
 refine Br (Bs (λ(k:Nat)=>k<=a.length/\decide (a=b)=decide (a.drop k=b.drop k)) (λk=>a.length-k)
  (λk=>[(0,Du a),(1,Du b),(5,.int .i64 k)]) (λ_=>[]) (λ_ _=>[]) 0 (by simp) ?_ ?_)
 ·(with_reducible repeat'(first|simp(disch:=omega)only[push_cast,↓zz,seval]|refine sp_ ?_ ?_<;>try(intro hc;push_cast at hc)|omega|intro _))
 rintro k ⟨hk,hr⟩;refine W_T ?_;(with_reducible repeat'(first|simp(disch:=omega)only[push_cast,↓zz,seval]|refine sp_ ?_ ?_<;>try(intro hc;push_cast at hc)|(have q_:=Mh (nth a k) (nth b k) (ha _ (AS (by omega)));refine ee q_ ?_;clear q_)|(have q_:=Mh (nth a k) (nth b k) (ha _ (AS (by omega)));refine cc q_ ?_;clear q_;simp(disch:=omega)only[push_cast,↓zz,seval];fail_if_success change False)|omega|intro _))
 all_goals first
  |(rw[hr,An (by omega),An (by omega)];simp;done)
  |(rw[hr,FR (by omega) (by omega)];simp_all;done)
  |(refine⟨k+1,?_⟩
    (with_reducible repeat'(first|simp(disch:=omega)only[push_cast,↓zz,seval]|refine sp_ ?_ ?_<;>try(intro hc;push_cast at hc)|omega|intro _))
    rw[hr,FR (by omega) (by omega)];simp_all;done)
  
theorem Jj(a b:List Term)(hl:a.length<=1000000000000)(ha:∀t∈a,t.parts.length<=1000000000000):PC Tryz.prog 56 [GG a,GG b] (.bool (decide (a=b))):=by
 refine Cf LM ?_;unfold HO;(with_reducible repeat'(first|simp(disch:=omega)only[push_cast,↓zz,seval]|refine sp_ ?_ ?_<;>try(intro hc;push_cast at hc)|omega|intro _))
 ·have:a≠b:=by intro h;subst h;first|omega|simp_all
  simp[this]
 refine Br (Bs (λ(k:Nat)=>k<=a.length/\decide (a=b)=decide (a.drop k=b.drop k)) (λk=>a.length-k)
  (λk=>[(0,GG a),(1,GG b),(5,.int .i64 k)]) (λ_=>[]) (λ_ _=>[]) 0 (by simp) ?_ ?_)
 ·(with_reducible repeat'(first|simp(disch:=omega)only[push_cast,↓zz,seval]|refine sp_ ?_ ?_<;>try(intro hc;push_cast at hc)|omega|intro _))
 rintro k ⟨hk,hr⟩;refine W_T ?_;(with_reducible repeat'(first|simp(disch:=omega)only[push_cast,↓zz,seval]|refine sp_ ?_ ?_<;>try(intro hc;push_cast at hc)|(have q_:=Yc (nth a k) (nth b k) (ha _ (AS (by omega)));refine ee q_ ?_;clear q_)|(have q_:=Yc (nth a k) (nth b k) (ha _ (AS (by omega)));refine cc q_ ?_;clear q_;simp(disch:=omega)only[push_cast,↓zz,seval];fail_if_success change False)|omega|intro _))
 all_goals first
  |(rw[hr,An (by omega),An (by omega)];simp;done)
  |(rw[hr,FR (by omega) (by omega)];simp_all;done)
  |(refine⟨k+1,?_⟩
    (with_reducible repeat'(first|simp(disch:=omega)only[push_cast,↓zz,seval]|refine sp_ ?_ ?_<;>try(intro hc;push_cast at hc)|omega|intro _))
    rw[hr,FR (by omega) (by omega)];simp_all;done)
  
structure z69(gs:List (List Span))(out:List Term):Prop where
 g:gs.length<=1000000000000
 gl:∀l∈gs,l.length<=1000000000000
 o:out.length<=1000000000000
 ol:∀t∈out,t.parts.length<=1000000000000
theorem PQ(a b:Rule)(h:z69 a.guards a.out):PC Tryz.prog 54 [Hp a,Hp b] (.bool (decide (a=b))):=by
 have h1:=JQ a.guards b.guards h.g h.gl;have h2:=Jj a.out b.out h.o h.ol
 have e:decide (a=b)=(decide (a.from_=b.from_)&&(decide (a.to_=b.to_)&&(decide (a.eat=b.eat)&&(decide (a.guards=b.guards)&&decide (a.out=b.out))))):=by
  cases a;cases b;simp only[Rule.mk.injEq];simp only[Bool.decide_and];ac_rfl
 have p1:=BQ a.guards;have p2:=BQ b.guards;have p3:=Ct a.out;have p4:=Ct b.out;refine Cf Ni ?_;unfold IA;(with_reducible repeat'(first|simp(disch:=omega)only[push_cast,↓zz,seval,p1,p2,p3,p4]|refine sp_ ?_ ?_<;>try(intro hc;push_cast at hc)|refine ee h1 ?_|refine ee h2 ?_|((first|refine cc h1 ?_|refine cc h2 ?_);simp(disch:=omega)only[push_cast,↓zz,seval,p1,p2,p3,p4];fail_if_success change False)|omega|intro _))
 all_goals rw[e];simp_all
structure zck(d:Desc):Prop where
 r:d.rules.length<=1000000000000
 rs:∀r∈d.rules,z69 r.guards r.out
 f:d.finals.length<=1000000000000
 fs:∀f∈d.finals,z69 f.guards f.out
theorem z0n{a b:Desc}(h1:a.in_=b.in_)(h2:a.out=b.out)(h3:a.states=b.states)(h4:a.start=b.start):decide (a=b)=(decide (a.rules=b.rules)&&decide (a.finals=b.finals)):=by
 cases a;cases b;simp only at h1 h2 h3 h4;subst h1 h2 h3 h4;simp
theorem zcl(x y:H8):decide (x=y)=(decide (x.from_=y.from_)&&(decide (x.guards=y.guards)&&decide (x.out=y.out))):=by
 cases x;cases y;simp
theorem z0o(a b:Desc)(h:zck a):PC Tryz.prog 20 [DV a,DV b] (.bool (decide (a=b))):=by
 have pa1:=BO a.rules;have pa2:=Ch a.finals;have pb1:=BO b.rules;have pb2:=Ch b.finals;have har:=h.r;have haf:=h.f;refine Cf Ub ?_;unfold My;(with_reducible repeat'(first|simp(disch:=omega)only[push_cast,↓zz,seval,pa1,pa2,pb1,pb2]|refine sp_ ?_ ?_<;>try(intro hc;push_cast at hc)|omega|intro _))
 all_goals first
  |(have:a≠b:=by intro h;subst h;simp_all
    simp[this];done)
  |skip
 all_goals
  have hab:=z0n (a:=a) (b:=b) (by assumption) (by assumption) (by assumption) (by assumption);have hrl:a.rules.length=b.rules.length:=by omega
  have hfl:a.finals.length=b.finals.length:=by omega
  rw[hab]
  refine Br (Bs (λ(k:Nat)=>k<=a.rules.length/\decide (a.rules=b.rules)=decide (a.rules.drop k=b.rules.drop k)) (λk=>a.rules.length-k)
   (λk=>[(2,.ptr 0 1 0 0),(3,.ptr 1 1 0 0),(5,.int .i64 k)]) (λ_=>[⟨6,1,true,[DV a]⟩,⟨6,1,true,[DV b]⟩]) (λenv _=>[C7 6 (env 2),C7 6 (env 3)]) 0 (by simp) ?_ ?_)
  ·(with_reducible repeat'(first|simp(disch:=omega)only[push_cast,↓zz,seval,pa1,pa2,pb1,pb2]|refine sp_ ?_ ?_<;>try(intro hc;push_cast at hc)|omega|intro _))
  rintro k ⟨hk,hr⟩;refine W_T ?_;rcases Ak k a.rules.length with hkl|hkl
  ·have hS:=PQ (nth a.rules k) (nth b.rules k) (h.rs _ (AS hkl))
   have hp1:=BO a.rules;rw[FR hkl (by omega)] at hr;generalize hx:nth a.rules k=x at *;generalize hy:nth b.rules k=y at *;(with_reducible repeat'(first|simp(disch:=omega)only[push_cast,↓zz,seval,pa1,pa2,pb1,pb2,hx,hy]|refine sp_ ?_ ?_<;>try(intro hc;push_cast at hc)|refine ee hS ?_|(refine cc hS ?_;simp(disch:=omega)only[push_cast,↓zz,seval,pa1,pa2,pb1,pb2,hx,hy];fail_if_success change False)|omega|intro _))
   all_goals first
    |(refine⟨k+1,?_⟩
      (with_reducible repeat'(first|simp(disch:=omega)only[push_cast,↓zz,seval]|refine sp_ ?_ ?_<;>try(intro hc;push_cast at hc)|omega|intro _))
      rw[hr];simp_all;done)
    |(simp_all;done)
    
  ·have hke:k=a.rules.length:=by omega
   subst hke;have hre:decide (a.rules=b.rules)=true:=by rw[hr,An (by omega),An (by omega)];simp
   rw[hre,AO];clear hr hre hab;(with_reducible repeat'(first|simp(disch:=omega)only[push_cast,↓zz,seval,pa1,pa2,pb1,pb2]|refine sp_ ?_ ?_<;>try(intro hc;push_cast at hc)|omega|intro _))
   refine Br (Bs (λ(k:Nat)=>k<=a.finals.length/\decide (a.finals=b.finals)=decide (a.finals.drop k=b.finals.drop k)) (λk=>a.finals.length-k)
    (λk=>[(2,.ptr 0 1 0 0),(3,.ptr 1 1 0 0),(6,.int .i64 k)]) (λ_=>[⟨6,1,true,[DV a]⟩,⟨6,1,true,[DV b]⟩]) (λenv _=>[C7 6 (env 2),C7 6 (env 3)]) 0 (by simp) ?_ ?_)
   ·(with_reducible repeat'(first|simp(disch:=omega)only[push_cast,↓zz,seval,pa1,pa2,pb1,pb2]|refine sp_ ?_ ?_<;>try(intro hc;push_cast at hc)|omega|intro _))
   rintro k ⟨hk,hr⟩;refine W_T ?_;rcases Ak k a.finals.length with hkl|hkl
   ·have hOk:=h.fs _ (AS hkl)
    rw[FR hkl (by omega)] at hr;generalize hx:nth a.finals k=x at *;generalize hy:nth b.finals k=y at *;have h1:=JQ x.guards y.guards hOk.g hOk.gl;have h2:=Jj x.out y.out hOk.o hOk.ol;have p1:=BQ x.guards;have p2:=BQ y.guards;have p3:=Ct x.out;have p4:=Ct y.out;have hxy:=zcl x y;(with_reducible repeat'(first|simp(disch:=omega)only[push_cast,↓zz,seval,yy,Af,Ai,Ap,Bm,CR,B2,BD,BC,pa1,pa2,pb1,pb2,hx,hy,p1,p2,p3,p4]|refine sp_ ?_ ?_<;>try(intro hc;push_cast at hc)|refine ee h1 ?_|refine ee h2 ?_|refine z4e [2,3] [3,3] [none,none,none,none,none,none,none,none,none,none,some 2,some 3] (by decide) (by decide) ?_|((first|refine cc h1 ?_|refine cc h2 ?_);simp(disch:=omega)only[push_cast,↓zz,seval,yy,Af,Ai,Ap,Bm,CR,B2,BD,BC,pa1,pa2,pb1,pb2,hx,hy,p1,p2,p3,p4];fail_if_success change False)|omega|intro _))
    all_goals first
     |(refine⟨k+1,?_⟩
       (with_reducible repeat'(first|simp(disch:=omega)only[push_cast,↓zz,seval]|refine sp_ ?_ ?_<;>try(intro hc;push_cast at hc)|omega|intro _))
       rw[hr];simp_all;done)
     |(simp_all;done)
     
   ·rw[hr,An (by omega),An (by omega)]
    (with_reducible repeat'(first|simp(disch:=omega)only[push_cast,↓zz,seval,pa1,pa2,pb1,pb2]|refine sp_ ?_ ?_<;>try(intro hc;push_cast at hc)|omega|intro _))
    all_goals simp
abbrev zo3:AV:=.agg [.int .i64 0,.int .i64 0,.int .i64 0,.int .i64 0,.nilS,.nilS]
theorem zjk(s x:Int)(hx:-2147483648<=x/\x<=2147483647):PC Tryz.prog 133 [.int .i64 s,.int .i32 x] (.bool (Dh s x)):=by
 refine Cf z4j ?_;unfold Us;(with_reducible repeat'(first|simp(disch:=omega)only[push_cast,↓zz,seval]|refine sp_ ?_ ?_<;>try(intro hc;push_cast at hc)|omega|intro _))
 all_goals first
  |(unfold Dh;first|(refine X5 ?_;omega)|(refine X6 ?_;omega)|(refine NO ?_;omega))
  |(rw[eq_comm];(unfold Dh;first|(refine X5 ?_;omega)|(refine X6 ?_;omega)|(refine NO ?_;omega)))
  
theorem Pm(s:Int)(l:List Int)(hl:l.length<=1000000000000)(h32:∀x∈l,-2147483648<=x/\x<=2147483647):PC Tryz.prog 97 [.int .i64 s,A6 l] (.bool (l.all (Dh s))):=by
 have pI:=Bf l;refine Cf VP ?_;unfold Oy;(with_reducible repeat'(first|simp(disch:=omega)only[push_cast,↓zz,seval,pI]|refine sp_ ?_ ?_<;>try(intro hc;push_cast at hc)|omega|intro _))
 refine Br (Bs (λ(k:Nat)=>k<=l.length/\l.all (Dh s)=(l.drop k).all (Dh s)) (λk=>l.length-k)
  (λk=>[(0,.int .i64 s),(7,A6 l),(8,.int .i64 l.length),(9,.int .i64 k)]) (λ_=>[]) (λ_ _=>[]) 0 (by simp) ?_ ?_)
 ·(with_reducible repeat'(first|simp(disch:=omega)only[push_cast,↓zz,seval,pI]|refine sp_ ?_ ?_<;>try(intro hc;push_cast at hc)|omega|intro _))
 rintro k ⟨hk,hr⟩;rcases Ak k l.length with hkl|hkl
 ·have hI:=zjk s (nth l k) (h32 _ (AS hkl))
  rw[drop_at hkl,List.all_cons] at hr;generalize Dh s (nth l k)=b at *;cases b with
  |true =>
   refine W_T ?_;(with_reducible repeat'(first|simp(disch:=omega)only[push_cast,↓zz,seval,pI]|refine sp_ ?_ ?_<;>try(intro hc;push_cast at hc)|refine ee hI ?_|(refine cc hI ?_;simp(disch:=omega)only[push_cast,↓zz,seval,pI];fail_if_success change False)|omega|intro _))
   all_goals
    refine⟨k+1,?_⟩;(with_reducible repeat'(first|simp(disch:=omega)only[push_cast,↓zz,seval]|refine sp_ ?_ ?_<;>try(intro hc;push_cast at hc)|omega|intro _));simpa using hr
  |false =>
   refine W_T ?_;(with_reducible repeat'(first|simp(disch:=omega)only[push_cast,↓zz,seval,pI]|refine sp_ ?_ ?_<;>try(intro hc;push_cast at hc)|refine ee hI ?_|(refine cc hI ?_;simp(disch:=omega)only[push_cast,↓zz,seval,pI];fail_if_success change False)|omega|intro _))
   all_goals (rw[hr];rfl)
 ·rw[An hkl] at hr
  refine W_T ?_;(with_reducible repeat'(first|simp(disch:=omega)only[push_cast,↓zz,seval,pI]|refine sp_ ?_ ?_<;>try(intro hc;push_cast at hc)|omega|intro _))
  all_goals (rw[hr];rfl)
theorem JA(a b:List Int)(hl:a.length<=1000000000000):PC Tryz.prog 68 [A6 a,A6 b] (.bool (decide (a=b))):=by
 refine Cf Uh ?_;unfold M4;(with_reducible repeat'(first|simp(disch:=omega)only[push_cast,↓zz,seval]|refine sp_ ?_ ?_<;>try(intro hc;push_cast at hc)|omega|intro _))
 ·have:a≠b:=by intro h;subst h;first|omega|simp_all
  simp[this]
 refine Br (Bs (λ(k:Nat)=>k<=a.length/\decide (a=b)=decide (a.drop k=b.drop k)) (λk=>a.length-k)
  (λk=>[(0,A6 a),(1,A6 b),(5,.int .i64 k)]) (λs=>[]) (λenv _=>[]) 0 (by simp) ?_ ?_)
 ·(with_reducible repeat'(first|simp(disch:=omega)only[push_cast,↓zz,seval]|refine sp_ ?_ ?_<;>try(intro hc;push_cast at hc)|omega|intro _))
 rintro k ⟨hk,hr⟩;refine W_T ?_;(with_reducible repeat'(first|simp(disch:=omega)only[push_cast,↓zz,seval]|refine sp_ ?_ ?_<;>try(intro hc;push_cast at hc)|omega|intro _))
 all_goals first
  |(rw[hr,An (by omega),An (by omega)];simp;done)
  |(rw[hr,FR (by omega) (by omega)];simp_all;done)
  |(refine⟨k+1,?_⟩
    (with_reducible repeat'(first|simp(disch:=omega)only[push_cast,↓zz,seval]|refine sp_ ?_ ?_<;>try(intro hc;push_cast at hc)|omega|intro _))
    rw[hr,FR (by omega) (by omega)];simp_all;done)
  
theorem Pn(a b:List (List Int))(hl:a.length<=1000000000000)(ha:∀l∈a,l.length<=1000000000000):PC Tryz.prog 24 [F5 a,F5 b] (.bool (decide (a=b))):=by
 refine Cf LK ?_;unfold HM;(with_reducible repeat'(first|simp(disch:=omega)only[push_cast,↓zz,seval]|refine sp_ ?_ ?_<;>try(intro hc;push_cast at hc)|omega|intro _))
 ·have:a≠b:=by intro h;subst h;first|omega|simp_all
  simp[this]
 refine Br (Bs (λ(k:Nat)=>k<=a.length/\decide (a=b)=decide (a.drop k=b.drop k)) (λk=>a.length-k)
  (λk=>[(0,F5 a),(1,F5 b),(5,.int .i64 k)]) (λs=>[]) (λenv _=>[]) 0 (by simp) ?_ ?_)
 ·(with_reducible repeat'(first|simp(disch:=omega)only[push_cast,↓zz,seval]|refine sp_ ?_ ?_<;>try(intro hc;push_cast at hc)|omega|intro _))
 rintro k ⟨hk,hr⟩;refine W_T ?_;(with_reducible repeat'(first|simp(disch:=omega)only[push_cast,↓zz,seval]|refine sp_ ?_ ?_<;>try(intro hc;push_cast at hc)|(have q_:=JA (nth a k) (nth b k) (ha _ (AS (by omega)));refine ee q_ ?_;clear q_)|(have q_:=JA (nth a k) (nth b k) (ha _ (AS (by omega)));refine cc q_ ?_;clear q_;simp(disch:=omega)only[push_cast,↓zz,seval];fail_if_success change False)|omega|intro _))
 all_goals first
  |(rw[hr,An (by omega),An (by omega)];simp;done)
  |(rw[hr,FR (by omega) (by omega)];simp_all;done)
  |(refine⟨k+1,?_⟩
    (with_reducible repeat'(first|simp(disch:=omega)only[push_cast,↓zz,seval]|refine sp_ ?_ ?_<;>try(intro hc;push_cast at hc)|omega|intro _))
    rw[hr,FR (by omega) (by omega)];simp_all;done)
  
noncomputable def askV (d:Desc) (x:List Int):Int:=if GI d≠0 then 2 else if 1024<x.length then 4 else if x.all (Dh d.in_)=true then 0 else 1
theorem z6a(d:Desc)(x:List Int)(hf:Ml d)(hl:x.length<=9223372036854775807)(h32:∀v∈x,-2147483648<=v/\v<=2147483647):PC Tryz.prog 59 [DV d,A6 x] (.int .i64 (askV d x)):=by
 have hC:=z0h d hf;have hF:=λ(h:¬1024<x.length)=>Pm d.in_ x (by omega) h32;have pR:=BO d.rules;have pF:=Ch d.finals;have pI:=Bf x;refine Cf VI ?_;unfold On askV;generalize GI d=k at *;generalize x.all (Dh d.in_)=b at *;by_cases hk:k=0
 ·subst hk
  rw[Ab (by simp)];by_cases hx:1024<x.length
  ·rw[Ae hx]
   (with_reducible repeat'(first|simp(disch:=omega)only[push_cast,↓zz,seval,pR,pF,pI]|refine sp_ ?_ ?_<;>try(intro hc;push_cast at hc)|refine ee hC ?_|(refine cc hC ?_;simp(disch:=omega)only[push_cast,↓zz,seval,pR,pF,pI];fail_if_success change False)|omega|intro _))
  ·rw[Ab hx]
   have hF:=hF hx;cases b with
   |true =>
    rw[Ae rfl];(with_reducible repeat'(first|simp(disch:=omega)only[push_cast,↓zz,seval,pR,pF,pI]|refine sp_ ?_ ?_<;>try(intro hc;push_cast at hc)|refine ee hC ?_|refine ee hF ?_|((first|refine cc hC ?_|refine cc hF ?_);simp(disch:=omega)only[push_cast,↓zz,seval,pR,pF,pI];fail_if_success change False)|omega|intro _))
   |false =>
    rw[Ab (by simp)];(with_reducible repeat'(first|simp(disch:=omega)only[push_cast,↓zz,seval,pR,pF,pI]|refine sp_ ?_ ?_<;>try(intro hc;push_cast at hc)|refine ee hC ?_|refine ee hF ?_|((first|refine cc hC ?_|refine cc hF ?_);simp(disch:=omega)only[push_cast,↓zz,seval,pR,pF,pI];fail_if_success change False)|omega|intro _))
 ·rw[Ae hk]
  (with_reducible repeat'(first|simp(disch:=omega)only[push_cast,↓zz,seval,pR,pF,pI,hk]|refine sp_ ?_ ?_<;>try(intro hc;push_cast at hc)|refine ee hC ?_|(refine cc hC ?_;simp(disch:=omega)only[push_cast,↓zz,seval,pR,pF,pI,hk];fail_if_success change False)|omega|intro _))
abbrev Eh(d:Desc)(x:List Int)(ru fi od li:AV):AV:=.cptr (.agg [.int .i64 d.in_,.int .i64 d.out,.int .i64 d.states,.int .i64 d.start,FH d.rules,G1 d.finals,A6 x,ru,fi,od,li])
def goB(x:List Int)(gs:List (List Span))(at_:Nat):Bool:=decide (gs.length+at_<=x.length)&&(List.range gs.length).all λk=>hasI (nth gs k) (nth x (at_+k))
theorem PR{p:Nat->Bool}{k n:Nat}(h:k<n)(hp:∀j,j<k->p j=true):(p k=false->(List.range n).all p=false):=λhk=>by
 rw[List.all_eq_false];exact⟨k,by simpa using h,by simp[hk]⟩
theorem SA(d:Desc)(x:List Int)(ru fi od li:AV)(gs:List (List Span))(at_:Nat)(hr:ru.pure=true)(hfi:fi.pure=true)(ho:od.pure=true)(hli:li.pure=true)(hx:x.length<=1000000)(h32:∀v∈x,-2147483648<=v/\v<=2147483647)(hg:∀g∈gs,g.length<=1000000)(hgl:gs.length<=1000000)(ha:at_<=1000000):
 PC Tryz.prog 65 [Eh d x ru fi od li,Du gs,.int .i64 at_] (.bool (goB x gs at_)):=by
 have pR:=BO d.rules;have pF:=Ch d.finals;have pX:=Bf x;have pG:=BQ gs;refine Cf LP ?_;unfold HT;(with_reducible repeat'(first|simp(disch:=omega)only[push_cast,↓zz,seval,pR,pF,pX,pG,hr,hfi,ho,hli]|refine sp_ ?_ ?_<;>try(intro hc;push_cast at hc)|omega|intro _))
 ·have:¬gs.length+at_<=x.length:=by omega
  simp[goB,this]
 have hfit:gs.length+at_<=x.length:=by omega
 have hgo:goB x gs at_=(List.range gs.length).all λk=>hasI (nth gs k) (nth x (at_+k)):=by simp[goB,hfit]
 rw[hgo]
 refine Br (Bs (λ(k:Nat)=>k<=gs.length/\Hold (∀j,j<k->hasI (nth gs j) (nth x (at_+j))=true)) (λk=>gs.length-k)
  (λk=>[(0,Eh d x ru fi od li),(2,.int .i64 at_),(19,Du gs),(20,.int .i64 gs.length),(21,.int .i64 k)]) (λ_=>[]) (λ_ _=>[]) 0 ⟨by simp,⟨λj hj=>by omega⟩⟩ ?_ ?_)
 ·(with_reducible repeat'(first|simp(disch:=omega)only[push_cast,↓zz,seval,pR,pF,pX,pG,hr,hfi,ho,hli]|refine sp_ ?_ ?_<;>try(intro hc;push_cast at hc)|omega|intro _))
 rintro k ⟨hk,⟨hall⟩⟩;rcases Ak k gs.length with hkl|hkl
 ·have hHas:=zbn (nth gs k) (nth x (at_+k)) (by have:=hg _ (AS hkl);omega)
  have hb:=h32 _ (AS (show at_+k<x.length by omega));have hcast:((at_:Int)+k).toNat=at_+k:=by omega
  generalize hge:nth gs k=g at *;have pg:=Cd g;cases hh:hasI g (nth x (at_+k)) with
  |true =>
   rw[hh] at hHas
   have hnx:Hold (∀j,j<k+1->hasI (nth gs j) (nth x (at_+j))=true):=⟨λj hj=>by
    by_cases e:j=k
    ·subst e;rw[hge];exact hh
    ·exact hall j (by omega)⟩
   clear hall;refine W_T ?_;(with_reducible repeat'(first|simp(disch:=omega)only[push_cast,↓zz,seval,pR,pF,pX,pG,hr,hfi,ho,hli,hge,pg,hcast]|refine sp_ ?_ ?_<;>try(intro hc;push_cast at hc)|refine ee hHas ?_|(refine cc hHas ?_;simp(disch:=omega)only[push_cast,↓zz,seval,pR,pF,pX,pG,hr,hfi,ho,hli,hge,pg,hcast];fail_if_success change False)|omega|intro _))
   all_goals first
    |(refine⟨k+1,?_⟩
      (with_reducible repeat'(first|simp(disch:=omega)only[push_cast,↓zz,seval,pR,pF,pX,pG,hr,hfi,ho,hli]|refine sp_ ?_ ?_<;>try(intro hc;push_cast at hc)|omega|intro _))
      all_goals first|assumption|trace_state)
    
  |false =>
   rw[hh] at hHas;have hno:(List.range gs.length).all (λk=>hasI (nth gs k) (nth x (at_+k)))=false:=PR hkl hall (by rw[hge];exact hh);rw[hno];clear hall hno;refine W_T ?_;(with_reducible repeat'(first|simp(disch:=omega)only[push_cast,↓zz,seval,pR,pF,pX,pG,hr,hfi,ho,hli,hge,pg,hcast]|refine sp_ ?_ ?_<;>try(intro hc;push_cast at hc)|refine ee hHas ?_|(refine cc hHas ?_;simp(disch:=omega)only[push_cast,↓zz,seval,pR,pF,pX,pG,hr,hfi,ho,hli,hge,pg,hcast];fail_if_success change False)|omega|intro _))
 ·obtain rfl:k=gs.length:=by omega
  have hyes:(List.range gs.length).all (λk=>hasI (nth gs k) (nth x (at_+k)))=true:=AP.2 λj hj=>hall j (by simpa using hj);rw[hyes];clear hall hyes;refine W_T ?_;(with_reducible repeat'(first|simp(disch:=omega)only[push_cast,↓zz,seval,pR,pF,pX,pG,hr,hfi,ho,hli]|refine sp_ ?_ ?_<;>try(intro hc;push_cast at hc)|omega|intro _))
theorem zcm(d:Desc)(x:List Int)(ru fi od li:AV)(f:H8)(at_:Nat)(hr:ru.pure=true)(hfi:fi.pure=true)(ho:od.pure=true)(hli:li.pure=true)(hx:x.length<=1000000)(h32:∀v∈x,-2147483648<=v/\v<=2147483647)(hg:∀g∈f.guards,g.length<=1000000)(hgl:f.guards.length<=1000000)(ha:at_<=1000000):
 PC Tryz.prog 63 [Eh d x ru fi od li,XZ f,.int .i64 at_] (.bool (decide (f.guards.length+at_=x.length)&&goB x f.guards at_)):=by
 have pR:=BO d.rules;have pF:=Ch d.finals;have pX:=Bf x;have pG:=BQ f.guards;have pT:=Ct f.out;have hF:=SA d x ru fi od li f.guards at_ hr hfi ho hli hx h32 hg hgl ha;refine Cf LO ?_;unfold HS;generalize goB x f.guards at_=b at *;by_cases he:f.guards.length+at_=x.length
 ·rw[AE he,AO]
  have he2:(f.guards.length:Int)=(x.length:Int)-at_:=by omega
  (with_reducible repeat'(first|simp(disch:=omega)only[push_cast,↓zz,seval,pR,pF,pX,pG,pT,hr,hfi,ho,hli,he2]|refine sp_ ?_ ?_<;>try(intro hc;push_cast at hc)|refine ee hF ?_|(refine cc hF ?_;simp(disch:=omega)only[push_cast,↓zz,seval,pR,pF,pX,pG,pT,hr,hfi,ho,hli,he2];fail_if_success change False)|omega|intro _))
  all_goals first|omega
 ·rw[Bc he,Bp]
  have he2:¬(f.guards.length:Int)=(x.length:Int)-at_:=by omega
  (with_reducible repeat'(first|simp(disch:=omega)only[push_cast,↓zz,seval,pR,pF,pX,pG,pT,hr,hfi,ho,hli,he2]|refine sp_ ?_ ?_<;>try(intro hc;push_cast at hc)|refine ee hF ?_|(refine cc hF ?_;simp(disch:=omega)only[push_cast,↓zz,seval,pR,pF,pX,pG,pT,hr,hfi,ho,hli,he2];fail_if_success change False)|omega|intro _))
  all_goals first|omega
def FS(out:List Term)(w:List Int):List Int:=out.map λt=>IntKind.i32.wrap ((EH t w).getD 0)
theorem QQ(d:Desc)(x:List Int)(ru fi od li:AV)(out:List Term)(at_ n:Nat)(hr:ru.pure=true)(hfi:fi.pure=true)(ho:od.pure=true)(hli:li.pure=true)(hx:x.length<=1000000)(h32:∀v∈x,-2147483648<=v/\v<=2147483647)(hol:out.length<=1000000)(hop:∀t∈out,t.parts.length<=1000000)(ha:at_+n<=x.length):
 PC Tryz.prog 64 [Eh d x ru fi od li,GG out,.int .i64 at_,.int .i64 n] (A6 (FS out ((x.drop at_).take n))):=by
 have pR:=BO d.rules;have pF:=Ch d.finals;have pX:=Bf x;have pT:=Ct out;have hwl:((x.drop at_).take n).length<=1000000:=by simp;omega
 have hw32:∀v∈(x.drop at_).take n,-2147483648<=v/\v<=2147483647:=λv hv=>h32 v (BF (B8 hv));have hV:=λt (ht:t∈out)=>ZT t ((x.drop at_).take n) (by have:=hop t ht;omega) (by omega) hw32;have hmw:List.take n (List.drop at_ (x.map (AV.int .i32)))=((x.drop at_).take n).map (AV.int .i32):=by rw[List.map_take,List.map_drop]
 have hcat:((at_:Int)+n).toNat=at_+n:=by omega
 have pW:=Bf ((x.drop at_).take n);have hdt:List.drop at_ (List.take (at_+n) x)=(x.drop at_).take n:=by rw[List.drop_take];simp
 have e0:∀w,FS [] w=[]:=λ_=>rfl;have wl:∀w,(FS out w).length=out.length:=λw=>by simp[FS]
 have wt:∀w,List.take out.length (FS out w)=FS out w:=λw=>Az (by rw[wl];exact Ad _);refine Cf Ko ?_;unfold Hi;(with_reducible repeat'(first|simp(disch:=omega)only[push_cast,↓zz,seval,pR,pF,pX,pT,hr,hfi,ho,hli]|refine sp_ ?_ ?_<;>try(intro hc;push_cast at hc)|omega|intro _))
 refine Br (Bs (λ(k:Nat)=>k<=out.length) (λk=>out.length-k)
  (λk=>[(0,Eh d x ru fi od li),(2,.int .i64 at_),(3,.int .i64 n),(9,.ref 0 1 0 k),(14,GG out),(15,.int .i64 out.length),(16,.int .i64 k)]) (λk=>[⟨1,1,false,(FS (out.take k) ((x.drop at_).take n)).map (AV.int .i32)⟩]) (λenv _=>[C7 1 (env 9)]) 0 (by simp) ?_ ?_)
 ·(with_reducible repeat'(first|simp(disch:=omega)only[push_cast,↓zz,seval,pR,pF,pX,pT,hr,hfi,ho,hli,e0]|refine sp_ ?_ ?_<;>try(intro hc;push_cast at hc)|omega|intro _))
 intro k hk;have hlk:(FS (out.take k) ((x.drop at_).take n)).length=k:=by simp[FS];omega
 have pL:=Bf (FS (out.take k) ((x.drop at_).take n));rcases Ak k out.length with hkl|hkl
 ·have hVk:=hV _ (AS hkl)
  have e1:FS (out.take (k+1)) ((x.drop at_).take n)=FS (out.take k) ((x.drop at_).take n)++[IntKind.i32.wrap ((EH (nth out k) ((x.drop at_).take n)).getD 0)]:=by rw[FS,take_at hkl,Aw];rfl
  generalize hte:nth out k=t at *;have pP:=J1 t.parts;generalize FS (out.take k) ((x.drop at_).take n)=L at *;refine W_T ?_;(with_reducible repeat'(first|simp(disch:=omega)only[push_cast,↓zz,seval,pR,pF,pX,pT,hr,hfi,ho,hli,hte,pP,hmw,hcat,pW,hdt]|refine sp_ ?_ ?_<;>try(intro hc;push_cast at hc)|refine ee hVk ?_|(refine cc hVk ?_;simp(disch:=omega)only[push_cast,↓zz,seval,pR,pF,pX,pT,hr,hfi,ho,hli,hte,pP,hmw,hcat,pW,hdt];fail_if_success change False)|omega|intro _))
  all_goals
   refine⟨k+1,?_⟩;(with_reducible repeat'(first|simp(disch:=omega)only[push_cast,↓zz,seval,e1,pL,pR,pF,pX,pT,hr,hfi,ho,hli]|refine sp_ ?_ ?_<;>try(intro hc;push_cast at hc)|omega|intro _))
 ·obtain rfl:k=out.length:=by omega
  have et:out.take out.length=out:=Az (by omega);rw[et] at hlk pL ⊢;refine W_T ?_;(with_reducible repeat'(first|simp(disch:=omega)only[push_cast,↓zz,seval,pR,pF,pX,pT,hr,hfi,ho,hli,pL,et,wl,wt]|refine sp_ ?_ ?_<;>try(intro hc;push_cast at hc)|omega|intro _))
def ltW:List Int->List Int->Bool
 |[],[]=>false
 |[],_::_=>true
 |_::_,[]=>false
 |a::l,b::m=>if a<b then true else if b<a then false else ltW l m
theorem FF:∀a,ltW a a=false
 |[]=>rfl
 |a::l=>by simp[ltW,FF l]
theorem GJ:∀a b c,ltW a b=true->ltW b c=true->ltW a c=true
 |[],[],_,h,_=>by simp[ltW] at h
 |[],b::m,[],_,h=>by simp[ltW] at h
 |[],_::_,_::_,_,_=>rfl
 |_::_,[],_,h,_=>by simp[ltW] at h
 |_::_,_::_,[],_,h=>by simp[ltW] at h
 |a::l,b::m,c::n,h1,h2=>by
  simp only[ltW] at h1 h2 ⊢;split at h1
  ·split at h2
   ·rw[Ae (by omega)]
   ·split at h2
    ·cases h2
    ·rw[Ae (by omega)]
  ·split at h1
   ·cases h1
   ·split at h2
    ·rw[Ae (by omega)]
    ·split at h2
     ·cases h2
     ·rw[Ab (by omega),Ab (by omega)]
      exact GJ l m n h1 h2
theorem Ie:∀a b,ltW a b=false->ltW b a=false->a=b
 |[],[],_,_=>rfl
 |[],_::_,h,_=>by simp[ltW] at h
 |_::_,[],_,h=>by simp[ltW] at h
 |a::l,b::m,h1,h2=>by
  have e1:¬a<b:=λh=>by simp[ltW,h] at h1
  have e2:¬b<a:=λh=>by simp[ltW,h] at h2
  rw[ltW,Ab e1,Ab e2] at h1;rw[ltW,Ab e2,Ab e1] at h2;have:a=b:=by omega
  rw[this,Ie l m h1 h2]
def I3(l:List (List Int)):Prop:=l.Pairwise λa b=>ltW a b=true
theorem Ny:∀{l m:List (List Int)},I3 l->I3 m->(∀w,w∈l↔w∈m)->l=m
 |[],[],_,_,_=>rfl
 |[],b::m,_,_,h=>by have:=(h b).2 (by simp);cases this
 |a::l,[],_,_,h=>by have:=(h a).1 (by simp);cases this
 |a::l,b::m,h1,h2,h=>by
  rw[I3,AM] at h1 h2
  have e:a=b:=by
   rcases Af.1 ((h a).1 (by simp)) with e|ha
   ·exact e
   ·rcases Af.1 ((h b).2 (by simp)) with e|hb
    ·exact e.symm
    ·have k1:=h1.1 b hb
     have k2:=h2.1 a ha;have:=GJ _ _ _ k1 k2;rw[FF] at this;cases this
  subst e;have hna:a∉l:=λhm=>by have:=h1.1 a hm;rw[FF] at this;cases this
  have hnb:a∉m:=λhm=>by have:=h2.1 a hm;rw[FF] at this;cases this
  rw[Ny (l:=l) (m:=m) h1.2 h2.2 λw=>?_];constructor
  ·intro hw
   rcases Af.1 ((h w).1 (by simp[hw])) with e|e
   ·subst e;exact absurd hw hna
   ·exact e
  ·intro hw
   rcases Af.1 ((h w).2 (by simp[hw])) with e|e
   ·subst e;exact absurd hw hnb
   ·exact e
def insU(w:List Int):List (List Int)->List (List Int)
 |[]=>[w]
 |a::l=>if ltW w a=true then w::a::l else if ltW a w=true then a::insU w l else a::l
theorem Nz(w:List Int):∀(l:List (List Int))(v:List Int),v∈insU w l↔v=w\/v∈l
 |[],v=>by simp[insU]
 |a::l,v=>by
  simp only[insU];split
  ·simp
  ·split
   ·rw[Af,Nz w l v,Af]
    constructor
    ·rintro (h|h|h)
     ·exact .inr (.inl h)
     ·exact .inl h
     ·exact .inr (.inr h)
    ·rintro (h|h|h)
     ·exact .inr (.inl h)
     ·exact .inl h
     ·exact .inr (.inr h)
   ·rename_i h1 h2
    have e:w=a:=Ie w a (by simpa using h1) (by simpa using h2);subst e;simp
theorem Po(w:List Int):∀{l:List (List Int)},I3 l->I3 (insU w l)
 |[],_=>Eb _ _
 |a::l,h=>by
  have h':=h;rw[I3,AM] at h';simp only[insU];split
  ·rename_i h1
   refine AM.2 ⟨λv hv=>?_,h⟩;rcases Af.1 hv with rfl|hv
   ·exact h1
   ·exact GJ _ _ _ h1 (h'.1 v hv)
  ·split
   ·rename_i h2
    refine AM.2 ⟨λv hv=>?_,Po w h'.2⟩;rcases (Nz w l v).1 hv with rfl|hv
    ·exact h2
    ·exact h'.1 v hv
   ·exact h
def I4(l:List (List Int)):List (List Int):=l.foldr insU []
theorem Hn:∀(l:List (List Int))(v:List Int),v∈I4 l↔v∈l
 |[],v=>Fy
 |a::l,v=>by
  show v∈insU a (I4 l)↔_;rw[Nz,Hn l v,Af]
theorem Ha:∀(l:List (List Int)),I3 (I4 l)
 |[]=>List.Pairwise.nil
 |a::l=>Po a (Ha l)
theorem Y6{l m:List (List Int)}(h1:I3 m)(h2:∀w,w∈m↔w∈l):I4 l=m:=Ny (Ha l) h1 λw=>(Hn l w).trans (h2 w).symm
theorem SB(w:List Int):∀l:List (List Int),(insU w l).length<=l.length+1
 |[]=>by simp[insU]
 |a::l=>by
  have:=SB w l;simp only[insU];repeat' split
  all_goals simp;try omega
theorem Pp:∀l:List (List Int),(I4 l).length<=l.length
 |[]=>Ad _
 |a::l=>by
  have:=Pp l;have h2:=SB a (I4 l);show (insU a (I4 l)).length<=_;simp;omega
theorem I5{α:Type}:∀{l m:List α},l.Nodup->(∀w∈l,w∈m)->l.length<=m.length
 |[],m,_,_=>Au _
 |a::l,m,hn,h=>by
  obtain⟨s,t,rfl⟩:=List.append_of_mem (h a (by simp));rw[BN] at hn
  have:=I5 (l:=l) (m:=s++t) hn.2 λw hw=>by
   have:=h w (by simp[hw]);simp only[Ao,Af] at this ⊢;rcases this with h1|h1|h1
   ·exact .inl h1
   ·subst h1;exact absurd hw hn.1
   ·exact .inr h1
  simp only[Aj,List.length_cons] at this ⊢;omega
def epsI(l:List Rule)(s:Int):List Nat:=(List.range l.length).filter λi=>Dk (nth l i)&&decide ((nth l i).from_=s)
theorem SC{l:List Rule}{s:Int}{i:Nat}:i∈epsI l s↔i<l.length/\Dk (nth l i)=true/\(nth l i).from_=s:=by
 simp[epsI]
def okP(l:List Rule):Int->List Nat->Prop
 |_,[]=>True
 |s,i::p=>i∈epsI l s/\okP l (nth l i).to_ p
def endP(l:List Rule):Int->List Nat->Int
 |s,[]=>s
 |_,i::p=>endP l (nth l i).to_ p
theorem zo4{l:List Rule}{on:Nat->Bool}{i j:Nat}(hi:i<l.length)(he:Dk (nth l i)=true)(ho:on (nth l i).from_.toNat=true)(ht:(nth l i).to_=j):onF l on j=true:=by
 rw[onF,Cl];exact⟨nth l i,AS hi,by simp[he,ho,ht]⟩
theorem zf6{l:List Rule}{n:Nat}(hl:∀r∈l,(0<=r.from_/\r.from_<n)/\0<=r.to_/\r.to_<n):∀(p:List Nat)(k:Nat)(s:Int),0<=s->onK l k s.toNat=true->okP l s p->onK l (k+p.length) (endP l s p).toNat=true
 |[],k,s,_,ho,_=>ho
 |i::p,k,s,hs,ho,hp=>by
  obtain⟨h1,h2,h3⟩:=SC.1 hp.1;have hr:=hl _ (AS h1);have ht:onK l (k+1) (nth l i).to_.toNat=true:=zo4 h1 h2 (by rw[h3];exact ho) (by omega);have:=zf6 hl p (k+1) (nth l i).to_ hr.2.1 ht hp.2;rw[List.length_cons,show k+(p.length+1)=k+1+p.length by omega];exact this
theorem z6b{l:List Rule}{n:Nat}(hl:∀r∈l,(0<=r.from_/\r.from_<n)/\0<=r.to_/\r.to_<n)(hc:¬cycP l n){s:Int}(hs:0<=s){p:List Nat}(hp:okP l s p):p.length<=n+1:=by
 have hcr:¬cycR l n=true:=λh=>hc ((zbb hl).1 h)
 have:∃k,k<=n/\ZW l (onK l k)=false:=by
  refine AN λhh=>hcr ?_;rw[cycR,AP];intro k hk;refine AN λh2=>hh ⟨k,by simp at hk;omega,by simpa using h2⟩
 obtain⟨k,hk,hkf⟩:=this
 have hno:∀j,onK l (k+1) j=false:=λj=>by
  refine AN λhh=>?_;have h1:onF l (onK l k) j=true:=by simpa [onK] using hh
  rw[onF,Cl] at h1;obtain⟨r,hr,h2⟩:=h1;simp only[Ac] at h2
  have:ZW l (onK l k)=true:=by
   rw[ZW,Cl];exact⟨r,hr,by simp[h2.1,h2.2.1]⟩
  rw[hkf] at this;cases this
 refine AN λhlen=>?_;have h1:=zf6 hl p 0 s hs rfl hp;rw[Bb] at h1
 have down:∀m j,onK l (k+1+m) j=true->onK l (k+1) j=true:=λm=>by
  induction m with
  |zero=>exact λj h=>h
  |succ m ih=>exact λj h=>ih j (So l _ j h)
 have:=down (p.length-(k+1)) (endP l s p).toNat (by rw[show k+1+(p.length-(k+1))=p.length by omega];exact h1);rw[hno] at this;cases this
theorem N0(l:List Rule):∀(s:Int)(p q:List Nat),endP l s (p++q)=endP l (endP l s p) q
 |s,[],q=>rfl
 |s,i::p,q=>N0 l _ p q
theorem SD(l:List Rule):∀(s:Int)(p q:List Nat),okP l s (p++q)↔okP l s p/\okP l (endP l s p) q
 |s,[],q=>by simp[okP,endP]
 |s,i::p,q=>by simp[okP,endP,SD l _ p q,and_assoc]
def FM(x:List Int)(out:List Term)(gs:List (List Span))(at_:Nat):List Int:=FS out ((x.drop at_).take gs.length)
inductive RelW(d:Desc)(x:List Int):Nat->Int->List Int->Prop
 |fin {at_:Nat} {s:Int} (f:H8):f∈d.finals->f.from_=s->f.guards.length+at_=x.length->goB x f.guards at_=true->RelW d x at_ s (FM x f.out f.guards at_)
 |step {at_:Nat} {s:Int} (r:Rule) (w:List Int):r∈d.rules->r.from_=s->goB x r.guards at_=true->RelW d x (at_+r.eat.toNat) r.to_ w->RelW d x at_ s (FM x r.out r.guards at_++w)
theorem I6{d:Desc}{x:List Int}{at_:Nat}{s:Int}{w:List Int}:RelW d x at_ s w ↔
 (∃f∈d.finals,f.from_=s/\(f.guards.length+at_=x.length/\goB x f.guards at_=true)/\w=FM x f.out f.guards at_) \/
 ∃r∈d.rules,r.from_=s/\goB x r.guards at_=true/\∃v,RelW d x (at_+r.eat.toNat) r.to_ v/\w=FM x r.out r.guards at_++v:=by
 constructor
 ·rintro (⟨f,h1,h2,h3,h4⟩|⟨r,v,h1,h2,h3,h4⟩)
  ·exact .inl ⟨f,h1,h2,⟨h3,h4⟩,rfl⟩
  ·exact .inr ⟨r,h1,h2,h3,v,h4,rfl⟩
 ·rintro (⟨f,h1,h2,⟨h3,h4⟩,rfl⟩|⟨r,h1,h2,h3,v,h4,rfl⟩)
  ·exact .fin f h1 h2 h3 h4
  ·exact .step r v h1 h2 h3 h4
def JG(d:Desc)(x:List Int)(at_:Nat)(s:Int)(L:List (List Int)):Prop:=I3 L/\∀w,w∈L↔RelW d x at_ s w
theorem zcn{d:Desc}{x:List Int}{at_:Nat}{s:Int}{L M:List (List Int)}(h1:JG d x at_ s L)(h2:JG d x at_ s M):L=M:=Ny h1.1 h2.1 λw=>(h1.2 w).trans (h2.2 w).symm
def outL(d:Desc)(x:List Int)(S:Nat->Int->List (List Int))(at_:Nat)(s:Int):List (List Int) :=
 ((d.finals.filter λf=>decide (f.from_=s)&&(decide (f.guards.length+at_=x.length)&&goB x f.guards at_)).map λf=>FM x f.out f.guards at_) ++
 (d.rules.filter λr=>decide (r.from_=s)&&goB x r.guards at_).flatMap λr=>(S (at_+r.eat.toNat) r.to_).map (FM x r.out r.guards at_++·)
theorem zco{d:Desc}{x:List Int}{S:Nat->Int->List (List Int)}{at_:Nat}{s:Int}(h:∀r∈d.rules,r.from_=s->goB x r.guards at_=true->∀v,v∈S (at_+r.eat.toNat) r.to_↔RelW d x (at_+r.eat.toNat) r.to_ v)(w:List Int):w∈outL d x S at_ s↔RelW d x at_ s w:=by
 rw[I6,outL,Ao,Ax,DR];constructor
 ·rintro (⟨f,hf,rfl⟩|⟨r,hr,hw⟩)
  ·obtain⟨h1,h2⟩:=Bn.1 hf
   simp only[Ac,Ah] at h2;exact .inl ⟨f,h1,h2.1,h2.2,rfl⟩
  ·obtain⟨h1,h2⟩:=Bn.1 hr
   simp only[Ac,Ah] at h2;obtain⟨v,hv,rfl⟩:=Ax.1 hw;exact .inr ⟨r,h1,h2.1,h2.2,v,(h r h1 h2.1 h2.2 v).1 hv,rfl⟩
 ·rintro (⟨f,h1,h2,h3,rfl⟩|⟨r,h1,h2,h3,v,hv,rfl⟩)
  ·exact .inl ⟨f,Bn.2 ⟨h1,by simp[h2,h3.1,h3.2]⟩,rfl⟩
  ·exact .inr ⟨r,Bn.2 ⟨h1,by simp[h2,h3]⟩,Ax.2 ⟨v,(h r h1 h2 h3 v).2 hv,rfl⟩⟩
theorem Y7{d:Desc}{x:List Int}{S:Nat->Int->List (List Int)}{at_:Nat}{s:Int}(h:∀r∈d.rules,r.from_=s->goB x r.guards at_=true->JG d x (at_+r.eat.toNat) r.to_ (S (at_+r.eat.toNat) r.to_)):JG d x at_ s (I4 (outL d x S at_ s)) :=
 ⟨Ha _,λw=>(Hn _ w).trans (zco (λr h1 h2 h3 v=>(h r h1 h2 h3).2 v) w)⟩
structure Topo(l:List Rule)(n:Nat)(ord:List Nat):Prop where
 nodup:ord.Nodup
 all:∀s,s∈ord↔s<n
 eps:∀i,i<ord.length->∀r∈l,Dk r=true->r.from_=(nth ord i:Nat)->∃t:Nat,r.to_=t/\t∈ord.take i
structure Goes(d:Desc)(n:Nat):Prop where
 r:∀r∈d.rules,(0<=r.from_/\r.from_<n)/\(0<=r.to_/\r.to_<n)/\r.eat.toNat<=r.guards.length/\(Dk r=false->1<=r.eat.toNat)
theorem JR{x:List Int}{gs:List (List Span)}{at_:Nat}(h:goB x gs at_=true):gs.length+at_<=x.length:=by
 simp only[goB,Ac,Ah] at h;exact h.1
theorem z6c{d:Desc}{n:Nat}(hg:Goes d n){r:Rule}(hr:r∈d.rules)(he:Dk r=true):r.eat.toNat=0:=by
 have h1:=(hg.r r hr).2.2.1;simp only[Dk,Ah] at he;omega
theorem zo5{d:Desc}{n:Nat}{x:List Int}{ord:List Nat}(hg:Goes d n)(ht:Topo d.rules n ord):∀(k at_:Nat),x.length-at_<k->at_<=x.length->∀s:Nat,s<n->∃L,JG d x at_ s L:=by
 intro k
 induction k with
 |zero=>intro at_ h;omega
 |succ k ih =>
  intro at_ hk ha
  have key:∀i,i<=ord.length->∀s:Nat,s∈ord.take i->∃L,JG d x at_ s L:=λi=>by
   induction i with
   |zero=>intro _ s hs;simp at hs
   |succ i ihi =>
    intro hi s hs;rw[take_at (by omega),Ao,Am] at hs;rcases hs with hs|rfl
    ·exact ihi (by omega) s hs
    ·have hnx:∀r∈d.rules,r.from_=(nth ord i:Nat)->goB x r.guards at_=true->∃L,JG d x (at_+r.eat.toNat) r.to_ L:=λr hr hf hgo=>by
      obtain⟨_,⟨t1,t2⟩,e1,e2⟩:=hg.r r hr;have hle:=JR hgo;cases he:Dk r with
      |true =>
       obtain⟨t,h1,h2⟩:=ht.eps i (by omega) r hr he hf;rw[z6c hg hr he,h1,Nat.add_zero];exact ihi (by omega) t h2
      |false =>
       have:=e2 he;have h3:=ih (at_+r.eat.toNat) (by omega) (by omega) r.to_.toNat (by omega)
       rwa [BE t1] at h3
     classical
     exact⟨_,Y7 (S:=λa t=>if h:∃L,JG d x a t L then h.choose else []) λr hr hf hgo=>by
      have h:=hnx r hr hf hgo;simp only[dif_pos h]
      exact h.choose_spec⟩
  intro s hs;exact key ord.length (Ad _) s (by rw[A7];exact (ht.all s).2 hs)
open Classical in
noncomputable def outW (d:Desc) (x:List Int) (at_:Nat) (s:Int):List (List Int):=if h:∃L,JG d x at_ s L then h.choose else []
theorem UQ{d:Desc}{x:List Int}{at_:Nat}{s:Int}(h:∃L,JG d x at_ s L):JG d x at_ s (outW d x at_ s):=by
 rw[outW,dif_pos h];exact h.choose_spec
theorem Wy{d:Desc}{x:List Int}{at_:Nat}{s:Int}{L:List (List Int)}(h:JG d x at_ s L):outW d x at_ s=L:=zcn (UQ ⟨L,h⟩) h
inductive Wz(d:Desc)(x:List Int):Nat->Int->List Int->Nat->Int->Prop
 |here {at_:Nat} {s:Int}:Wz d x at_ s [] at_ s
 |step {at_:Nat} {s:Int} {u:List Int} {a:Nat} {t:Int} (r:Rule):Wz d x at_ s u a t->r∈d.rules->r.from_=t->goB x r.guards a=true->Wz d x at_ s (u++FM x r.out r.guards a) (a+r.eat.toNat) r.to_
theorem zcp{d:Desc}{x:List Int}{at_:Nat}{s:Int}{u:List Int}{a:Nat}{t:Int}(h:Wz d x at_ s u a t):∀{w:List Int},RelW d x a t w->RelW d x at_ s (u++w):=by
 induction h with
 |here=>intro w hw;exact hw
 |step r _ h1 h2 h3 ih =>
  intro w hw;rw[A3];exact ih (.step r w h1 h2 h3 hw)
theorem Y8{d:Desc}{x:List Int}{at_:Nat}{s:Int}{u:List Int}{a:Nat}{t:Int}(h:Wz d x at_ s u a t){L M:List (List Int)}(hL:JG d x a t L)(hM:JG d x at_ s M):L.length<=M.length:=by
 have h1:(L.map (u++·)).length<=M.length:=by
  refine I5 ?_ λw hw=>?_
  ·have hn:L.Nodup:=List.Pairwise.imp (λ{a b} hab (e:a=b)=>by subst e;rw[FF] at hab;cases hab) hL.1
   exact List.Pairwise.map _ (λa b hab (e:u++a=u++b)=>hab (List.append_cancel_left e)) hn
  ·obtain⟨v,hv,rfl⟩:=Ax.1 hw
   exact (hM.2 _).2 (zcp h ((hL.2 v).1 hv))
 simpa using h1
abbrev Pie:=List Rule × Nat × Nat
def inP(f S:Nat)(p:Pie)(a:Nat):Prop:=a=f\/(S<=a/\a<p.2.1)
structure Host(D:Desc)(f S:Nat)(p:Pie):Prop where
 has:∀r∈p.1,r∈D.rules
 only:∀r∈D.rules,∀a:Nat,r.from_=a->inP f S p a->a≠p.2.2->r∈p.1
 fin:∀g∈D.finals,∀a:Nat,g.from_=a->inP f S p a->a=p.2.2
abbrev Sem:=Nat->Nat->List Int->Prop
structure Good(x:List Int)(sem:Sem)(nl:Bool)(f S:Nat)(p:Pie):Prop where
 mono:S<=p.2.1
 to_:inP f S p p.2.2
 same:p.2.2=f->p.1=[]/\nl=true/\p.2.1=S
 dom:∀r∈p.1,∃a c:Nat,r.from_=a/\r.to_=c/\inP f S p a/\(S<=c/\c<p.2.1)/\a≠p.2.2
 rel:∀D,Host D f S p->∀at_ w,at_<=x.length->(RelW D x at_ f w↔∃e u v,sem at_ e u/\RelW D x e p.2.2 v/\w=u++v)
 cyc:∀l n C,Yf l n C->(∀r∈l,∀c:Nat,r.to_=c->S<=c->c<p.2.1->r∈p.1)->(∀j:Nat,S<=j->j<p.2.1->C j->C f)/\(p.2.2≠f->C p.2.2->nl=true)
 semd:∀at_ e u,sem at_ e u->at_<=x.length->at_<=e/\e<=x.length/\(nl=false->at_<e)
def idS:Sem:=λa e u=>e=a/\u=[]
def seqS(s t:Sem):Sem:=λa e u=>∃e1 u1 u2,s a e1 u1/\t e1 e u2/\u=u1++u2
section
variable {x:List Int}{f S:Nat}
theorem N1(hf:f<S):Good x idS true f S ([],S,f):=by
 refine⟨Ad _,.inl rfl,λ_=>⟨rfl,rfl,rfl⟩,λr hr=>(by cases hr),λD hD a w ha=>?_,λl n C hC hl=>⟨λj h1 h2=>by simp only at h2;omega,λh=>absurd rfl h⟩,λa e u h ha=>?_⟩
 ·constructor
  ·intro h;exact⟨a,[],w,⟨rfl,rfl⟩,h,rfl⟩
  ·rintro⟨e,u,v,⟨rfl,rfl⟩,h,rfl⟩;exact h
 ·obtain⟨rfl,rfl⟩:=h
  exact⟨Ad _,ha,λh=>by cases h⟩
theorem N2{s1 s2:Sem}{n1 n2:Bool}{p1 p2:Pie}(hf:f<S)(h1:Good x s1 n1 f S p1)(h2:Good x s2 n2 p1.2.2 p1.2.1 p2):Good x (seqS s1 s2) (n1&&n2) f S (p1.1++p2.1,p2.2.1,p2.2.2):=by
 obtain⟨r1,S1,t1⟩:=p1;obtain⟨r2,S2,t2⟩:=p2;have m1:=h1.mono;have m2:=h2.mono;have to1:=h1.to_;have to2:=h2.to_;have d1:=h1.dom;have d2:=h2.dom;simp only[inP] at *;refine⟨by simp only;omega,?_,λh=>?_,λr hr=>?_,λD hD a w ha=>?_,λl n C hC hl=>?_,λa e u h ha=>?_⟩
 ·simp only[inP];omega
 ·simp only at h
  have e2:t2=t1:=by omega
  have e1:t1=f:=by omega
  obtain⟨a1,a2,a3⟩:=h1.same e1;obtain⟨b1,b2,b3⟩:=h2.same e2;simp only at a1 a3 b1 b3;refine⟨by rw[a1,b1];rfl,by rw[a2,b2];rfl,by simp only;omega⟩
 ·rcases Ao.1 hr with hr|hr
  ·obtain⟨a,c,k1,k2,k3,k4,k5⟩:=d1 r hr
   refine⟨a,c,k1,k2,?_,by simp only;omega,?_⟩
   ·simp only[inP] at k3 ⊢;omega
   ·simp only[inP] at k3 ⊢;omega
  ·obtain⟨a,c,k1,k2,k3,k4,k5⟩:=d2 r hr
   refine⟨a,c,k1,k2,?_,by simp only;omega,k5⟩;simp only[inP] at k3 ⊢;omega
 ·have H1:Host D f S (r1,S1,t1):=by
   refine⟨λr hr=>hD.has r (C0 _ hr),λr hr a h3 h4 h5=>?_,λg hg a h3 h4=>?_⟩
   ·simp only[inP] at h4 h5
    have h6:=hD.only r hr a h3 (by simp only[inP];omega) (by simp only;omega);rcases Ao.1 h6 with h6|h6
    ·exact h6
    ·exfalso
     obtain⟨a',c,k1,k2,k3,k4,k5⟩:=d2 r h6;have:a'=a:=by omega
     omega
   ·simp only[inP] at h4
    have h6:=hD.fin g hg a h3 (by simp only[inP];omega);simp only at h6 ⊢;omega
  have H2:Host D t1 S1 (r2,S2,t2):=by
   refine⟨λr hr=>hD.has r (CG _ hr),λr hr a h3 h4 h5=>?_,λg hg a h3 h4=>?_⟩
   ·simp only[inP] at h4 h5
    have h6:=hD.only r hr a h3 (by simp only[inP];omega) (by simp only;omega);rcases Ao.1 h6 with h6|h6
    ·exfalso
     obtain⟨a',c,k1,k2,k3,k4,k5⟩:=d1 r h6;have:a'=a:=by omega
     omega
    ·exact h6
   ·simp only[inP] at h4
    exact hD.fin g hg a h3 (by simp only[inP];omega)
  rw[h1.rel D H1 a w ha];constructor
  ·rintro⟨e,u,v,k1,k2,rfl⟩
   have ke:=(h1.semd a e u k1 ha).2.1;obtain⟨e2,u2,v2,k3,k4,rfl⟩:=(h2.rel D H2 e v ke).1 k2;exact⟨e2,u++u2,v2,⟨e,u,u2,k1,k3,rfl⟩,k4,by rw[A3]⟩
  ·rintro⟨e,u,v,⟨e1,u1,u2,k1,k2,rfl⟩,k3,rfl⟩
   have ke:=(h1.semd a e1 u1 k1 ha).2.1;exact⟨e1,u1,u2++v,k1,(h2.rel D H2 e1 _ ke).2 ⟨e,u2,v,k2,k3,rfl⟩,by rw[A3]⟩
 ·obtain⟨c1,c2⟩:=h1.cyc l n C hC λr hr c h3 h4 h5=>by
   have h6:=hl r hr c h3 h4 (by simp only at h5 ⊢;omega);rcases Ao.1 h6 with h6|h6
   ·exact h6
   ·exfalso
    obtain⟨a',c',k1,k2,k3,k4,k5⟩:=d2 r h6;simp only at h5 k4;have:c'=c:=by omega
    omega
  obtain⟨c3,c4⟩:=h2.cyc l n C hC λr hr c h3 h4 h5=>by
   have h6:=hl r hr c h3 (by omega) h5;rcases Ao.1 h6 with h6|h6
   ·exfalso
    obtain⟨a',c',k1,k2,k3,k4,k5⟩:=d1 r h6;have:c'=c:=by omega
    omega
   ·exact h6
  have ct:C (t1:Nat)->C (f:Nat):=λh=>by
   rcases to1 with h3|⟨h3,h4⟩
   ·rw[<-h3];exact h
   ·exact c1 t1 h3 h4 h
  refine⟨λj h3 h4 h5=>?_,λh3 h4=>?_⟩
  ·rcases Ak j S1 with h6|h6
   ·exact c1 j h3 h6 h5
   ·exact ct (c3 j h6 h4 h5)
  ·simp only at h3 h4 ⊢
   have q1:n2=true/\C (t1:Nat):=by
    by_cases e:t2=t1
    ·rw[e] at h4;exact⟨(h2.same e).2.1,h4⟩
    ·refine⟨c4 e h4,?_⟩
     rcases to2 with h7|⟨h7,h8⟩
     ·exact absurd h7 e
     ·exact c3 t2 h7 h8 h4
   have q2:n1=true:=by
    by_cases e:t1=f
    ·exact (h1.same e).2.1
    ·exact c2 e q1.2
   rw[q1.1,q2];rfl
 ·obtain⟨e1,u1,u2,k1,k2,rfl⟩:=h
  obtain⟨a1,a2,a3⟩:=h1.semd a e1 u1 k1 ha;obtain⟨b1,b2,b3⟩:=h2.semd e1 e u2 k2 a2;refine⟨by omega,b2,λh=>?_⟩;rw[Bool.and_eq_false_iff] at h;rcases h with h|h
  ·have:=a3 h;omega
  ·have:=b3 h;omega
end
def z6d(x:List Int)(r:Rule):Sem:=λa e u=>goB x r.guards a=true/\e=a+r.eat.toNat/\u=FM x r.out r.guards a
section
variable {x:List Int}{f S:Nat}
theorem Lr(r:Rule)(hf:f<S)(h1:r.from_=(f:Nat))(h2:r.to_=(S:Nat))(h3:r.eat.toNat<=r.guards.length)(h4:Dk r=false->1<=r.eat.toNat):Good x (z6d x r) (Dk r) f S ([r],S+1,S):=by
 refine⟨Cr _,.inr ⟨Ad _,Nat.lt_succ_self _⟩,λh=>by simp only at h;omega,λq hq=>?_,λD hD a w ha=>?_,λl n C hC hl=>?_,λa e u h ha=>?_⟩
 ·rw[Am.1 hq]
  exact⟨f,S,h1,h2,.inl rfl,⟨Ad _,Nat.lt_succ_self _⟩,by simp only;omega⟩
 ·rw[I6]
  constructor
  ·rintro (⟨g,hg,k1,_⟩|⟨q,hq,k1,k2,v,k3,rfl⟩)
   ·have:=hD.fin g hg f k1 (.inl rfl)
    simp only at this;omega
   ·have:=hD.only q hq f k1 (.inl rfl) (by simp only;omega)
    obtain rfl:q=r:=by simpa using this
    rw[h2] at k3;exact⟨_,_,v,⟨k2,rfl,rfl⟩,k3,rfl⟩
  ·rintro⟨e,u,v,⟨k1,rfl,rfl⟩,k2,rfl⟩
   exact .inr ⟨r,hD.has r (by simp),h1,k1,v,by rw[h2];exact k2,rfl⟩
 ·have key:C (S:Nat)->Dk r=true/\C (f:Nat):=λh=>by
   obtain⟨_,q,hq,k1,k2,k3⟩:=hC _ h;have:=hl q hq S k2 (Ad _) (Nat.lt_succ_self _);obtain rfl:q=r:=by simpa using this
   rw[h1] at k3;exact⟨k1,k3⟩
  refine⟨λj h5 h6 h7=>?_,λ_ h7=>(key h7).1⟩;simp only at h6;obtain rfl:j=S:=by omega
  exact (key h7).2
 ·obtain⟨k1,rfl,rfl⟩:=h
  have:=JR k1;exact⟨CB _ _,by omega,λh=>by have:=h4 h;omega⟩
theorem N3{r:Rule}(hg:r.guards=[])(ho:r.out=[]){a:Nat}(ha:a<=x.length):goB x r.guards a=true/\FM x r.out r.guards a=[]:=by
 rw[hg,ho];refine⟨by simp[goB,ha],rfl⟩
structure EpsR(r:Rule)(a c:Nat):Prop where
 from_:r.from_=a
 to_:r.to_=c
 guards:r.guards=[]
 out:r.out=[]
 eat:r.eat=0
theorem EpsR.eps{r:Rule}{a c:Nat}(h:EpsR r a c):Dk r=true:=by simp[Dk,h.guards]
theorem W0{D:Desc}{r:Rule}{a c:Nat}(h:EpsR r a c)(hr:r∈D.rules)(h1:∀q∈D.rules,q.from_=(a:Nat)->q=r)(h2:∀g∈D.finals,g.from_≠(a:Nat)){at_:Nat}{w:List Int}(ha:at_<=x.length):RelW D x at_ (a:Nat) w↔RelW D x at_ (c:Nat) w:=by
 obtain⟨k1,k2⟩:=N3 (x:=x) h.guards h.out ha;rw[I6];constructor
 ·rintro (⟨g,hg,k3,_⟩|⟨q,hq,k3,k4,v,k5,rfl⟩)
  ·exact absurd k3 (h2 g hg)
  ·obtain rfl:=h1 q hq k3
   rw[k2,h.to_,h.eat] at *;simpa using k5
 ·intro hw
  refine .inr ⟨r,hr,h.from_,k1,w,?_,by rw[k2];rfl⟩;rw[h.to_,h.eat];simpa using hw
inductive Star(s:Sem):Sem where
 |nil (a:Nat):Star s a a []
 |cons {a e e2:Nat} {u v:List Int}:s a e u->Star s e e2 v->Star s a e2 (u++v)
theorem z6e{s:Sem}(h:∀a e u,s a e u->a<=x.length->a<=e/\e<=x.length){a e:Nat}{u:List Int}(hs:Star s a e u):a<=x.length->a<=e/\e<=x.length:=by
 induction hs with
 |nil a=>intro ha;exact⟨Ad _,ha⟩
 |cons h1 _ ih =>
  intro ha;have h2:=h _ _ _ h1 ha;have h3:=ih h2.2;omega
theorem z6f{s:Sem}{p:Pie}(r1 r2 r3 r4:Rule)(hf:f<S)(h:Good x s false (S+1) (S+2) p)(e1:EpsR r1 f S)(e2:EpsR r2 S (S+1))(e3:EpsR r3 p.2.2 S)(e4:EpsR r4 S p.2.1):
 Good x (Star s) true f S ([r1,r2]++p.1++[r3,r4],p.2.1+1,p.2.1):=by
 obtain⟨rs,S1,t⟩:=p;have m:=h.mono;have hto:=h.to_;have hd:=h.dom;have hne:t≠S+1:=λe=>by have:=(h.same e).2.1;cases this
 simp only[inP] at m hto hd e3 e4 hne;refine⟨by simp only;omega,.inr ⟨by simp only;omega,Nat.lt_succ_self _⟩,λh=>by simp only at h;omega,λq hq=>?_,λD hD a w ha=>?_,λl n C hC hl=>?_,λa e u hs ha=>?_⟩
 ·simp only[Ao,Af,Ai,Ap] at hq
  rcases hq with ((rfl|rfl)|hq)|(rfl|rfl)
  ·exact⟨f,S,e1.from_,e1.to_,.inl rfl,by simp only;omega,by simp only;omega⟩
  ·exact⟨S,S+1,e2.from_,e2.to_,.inr ⟨by omega,by simp only;omega⟩,by simp only;omega,by simp only;omega⟩
  ·obtain⟨a,c,k1,k2,k3,k4,k5⟩:=hd q hq
   exact⟨a,c,k1,k2,.inr (by simp only;omega),by simp only;omega,by simp only;omega⟩
  ·exact⟨t,S,e3.from_,e3.to_,.inr (by simp only;omega),by simp only;omega,by simp only;omega⟩
  ·exact⟨S,S1,e4.from_,e4.to_,.inr ⟨by omega,by simp only;omega⟩,by simp only;omega,by simp only;omega⟩
 ·-- where rules may come from
  have from_of:∀q∈D.rules,∀b:Nat,q.from_=(b:Nat)->(b=f\/(S<=b/\b<=S1))->b≠S1->(q=r1/\b=f)\/(q=r2/\b=S)\/q∈rs\/(q=r3/\b=t)\/(q=r4/\b=S):=λq hq b hb hb2 hb3=>by
   have h6:=hD.only q hq b hb (by simp only[inP];omega) hb3;simp only[Ao,Af,Ai,Ap] at h6;rcases h6 with ((rfl|rfl)|h6)|(rfl|rfl)
   ·exact .inl ⟨rfl,by have:=e1.from_;omega⟩
   ·exact .inr (.inl ⟨rfl,by have:=e2.from_;omega⟩)
   ·exact .inr (.inr (.inl h6))
   ·exact .inr (.inr (.inr (.inl ⟨rfl,by have:=e3.from_;omega⟩)))
   ·exact .inr (.inr (.inr (.inr ⟨rfl,by have:=e4.from_;omega⟩)))
  have nf:∀b:Nat,(b=f\/(S<=b/\b<=S1))->b≠S1->∀g∈D.finals,g.from_≠(b:Nat):=λb hb hb2 g hg hc=>by
   have:=hD.fin g hg b hc (by simp only[inP];omega);exact hb2 this
  have hH:Host D (S+1) (S+2) (rs,S1,t):=by
   refine⟨λq hq=>hD.has q (by simp[hq]),λq hq b hb hb2 hb3=>?_,λg hg b hb hb2=>?_⟩
   ·simp only[inP] at hb2 hb3
    rcases from_of q hq b hb (by omega) (by omega) with h6|h6|h6|h6|h6
    ·omega
    ·omega
    ·exact h6
    ·omega
    ·omega
   ·simp only[inP] at hb2 ⊢
    exact absurd hb (nf b (by omega) (by omega) g hg)
  have m1:r1∈D.rules:=hD.has r1 (by simp);have m2:r2∈D.rules:=hD.has r2 (by simp);have m3:r3∈D.rules:=hD.has r3 (by simp);have m4:r4∈D.rules:=hD.has r4 (by simp)
  have qf:∀{b w},b<=x.length->(RelW D x b (f:Nat) w↔RelW D x b (S:Nat) w):=λhb=>W0 e1 m1 (λq hq hqf=>by
   rcases from_of q hq f hqf (by omega) (by omega) with h6|h6|h6|h6|h6
   ·exact h6.1
   ·omega
   ·obtain⟨a',c',k1,k2,k3,k4,k5⟩:=hd q h6
    omega
   ·omega
   ·omega) (nf f (by omega) (by omega)) hb
  have qt:∀{b w},b<=x.length->(RelW D x b (t:Nat) w↔RelW D x b (S:Nat) w):=λhb=>W0 e3 m3 (λq hq hqf=>by
   rcases from_of q hq t hqf (by omega) (by omega) with h6|h6|h6|h6|h6
   ·omega
   ·omega
   ·obtain⟨a',c',k1,k2,k3,k4,k5⟩:=hd q h6
    omega
   ·exact h6.1
   ·omega) (nf t (by omega) (by omega)) hb
  have qh:∀{b w},b<=x.length->(RelW D x b (S:Nat) w↔RelW D x b (S+1:Nat) w\/RelW D x b (S1:Nat) w):=λ{b w} hb=>by
   obtain⟨k1,k2⟩:=N3 (x:=x) e2.guards e2.out hb;obtain⟨k3,k4⟩:=N3 (x:=x) e4.guards e4.out hb;rw[I6];constructor
   ·rintro (⟨g,hg,k5,_⟩|⟨q,hq,k5,k6,v,k7,rfl⟩)
    ·exact absurd k5 (nf S (by omega) (by omega) g hg)
    ·rcases from_of q hq S k5 (by omega) (by omega) with h6|h6|h6|h6|h6
     ·omega
     ·obtain⟨rfl,_⟩:=h6
      rw[k2];rw[e2.to_,e2.eat] at k7;exact .inl (by simpa using k7)
     ·obtain⟨a',c',z1,z2,z3,z4,z5⟩:=hd q h6
      omega
     ·omega
     ·obtain⟨rfl,_⟩:=h6
      rw[k4];rw[e4.to_,e4.eat] at k7;exact .inr (by simpa using k7)
   ·rintro (hw|hw)
    ·refine .inr ⟨r2,m2,e2.from_,k1,w,?_,by rw[k2];rfl⟩
     rw[e2.to_,e2.eat];simpa using hw
    ·refine .inr ⟨r4,m4,e4.from_,k3,w,?_,by rw[k4];rfl⟩
     rw[e4.to_,e4.eat];simpa using hw
  rw[qf ha]
  have fwd:∀(k b:Nat)(w:List Int),x.length-b<k->b<=x.length->RelW D x b (S:Nat) w->∃e u v,Star s b e u/\RelW D x e (S1:Nat) v/\w=u++v:=by
   intro k
   induction k with
   |zero=>intro b w hk;omega
   |succ k ih =>
    intro b w hk hb hw;rcases (qh hb).1 hw with hw|hw
    ·obtain⟨e,u,v,k1,k2,rfl⟩:=(h.rel D hH b w hb).1 hw
     obtain⟨z1,z2,z3⟩:=h.semd b e u k1 hb;have z3:=z3 rfl;obtain⟨e',u',v',k3,k4,rfl⟩:=ih e v (by omega) z2 ((qt z2).1 k2);exact⟨e',u++u',v',.cons k1 k3,k4,by rw[A3]⟩
    ·exact⟨b,[],w,.nil b,hw,rfl⟩
  have bwd:∀{b e:Nat}{u:List Int},Star s b e u->b<=x.length->∀v,RelW D x e (S1:Nat) v->RelW D x b (S:Nat) (u++v):=by
   intro b e u hs
   induction hs with
   |nil b=>intro hb v hv;exact (qh hb).2 (.inr hv)
   |cons h1 _ ih =>
    intro hb v hv;obtain⟨z1,z2,_⟩:=h.semd _ _ _ h1 hb;rw[A3];exact (qh hb).2 (.inl ((h.rel D hH _ _ hb).2 ⟨_,_,_,h1,(qt z2).2 (ih z2 v hv),rfl⟩))
  constructor
  ·intro hw
   exact fwd _ a w (Nat.lt_succ_self _) ha hw
  ·rintro⟨e,u,v,k1,k2,rfl⟩
   exact bwd k1 ha v k2
 ·have hin:∀q∈l,∀c:Nat,q.to_=(c:Nat)->S<=c->c<=S1->(q=r1/\c=S)\/(q=r2/\c=S+1)\/q∈rs\/(q=r3/\c=S)\/(q=r4/\c=S1):=λq hq c h3 h4 h5=>by
   have h6:=hl q hq c h3 h4 (by simp only;omega);simp only[Ao,Af,Ai,Ap] at h6;rcases h6 with ((rfl|rfl)|h6)|(rfl|rfl)
   ·exact .inl ⟨rfl,by have:=e1.to_;omega⟩
   ·exact .inr (.inl ⟨rfl,by have:=e2.to_;omega⟩)
   ·exact .inr (.inr (.inl h6))
   ·exact .inr (.inr (.inr (.inl ⟨rfl,by have:=e3.to_;omega⟩)))
   ·exact .inr (.inr (.inr (.inr ⟨rfl,by have:=e4.to_;omega⟩)))
  obtain⟨c1,c2⟩:=h.cyc l n C hC λq hq c h3 h4 h5=>by
   simp only at h5;rcases hin q hq c h3 (by omega) (by omega) with h6|h6|h6|h6|h6
   ·omega
   ·omega
   ·exact h6
   ·omega
   ·omega
  simp only at c1 c2
  have hub:C (S:Nat)->C (f:Nat):=λhC0=>by
   obtain⟨_,q,hq,k1,k2,k3⟩:=hC _ hC0;rcases hin q hq S k2 (by omega) (by omega) with h6|h6|h6|h6|h6
   ·rw[h6.1,e1.from_] at k3;exact k3
   ·omega
   ·obtain⟨a',c',z1,z2,z3,z4,z5⟩:=hd q h6
    omega
   ·rw[h6.1,e3.from_] at k3
    have:=c2 hne k3;cases this
   ·omega
  have inn:C (S+1:Nat)->C (f:Nat):=λhC0=>by
   obtain⟨_,q,hq,k1,k2,k3⟩:=hC _ hC0;rcases hin q hq (S+1) k2 (by omega) (by omega) with h6|h6|h6|h6|h6
   ·omega
   ·rw[h6.1,e2.from_] at k3;exact hub k3
   ·obtain⟨a',c',z1,z2,z3,z4,z5⟩:=hd q h6
    omega
   ·omega
   ·omega
  have out:C (S1:Nat)->C (f:Nat):=λhC0=>by
   obtain⟨_,q,hq,k1,k2,k3⟩:=hC _ hC0;rcases hin q hq S1 k2 (by omega) (by omega) with h6|h6|h6|h6|h6
   ·omega
   ·omega
   ·obtain⟨a',c',z1,z2,z3,z4,z5⟩:=hd q h6
    omega
   ·omega
   ·rw[h6.1,e4.from_] at k3;exact hub k3
  refine⟨λj h3 h4 h5=>?_,λ_ _=>rfl⟩;simp only at h4;by_cases j1:j=S
  ·rw[j1] at h5;exact hub h5
  by_cases j2:j=S+1
  ·rw[j2] at h5;exact inn h5
  by_cases j3:j=S1
  ·rw[j3] at h5;exact out h5
  exact inn (c1 j (by omega) (by omega) h5)
 ·have:=z6e (x:=x) (λa e u h1 h2=>by have:=h.semd a e u h1 h2;exact⟨this.1,this.2.1⟩) hs ha
  exact⟨this.1,this.2,λh=>by cases h⟩
end
structure AltG(x:List Int)(sem:Sem)(nl:Bool)(f t S:Nat)(rs:List Rule)(S':Nat):Prop where
 mono:S<=S'
 dom:∀r∈rs,∃a c:Nat,r.from_=a/\r.to_=c/\(a=f\/(S<=a/\a<S'))/\(c=t\/(S<=c/\c<S'))
 rel:∀D:Desc,(∀r∈rs,r∈D.rules)->(∀r∈D.rules,∀a:Nat,r.from_=a->S<=a->a<S'->r∈rs)->(∀g∈D.finals,∀a:Nat,g.from_=a->S<=a->a<S'->False)->∀at_ w,at_<=x.length ->
  ((∃r∈rs,r.from_=(f:Nat)/\goB x r.guards at_=true/\∃v,RelW D x (at_+r.eat.toNat) r.to_ v/\w=FM x r.out r.guards at_++v)↔∃e u v,sem at_ e u/\RelW D x e (t:Nat) v/\w=u++v)
 cyc:∀l n C,Yf l n C->(∀r∈l,∀c:Nat,r.to_=c->S<=c->c<S'->r∈rs)->(∀j:Nat,S<=j->j<S'->C j->C f)/\(∀r∈rs,Dk r=true->r.to_=(t:Nat)->C r.from_->nl=true/\C f)
 semd:∀at_ e u,sem at_ e u->at_<=x.length->at_<=e/\e<=x.length/\(nl=false->at_<e)
def noS:Sem:=λ_ _ _=>False
def orS(s t:Sem):Sem:=λa e u=>s a e u\/t a e u
section
variable {x:List Int}{f t S S':Nat}
theorem zjl:AltG x noS false f t S [] S:=by
 refine⟨Ad _,λr hr=>(by cases hr),λD _ _ _ a w ha=>?_,λl n C hC hl=>⟨λj h1 h2=>by omega,λr hr=>by cases hr⟩,λa e u h=>h.elim⟩;constructor
 ·rintro⟨r,hr,_⟩;cases hr
 ·rintro⟨e,u,v,h,_⟩;exact h.elim
theorem zcq{s1 s2:Sem}{n1 n2:Bool}{p:Pie}{rs:List Rule}(r1 r2:Rule)(hft:f<t)(hts:t<S)(h:Good x s1 n1 S (S+1) p)(e1:EpsR r1 f S)(e2:EpsR r2 p.2.2 t)(h2:AltG x s2 n2 f t p.2.1 rs S'):
 AltG x (orS s1 s2) (n1||n2) f t S (r1::p.1++r2::rs) S':=by
 obtain⟨ps,S1,t1⟩:=p;have m:=h.mono;have m2:=h2.mono;have hto:=h.to_;have hd:=h.dom;have hd2:=h2.dom;simp only[inP] at m m2 hto hd hd2 e2
 have mem:∀q,q∈r1::ps++r2::rs->q=r1\/q∈ps\/q=r2\/q∈rs:=λq hq=>by
  simp only[Ao,Af] at hq;rcases hq with (h|h)|h|h
  ·exact .inl h
  ·exact .inr (.inl h)
  ·exact .inr (.inr (.inl h))
  ·exact .inr (.inr (.inr h))
 have ef:=e1.from_;have et:=e1.to_;have gf:=e2.from_;have gt:=e2.to_;refine⟨by omega,λq hq=>?_,λD hD ho hF a w ha=>?_,λl n C hC hl=>?_,λa e u hs ha=>?_⟩
 ·rcases mem q hq with rfl|hq|rfl|hq
  ·exact⟨f,S,ef,et,.inl rfl,.inr (by omega)⟩
  ·obtain⟨a,c,k1,k2,k3,k4,k5⟩:=hd q hq
   exact⟨a,c,k1,k2,.inr (by omega),.inr (by omega)⟩
  ·exact⟨t1,t,gf,gt,.inr (by omega),.inl rfl⟩
  ·obtain⟨a,c,k1,k2,k3,k4⟩:=hd2 q hq
   refine⟨a,c,k1,k2,by omega,by omega⟩
 ·have hH:Host D S (S+1) (ps,S1,t1):=by
   refine⟨λq hq=>hD q (by simp[hq]),λq hq b hb hb2 hb3=>?_,λg hg b hb hb2=>?_⟩
   ·simp only[inP] at hb2 hb3
    rcases mem q (ho q hq b hb (by omega) (by omega)) with rfl|h6|rfl|h6
    ·omega
    ·exact h6
    ·omega
    ·obtain⟨a',c',k1,k2,k3,k4⟩:=hd2 q h6
     omega
   ·simp only[inP] at hb2
    exact (hF g hg b hb (by omega) (by omega)).elim
  have qt:∀{b w},b<=x.length->(RelW D x b (t1:Nat) w↔RelW D x b (t:Nat) w):=λhb=>W0 e2 (hD r2 (by simp)) (λq hq hqf=>by
   rcases mem q (ho q hq t1 hqf (by omega) (by omega)) with rfl|h6|h6|h6
   ·omega
   ·obtain⟨a',c',k1,k2,k3,k4,k5⟩:=hd q h6
    omega
   ·exact h6
   ·obtain⟨a',c',k1,k2,k3,k4⟩:=hd2 q h6
    omega) (λg hg hc=>hF g hg t1 hc (by omega) (by omega)) hb
  have hR:=h2.rel D (λq hq=>hD q (by simp[hq])) (λq hq b hb k1 k2=>by
   have k1:S1<=b:=k1;rcases mem q (ho q hq b hb (by omega) (by omega)) with rfl|h6|rfl|h6
   ·omega
   ·obtain⟨a',c',z1,z2,z3,z4,z5⟩:=hd q h6
    omega
   ·omega
   ·exact h6) (λg hg b hb k1 k2=>hF g hg b hb (by simp only at k1;omega) k2) a w ha
  obtain⟨k1,k2⟩:=N3 (x:=x) e1.guards e1.out ha;constructor
  ·rintro⟨q,hq,hqf,hgo,v,hv,rfl⟩
   rcases mem q hq with rfl|h6|rfl|h6
   ·rw[et,e1.eat] at hv
    rw[k2];obtain⟨e,u,v',z1,z2,rfl⟩:=(h.rel D hH a v ha).1 (by simpa using hv);exact⟨e,u,v',.inl z1,(qt (h.semd a e u z1 ha).2.1).1 z2,rfl⟩
   ·obtain⟨a',c',z1,z2,z3,z4,z5⟩:=hd q h6
    omega
   ·omega
   ·obtain⟨e,u,v',z1,z2,z3⟩:=hR.1 ⟨q,h6,hqf,hgo,v,hv,rfl⟩
    exact⟨e,u,v',.inr z1,z2,z3⟩
  ·rintro⟨e,u,v,hs|hs,hv,rfl⟩
   ·refine⟨r1,by simp,ef,k1,u++v,?_,by rw[k2];rfl⟩
    rw[et,e1.eat];have:=(h.rel D hH a (u++v) ha).2 ⟨e,u,v,hs,(qt (h.semd a e u hs ha).2.1).2 hv,rfl⟩;simpa using this
   ·obtain⟨q,hq,z1,z2,z3⟩:=hR.2 ⟨e,u,v,hs,hv,rfl⟩
    exact⟨q,by simp[hq],z1,z2,z3⟩
 ·obtain⟨c1,c2⟩:=h.cyc l n C hC λq hq c h3 h4 h5=>by
   simp only at h5;rcases mem q (hl q hq c h3 (by omega) (by omega)) with rfl|h6|rfl|h6
   ·omega
   ·exact h6
   ·omega
   ·obtain⟨a',c',k1,k2,k3,k4⟩:=hd2 q h6
    omega
  obtain⟨c3,c4⟩:=h2.cyc l n C hC λq hq c h3 h4 h5=>by
   simp only at h4;rcases mem q (hl q hq c h3 (by omega) h5) with rfl|h6|rfl|h6
   ·omega
   ·obtain⟨a',c',k1,k2,k3,k4,k5⟩:=hd q h6
    omega
   ·omega
   ·exact h6
  simp only at c1 c2 c3
  have inn:C (S:Nat)->C (f:Nat):=λhC0=>by
   obtain⟨_,q,hq,k1,k2,k3⟩:=hC _ hC0;rcases mem q (hl q hq S k2 (by omega) (by omega)) with rfl|h6|rfl|h6
   ·rw[ef] at k3;exact k3
   ·obtain⟨a',c',z1,z2,z3,z4,z5⟩:=hd q h6
    omega
   ·omega
   ·obtain⟨a',c',z1,z2,z3,z4⟩:=hd2 q h6
    omega
  refine⟨λj h3 h4 h5=>?_,λq hq h3 h4 h5=>?_⟩
  ·by_cases j1:j=S
   ·rw[j1] at h5;exact inn h5
   rcases Ak j S1 with h6|h6
   ·exact inn (c1 j (by omega) h6 h5)
   ·exact c3 j h6 h4 h5
  ·rcases mem q hq with rfl|h6|rfl|h6
   ·omega
   ·obtain⟨a',c',z1,z2,z3,z4,z5⟩:=hd q h6
    omega
   ·rw[gf] at h5
    by_cases e:t1=S
    ·rw[e] at h5
     have:=(h.same e).2.1;exact⟨by rw[this];rfl,inn h5⟩
    ·have k1:=c2 e h5
     exact⟨by rw[k1];rfl,inn (c1 t1 (by omega) (by omega) h5)⟩
   ·obtain⟨k1,k2⟩:=c4 q h6 h3 h4 h5
    exact⟨by rw[k1,Bool.or_true],k2⟩
 ·rcases hs with hs|hs
  ·obtain⟨z1,z2,z3⟩:=h.semd a e u hs ha
   exact⟨z1,z2,λhn=>z3 (by rw[Bool.or_eq_false_iff] at hn;exact hn.1)⟩
  ·obtain⟨z1,z2,z3⟩:=h2.semd a e u hs ha
   exact⟨z1,z2,λhn=>z3 (by rw[Bool.or_eq_false_iff] at hn;exact hn.2)⟩
theorem zcr{s:Sem}{nl:Bool}{rs:List Rule}(hft:f<t)(h:AltG x s nl f t (t+1) rs S'):Good x s nl f t (rs,S',t):=by
 have m:=h.mono;have hd:=h.dom;refine⟨by simp only;omega,.inr ⟨Ad _,by simp only;omega⟩,λe=>by simp only at e;omega,λq hq=>?_,λD hD a w ha=>?_,λl n C hC hl=>?_,h.semd⟩
 ·obtain⟨a,c,k1,k2,k3,k4⟩:=hd q hq
  refine⟨a,c,k1,k2,?_,by simp only;omega,by simp only;omega⟩;simp only[inP];omega
 ·rw[<-h.rel D hD.has (λq hq b hb k1 k2=>hD.only q hq b hb (.inr ⟨by omega,k2⟩) (by simp only;omega)) (λg hg b hb k1 k2=>by
   have:=hD.fin g hg b hb (.inr ⟨by omega,k2⟩)
   simp only at this;omega) a w ha,I6]
  constructor
  ·rintro (⟨g,hg,k1,_⟩|⟨q,hq,k1,k2⟩)
   ·have:=hD.fin g hg f k1 (.inl rfl)
    simp only at this;omega
   ·exact⟨q,hD.only q hq f k1 (.inl rfl) (by simp only;omega),k1,k2⟩
  ·rintro⟨q,hq,k1,k2⟩
   exact .inr ⟨q,hD.has q hq,k1,k2⟩
 ·obtain⟨c1,c2⟩:=h.cyc l n C hC λq hq c h3 h4 h5=>hl q hq c h3 (by omega) h5
  have key:C (t:Nat)->nl=true/\C (f:Nat):=λhC0=>by
   obtain⟨_,q,hq,k1,k2,k3⟩:=hC _ hC0;exact c2 q (hl q hq t k2 (Ad _) (by simp only;omega)) k1 k2 k3
  refine⟨λj h3 h4 h5=>?_,λ_ h5=>(key h5).1⟩;by_cases j1:j=t
  ·rw[j1] at h5;exact (key h5).2
  ·exact c1 j (by omega) h4 h5
end
section
variable {α:Type}(w:Nat)(e:α->AV)
def gG(v:Nat)(l:List α):Grp:=⟨w,v,l.isEmpty,l.map e⟩
def fF(n:Nat)(V:Nat->Nat)(D:Nat->List α):List Grp:=(List.range n).map λi=>gG w e (V i) (D i)
def fT(o n:Nat)(V:Nat->Nat)(D:Nat->List α):List AV:=(List.range n).map λi=>AV.ref (i+o) (V i) 0 (D i).length
def fD(n:Nat)(D:Nat->List α):List AV:=(List.range n).map λi=>AV.lst w ((D i).map e)
def setD(D:Nat->List α)(i:Nat)(l:List α)(p:Nat):List α:=if p=i then l else D p
variable {w e}{n o i:Nat}{V:Nat->Nat}{D:Nat->List α}
theorem QR:(fF w e n V D).length=n:=by simp[fF]
theorem zf7:(fT o n V D).length=n:=by simp[fT]
theorem Y9:(fD w e n D).length=n:=by simp[fD]
theorem zcs(h:i<n):(fF w e n V D).getD i default=gG w e (V i) (D i):=CU h
theorem zo6{z:AV}(h:i<n):(fT o n V D).getD i z=.ref (i+o) (V i) 0 (D i).length:=CU h
theorem zct{z:AV}(h:i<n):(fD w e n D).getD i z=.lst w ((D i).map e):=CU h
theorem YA(h:i<n):(fD w e n D)[i]? = some (.lst w ((D i).map e)):=by simp[fD,h]
theorem E6(he:∀x,(e x).pure=true)(l:List α):Bh (l.map e)=true:=BZ.2 λx hx=>by
 obtain⟨y,_,rfl⟩:=Ax.1 hx;exact he y
theorem Gf(he:∀x,(e x).pure=true):Bh (fD w e n D)=true:=BZ.2 λx hx=>by
 obtain⟨i,_,rfl⟩:=Ax.1 hx;exact E6 he _
theorem zf8{l:List α}(h:i<n):(fT o n V D).set i (.ref (i+o) (V i+1) 0 l.length)=fT o n (setV V i (V i+1)) (setD D i l):=by
 rw[fT,E5 h,fT];refine AT λj _=>?_;by_cases hj:j=i
 ·subst hj;simp[setV,setD]
 ·simp[setV,setD,hj]
theorem zf9{l:List α}(hl:l≠[])(h:i<n):(fF w e n V D).set i ⟨w,V i+1,false,l.map e⟩=fF w e n (setV V i (V i+1)) (setD D i l):=by
 rw[fF,E5 h,fF];refine AT λj _=>?_;by_cases hj:j=i
 ·subst hj
  cases l with
  |nil=>exact absurd rfl hl
  |cons a l=>simp[setV,setD,gG]
 ·simp[setV,setD,hj,gG]
theorem zjm(l:List α):(!l.isEmpty||(l.map e).isEmpty)=true:=by cases l<;>rfl
theorem zfa{F R:List Grp}(hF:F.length=n)(h:i<n):(F++R).getD i default=F.getD i default:=by
 rw[As,A9 (by omega),<-As]
theorem zjn{F R:List Grp}(hF:F.length=n)(k:Nat):(F++R).getD (n+k) default=R.getD k default:=by
 rw[As,AD (by omega),<-As];congr 1;omega
theorem N4{F R:List Grp}(hF:F.length=n):(F++R).getD n default=R.getD 0 default:=by
 have:=zjn (R:=R) hF 0;simpa using this
theorem W2{G:Grp}:∀{F R:List Grp}{i:Nat},i<F.length->setQ (F++R) i G=some (F.set i G++R)
 |[],_,_,h=>by simp at h
 |a::F,R,0,h=>rfl
 |a::F,R,i+1,h=>by rw[List.cons_append,setQ,W2 (by simpa using h)];rfl
theorem YB{G:Grp}:∀(F R:List Grp){n:Nat}(k:Nat),F.length=n->setQ (F++R) (n+k) G=(setQ R k G).map (F++·)
 |[],R,n,k,h=>by
  obtain rfl:n=0:=by simpa using h.symm
  rw[Bb,List.nil_append];cases setQ R k G<;>rfl
 |a::F,R,n,k,h=>by
  obtain⟨m,rfl⟩:∃m,n=m+1:=⟨n-1,by simp at h;omega⟩;rw[show m+1+k=m+k+1 by omega,List.cons_append,setQ,YB F R k (by simpa using h)];cases setQ R k G<;>rfl
theorem UR{G:Grp}(F R:List Grp){n:Nat}(h:F.length=n):setQ (F++R) n G=(setQ R 0 G).map (F++·):=by
 have:=YB (G:=G) F R 0 h;simpa using this
theorem YC{ks:List Nat}{F R:List Grp}{G:Grp}{p i:Nat}(hi:i<F.length)(h:p+i∈ks):Df p ks (F++R) (F.set i G++R):=by
 rw[<-EP _ _ hi];exact Kw h
theorem zo7:fF w e n (λ_=>1) (λ_=>[])=(List.replicate n w).map IG:=by
 rw[Dm];refine Cm (by simp[fF]) λi h1 h2=>?_;simp only[fF,EJ,Ej,List.getElem_replicate];rfl
theorem zjo{l:List Grp}{o n:Nat}(hw:0<w)(h:∀i,i<n->l.getD (i+o) default=IG w/\i+o<l.length):leSL l (List.replicate n .nilS) (fT o n (λ_=>1) λ_=>([]:List α)):=by
 have key:∀idx:List Nat,(∀i∈idx,i<n)->leSL l (List.replicate idx.length .nilS) (idx.map λi=>AV.ref (i+o) 1 0 0):=λidx=>by
  induction idx with
  |nil=>exact λ_=>rfl
  |cons i idx ih =>
   intro hi;obtain⟨h1,h2⟩:=h i (hi i (by simp));refine⟨?_,ih λj hj=>hi j (by simp[hj])⟩;show 0=0/\0=0/\(l.getD (i+o) default).ver=1/\0<(l.getD (i+o) default).w/\(l.getD (i+o) default).xs=[]/\(l.getD (i+o) default).exact=true/\i+o<l.length;rw[h1];exact⟨rfl,rfl,rfl,hw,rfl,rfl,h2⟩
 have:=key (List.range n) λi hi=>by simpa using hi
 rwa [CP] at this
theorem zfb{m o:Nat}(h:n+o<=m):ltL m (fT o n V D):=by
 have key:∀(l:List Nat),(∀i∈l,i<n)->ltL m (l.map λi=>AV.ref (i+o) (V i) 0 (D i).length):=λl=>by
  induction l with
  |nil=>exact λ_=>trivial
  |cons i l ih =>
   intro h';exact⟨by have:=h' i (by simp);show i+o<_;omega,ih λj hj=>h' j (by simp[hj])⟩
 exact key _ λi hi=>by simpa using hi
theorem zfc{m:Nat}(he:∀x,(e x).pure=true):∀G∈fF w e n V D,ltL m G.xs:=λG hG=>by
 obtain⟨i,_,rfl⟩:=Ax.1 hG;exact CK _ _ (E6 he _)
theorem QS(l0:List Grp){G':Grp}:∀{l:List Grp}{t:Nat},t<l.length->z3c l0 (l.getD t default) G'->HJ l0 l (l.set t G')
 |[],_,h,_=>by simp at h
 |a::l,0,_,h=>⟨h,Kx l0 l⟩
 |a::l,t+1,hl,h=>⟨⟨rfl,rfl,id,By _ _⟩,QS l0 (by simpa using hl) (by simpa using h)⟩
theorem z6g{m b t v:Nat}{env:Env}{l:List Grp}{ex:Bool}(hw:0<w)(ht:t<l.length)(hg:l.getD t default=⟨1,v,ex,List.replicate n .nilS⟩):
 Ent m b env (Abs.hl l) env (Abs.hl (l.set t ⟨1,v,ex,fT l.length n (λ_=>1) λ_=>([]:List α)⟩++fF w e n (λ_=>1) λ_=>[])):=by
 refine (RO (List.replicate n w) (λx hx=>by have:=(List.mem_replicate.1 hx).2;omega)).trans (TZ ?_ λi _=>EL _ _);rw[zo7,<-EP _ _ ht];refine QS _ (by simp;omega) ?_;rw[As,A9 ht,<-As,hg];refine⟨rfl,rfl,id,zjo hw λi hi=>⟨?_,by simp;omega⟩⟩;rw[As,AD (by omega),Dm];simp[hi]
def fKs(t o n:Nat):List Nat:=t::(List.range n).map (·+o)
theorem z6h{t i:Nat}(h:i<n):i+o∈fKs t o n:=Af.2 (.inr (Ax.2 ⟨i,Bq.2 h,rfl⟩))
theorem Ky{t g:Nat}(h:g≠t)(h2:g<o\/o+n<=g):g∉fKs t o n:=λhh=>by
 rcases Af.1 hh with hh|hh
 ·exact h hh
 ·obtain⟨i,hi,rfl⟩:=Ax.1 hh
  have:=Bq.1 hi;omega
theorem z6i{H:A5}{t v:Nat}(hw:0<w)(he:∀x,(e x).pure=true)(h1:H.at_ t=⟨1,v,true,fT o n V D⟩)(h2:∀i,i<n->H.at_ (i+o)=gG w e (V i) (D i)):
 CJ 2 (H.only (fKs t o n)) (.ref t v 0 n)/\frzV 2 (H.only (fKs t o n)) (.ref t v 0 n)=.lst 1 (fD w e n D):=by
 have hat1:(H.only (fKs t o n)).at_ t=⟨1,v,true,fT o n V D⟩:=by
  show (if t∈fKs t o n then H.at_ t else (H.at_ t).dead)=_;rw[Ae (by simp[fKs]),h1]
 have hat:∀i,i<n->(H.only (fKs t o n)).at_ (i+o)=gG w e (V i) (D i):=λi hi=>by
  show (if i+o∈fKs t o n then H.at_ (i+o) else (H.at_ (i+o)).dead)=_;rw[Ae (z6h hi),h2 i hi]
 have htl:(((fT o n V D).drop 0).take n)=fT o n V D:=by
  rw[B6];exact Az (by simp[fT])
 have hz:∀x,frzV 0 (H.only (fKs t o n)) x=x:=λx=>rfl;constructor
 ·refine⟨by rw[hat1],by rw[hat1];exact Nat.one_pos,by rw[hat1];simp[fT],λy hy=>?_⟩
  rw[hat1,htl] at hy;obtain⟨i,hi,rfl⟩:=Ax.1 hy;have hi':i<n:=by simpa using hi
  refine⟨by rw[hat i hi'];rfl,by rw[hat i hi'];exact hw,by rw[hat i hi'];simp[gG],λz hz=>?_⟩;rw[hat i hi'] at hz;obtain⟨u,_,rfl⟩:=Ax.1 (BF (B8 hz));exact he u
 ·show AV.lst _ _=_
  rw[hat1,htl,fT,CH];congr 1;refine AT λi hi=>?_;have hi':i<n:=by simpa using hi
  show AV.lst _ _=_;rw[hat i hi']
  have e1:(((gG w e (V i) (D i)).xs.drop 0).take (D i).length).map (frzV 0 (H.only (fKs t o n)))=(D i).map e:=by
   rw[B6,Az (by simp[gG])];refine (AT λx hx=>?_).trans (Gl _);exact hz x
  rw[e1];rfl
theorem z6j{F:List Grp}{t o:Nat}:∀{i:Nat},(∀j,j<F.length->i+j∈fKs t o n)->Ee i (fKs t o n) F=F.map Grp.dead:=by
 induction F with
 |nil=>intro i _;rfl
 |cons G F ih =>
  intro i h
  rw[Ee,Ae (by have:=h 0 (by simp);simpa using this),AR,ih λj hj=>by
   have:=h (j+1) (by simpa using hj)
   rwa [show i+1+j=i+(j+1) by omega]]
theorem US(ks:List Nat):∀(i:Nat)(l r:List Grp),Ee i ks (l++r)=Ee i ks l++Ee (i+l.length) ks r
 |i,[],r=>by simp[Ee]
 |i,G::l,r=>by
  rw[List.cons_append,Ee,Ee,US ks (i+1) l r,List.cons_append,List.length_cons,show i+1+l.length=i+(l.length+1) by omega]
end
def YD(m:Nat)(env:Env):List (Nat × AV)->Prop
 |[]=>True
 |(t,y)::r=>env t=y/\ltV m y/\YD m env r
theorem QT{m:Nat}{env:Env}:∀{L:List (Nat × AV)},YD m env L->∀p∈L,env p.1=p.2
 |[],_,p,hp=>by cases hp
 |(t,y)::r,h,p,hp=>by
  rcases Af.1 hp with rfl|hp
  ·exact h.1
  ·exact QT h.2.2 p hp
theorem UT{m:Nat}{env:Env}:∀{L:List (Nat × AV)},YD m env L->∀i,ltV m (EB L i)
 |[],_,i=>trivial
 |(t,y)::r,h,i=>by
  show ltV m (if i=t then y else EB r i);split
  ·exact h.2.1
  ·exact UT h.2.2 i
theorem Gs{n b:Nat}{env:Env}{l l0 gar:List Grp}(L:List (Nat × AV))(hl':l=l0++gar)(hb:b<=l0.length)(hcl:∀G∈l0,ltL l0.length G.xs)(hL:YD l0.length env L):Ent n b env (Abs.hl l) (EB L) (Abs.hl l0):=by
 subst hl';exact (Nu L (QT hL)).trans (Og hb hcl λi _=>UT hL i)
theorem DG{P:Program}{f:Nat}{xs:List AV}{l:List Grp}{K:AV->A5->Prop}(h:B3 P f xs (Abs.hl l) (λy H'=>∃y' H'',Ent 1 l.length (λ_=>y) H' (λ_=>y') H''/\K y' H'')):B3 P f xs (Abs.hl l) K :=
 ⟨h.1,λS cargs hS hx=>(h.2 S cargs hS hx).mono λe w' hh=>by
  obtain⟨v,S1,y,H',he,hw,ev,hS1,hv,y',H'',h1,h2⟩:=hh;have hn:S.n=l.length:=hS.n;obtain⟨S2,q1,q2,q3,q4⟩:=h1 S1 (λ_=>v) (by rw[<-hn];exact ev.n) hS1 (λi _=>hv);have hb:=(ev.down (b:=l.length) (by omega)).trans q2
  exact⟨v,S2,y',_,he,q1.trans hw,⟨hb.base,hb.os,hb.tape,hb.output,hb.size,hb.kept,hb.im,hb.keep,hb.fresh,by rw[hn];exact hb.n,λg hg=>hb.cur g (by omega),λg hg=>hb.same g (by omega)⟩,q3,q4 0 Nat.one_pos,h2⟩⟩
theorem GV{b:Nat}{y:AV}{l l0 gar:List Grp}(hl':l=l0++gar)(hb:b<=l0.length)(hcl:∀G∈l0,ltL l0.length G.xs)(hy:ltV l0.length y):Ent 1 b (λ_=>y) (Abs.hl l) (λ_=>y) (Abs.hl l0):=by
 subst hl';exact Og hb hcl λi _=>hy
theorem z6k{P:Program}{f:Nat}{xs:List AV}{l l0 extra:List Grp}{K0 K:AV->A5->Prop}(hl':l=l0++extra)(h:B3 P f xs (Abs.hl l0) K0)(hlt:ltL l0.length xs)(hltG:∀G∈l0,ltL l0.length G.xs)
 (hK:∀y H',K0 y H'->∃l',H'=Abs.hl l'/\l'.length=l0.length/\ltV l0.length y/\(∀G∈l',ltL l0.length G.xs)/\@nx y (Abs.hl (l'++extra)) ⟨K⟩):@KD P f xs (Abs.hl l) ⟨K⟩:=by
 subst hl';exact z56 h hlt hltG hK
end Go.Proofs.YtflibbceibjddaaGreat
namespace Go.Proofs.YtflibbceibjddaaGreat.Abs
def Frz1(d:Nat)(H:A5)(ks:List Nat)(x y:AV):Prop:=y=x\/(CJ d (H.only ks) x/\y=frzV d (H.only ks) x)
def FrzL(d:Nat)(H:A5)(ks:List Nat):List AV->List AV->Prop
 |[],ys=>ys=[]
 |x::xs,ys=>∃y r,ys=y::r/\Frz1 d H ks x y/\FrzL d H ks xs r
def Frz2(d:Nat)(H:A5)(ks:List Nat)(x y:AV):Prop:=Frz1 d H ks x y\/∃cs ds,x=.agg cs/\y=.agg ds/\FrzL d H ks cs ds
def FrzM(d:Nat)(H:A5)(ks:List Nat):List AV->List AV->Prop
 |[],ys=>ys=[]
 |x::xs,ys=>∃y r,ys=y::r/\Frz2 d H ks x y/\FrzM d H ks xs r
theorem FrzM.len{d:Nat}{H:A5}{ks:List Nat}:∀{xs ys:List AV},FrzM d H ks xs ys->ys.length=xs.length
 |[],_,h=>by rw[show _=[] from h]
 |x::xs,_,⟨y,r,rfl,_,h⟩=>by simp[FrzM.len h]
theorem Frz1.rel{d:Nat}{H:A5}{ks:List Nat}{S:MS}(hS:SRel S H){x y:AV}{v:Value}(h:Frz1 d H ks x y)(hv:VRel S x v):VRel (S.kill H ks) y v:=by
 rcases h with rfl|⟨h1,rfl⟩
 ·exact VRel.mono (FV ks hS) _ hv
 ·exact Jy ks hS d h1 hv
theorem FrzL.rel{d:Nat}{H:A5}{ks:List Nat}{S:MS}(hS:SRel S H):∀{xs ys:List AV}{vs:List Value},FrzL d H ks xs ys->AB S xs vs->AB (S.kill H ks) ys vs
 |[],_,_,h,hv=>by rw[show _=[] from h];exact hv
 |x::xs,_,_,⟨y,r,rfl,h1,h2⟩,⟨u,q,rfl,k1,k2⟩=>⟨u,q,rfl,h1.rel hS k1,FrzL.rel hS h2 k2⟩
theorem Frz2.rel{d:Nat}{H:A5}{ks:List Nat}{S:MS}(hS:SRel S H){x y:AV}{v:Value}(h:Frz2 d H ks x y)(hv:VRel S x v):VRel (S.kill H ks) y v:=by
 rcases h with h|⟨cs,ds,rfl,rfl,h⟩
 ·exact h.rel hS hv
 ·obtain⟨vs,rfl,hvs⟩:=hv
  exact⟨vs,rfl,h.rel hS hvs⟩
theorem FrzM.rel{d:Nat}{H:A5}{ks:List Nat}{S:MS}(hS:SRel S H):∀{xs ys:List AV}{vs:List Value},FrzM d H ks xs ys->AB S xs vs->AB (S.kill H ks) ys vs
 |[],_,_,h,hv=>by rw[show _=[] from h];exact hv
 |x::xs,_,_,⟨y,r,rfl,h1,h2⟩,⟨u,q,rfl,k1,k2⟩=>⟨u,q,rfl,h1.rel hS k1,FrzM.rel hS h2 k2⟩
theorem FrzM.refl{d:Nat}{H:A5}{ks:List Nat}:∀(xs:List AV),FrzM d H ks xs xs
 |[]=>rfl
 |x::xs=>⟨x,xs,rfl,.inl (.inl rfl),FrzM.refl xs⟩
theorem FrzM.set{d:Nat}{H:A5}{ks:List Nat}{y:AV}:∀{xs:List AV}{i:Nat},i<xs.length->Frz2 d H ks (xs.getD i .any) y->FrzM d H ks xs (xs.set i y)
 |[],_,h,_=>by simp at h
 |x::xs,0,_,h=>⟨y,xs,rfl,h,FrzM.refl xs⟩
 |x::xs,i+1,hi,h=>⟨x,_,rfl,.inl (.inl rfl),FrzM.set (by simpa using hi) (by simpa using h)⟩
theorem Ls{n b:Nat}{env:Env}{l l':List Grp}{g w v d:Nat}{ex:Bool}{xs ys:List AV}(ks:List Nat)(hw:0<w)(hlt:g<l.length)(hg:l.getD g default=⟨w,v,ex,xs⟩)(hk:g∉ks)
 (hxy:FrzM d (hl l) ks xs ys) (hl':(Ee 0 ks l).set g ⟨w,v,ex,ys⟩=l'):Ent n b env (hl l) env (hl l'):=λS val hb hS hv=>by
 subst hl';have hS1:=Jw ks hS;have he:=FV ks hS;refine⟨S.kill (hl l) ks,rfl,he.down hb,?_,λi hi=>VRel.mono he _ (hv i hi)⟩;have hlk:g<(Ee 0 ks l).length:=by rw[FO];exact hlt
 have hat0:∀j,j<l.length->((hl l).kill ks).at_ j=(Ee 0 ks l).getD j default:=λj hj=>by
  rw[Hs 0 ks l j hj,Bb];rfl
 have hn:(hl ((Ee 0 ks l).set g ⟨w,v,ex,ys⟩)).n=((hl l).kill ks).n:=by simp[hl,A5.kill,FO]
 have hlen:((hl l).kill ks).n=l.length:=rfl
 have hat:∀j,j<l.length->(hl ((Ee 0 ks l).set g ⟨w,v,ex,ys⟩)).at_ j=if j=g then ⟨w,v,ex,ys⟩ else ((hl l).kill ks).at_ j:=λj hj=>by
  rw[Dr];by_cases e:j=g
  ·subst e;rw[Ae rfl];exact Kd _ hlk
  ·rw[Ab e,hat0 j hj];exact GC _ (De e)
 have hgk:((hl l).kill ks).at_ g=⟨w,v,ex,xs⟩:=by
  show (if g∈ks then _ else _)=_;rw[Ab hk,Dr,hg]
 have h1:GRel (S.kill (hl l) ks) ⟨w,v,ex,xs⟩ g:=by have:=hS1.grp g (by rw[hlen];exact hlt);rwa [hgk] at this
 have h0:GRel S ⟨w,v,ex,xs⟩ g:=by have:=hS.grp g hlt;rwa [Dr,hg] at this
 have hly:=hxy.len
 have hG:GRel (S.kill (hl l) ks) ⟨w,v,ex,ys⟩ g:=by
  refine⟨h1.ver,h1.wid,λ_ hc=>?_,λhh=>by show ys.length<=_;rw[hly];exact h1.len hh,λhh he=>by show ys.length=_;rw[hly];exact h1.full hh he,λhh=>by simp only at hh;omega⟩;obtain⟨⟨cells,TT,vs,a1,a2,a3,a4⟩,_⟩:=h0.live hw hc;exact⟨⟨cells,TT,vs,a1,a2,hxy.rel hS a3,a4⟩,(h1.live hw hc).2⟩
 have hhas:∀j,j<l.length->((hl ((Ee 0 ks l).set g ⟨w,v,ex,ys⟩)).at_ j).has ((S.kill (hl l) ks).cap j)->(((hl l).kill ks).at_ j).has ((S.kill (hl l) ks).cap j):=λj hj h=>by
  rw[hat j hj] at h;by_cases e:j=g
  ·subst e;rw[Ae rfl] at h;rw[hgk];exact h
  ·rw[Ab e] at h;exact h
 refine⟨hS1.n.trans hn.symm,λj hj=>?_,λj j' a c hne p q=>hS1.apart j j' (by rwa [hn] at a) (by rwa [hn] at c) hne (hhas j (by rwa [hn] at a) p) (hhas j' (by rwa [hn] at c) q),hS1.im⟩;rw[hn] at hj;rw[hat j hj];by_cases e:j=g
 ·subst e;rw[Ae rfl];exact hG
 ·rw[Ab e];exact hS1.grp j hj
end Go.Proofs.YtflibbceibjddaaGreat.Abs
namespace Go.Proofs.YtflibbceibjddaaGreat
open Abs O1 O2 O3
theorem zcu{m b:Nat}{env:Env}{l l':List Grp}(i g w v n:Nat){ex:Bool}{X:List AV}(hw:0<w)(hlt:g<l.length)(hg:l.getD g default=⟨w,v,ex,X⟩)(pX:Bh X=true)(hn:X.length=n)(hi:env i=.ref g v 0 n)(hl':Ee 0 [g] l=l'):
 Ent m b env (Abs.hl l) (env.put (some i) (.lst w X)) (Abs.hl l'):=by
 subst hl' hn
 have hat:((Abs.hl l).only [g]).at_ g=⟨w,v,ex,X⟩:=by
  show (if g∈[g] then _ else _)=_;rw[Ae (by simp),Dr,hg]
 have hpz:=FN ((Abs.hl l).only [g]) 0 pX
 have f1:CJ 1 ((Abs.hl l).only [g]) (.ref g v 0 X.length):=by
  simp only[CJ];rw[hat];simp only[B6,A7];exact⟨trivial,hw,by omega,hpz.1⟩
 have f2:frzV 1 ((Abs.hl l).only [g]) (.ref g v 0 X.length)=.lst w X:=by
  simp only[frzV];rw[hat];simp[frzV]
 rw[<-hi] at f1 f2;have:=VF (n:=m) (b:=b) i 1 [g] f1;rw[f2] at this;refine this.trans (Pb (by simp[A5.kill,hl_n,FO]) λj hj=>?_);rw[Dr,Hs 0 [g] l j hj,Bb];rfl
def mkH(S:Nat)(R:List Rule)(v:Nat):List Grp:=[⟨6,1,true,[.agg [.int .i64 2,.int .i64 2,.int .i64 S,.int .i64 0,.ref 1 v 0 R.length,.nilS]]⟩,⟨5,v,false,R.map Hp⟩]
theorem If{S:Nat}{R:List Rule}{v:Nat}:∀G∈mkH S R v,ltL 2 G.xs:=λG hG=>by
 simp only[mkH,Af,Ai,Ap] at hG;rcases hG with rfl|rfl
 ·exact⟨⟨trivial,trivial,trivial,trivial,(show 1<2 by omega),trivial,trivial⟩,trivial⟩
 ·exact CK _ _ (BO R)
def CW(a b:Int)(s:List Span)(out:List Term):Rule:=if 0<s.length then ⟨a,b,[s],1,out⟩ else ⟨a,b,[],0,out⟩
def G6(S:Nat)(R:List Rule):Bool:=decide (1024<S)||decide ((4096:Int)<R.length)
theorem EE(S:Nat)(R:List Rule)(v:Nat)(hS:S<=1000000000):B3 Tryz.prog 86 [.ptr 0 1 0 0] (Abs.hl (mkH S R v)) λy H'=>y=.int .i64 S/\H'=Abs.hl (mkH (S+1) R v):=by
 have pR:=BO R;unfold mkH;refine GA (b:=2) KP rfl ?_;unfold Hu;(with_reducible repeat'(first|simp(disch:=omega)only[push_cast,↓zz,seval,pR]|refine sp_ ?_ ?_<;>try(intro hc;push_cast at hc)|omega|intro _))
 all_goals first|omega
theorem Fo(S:Nat)(R:List Rule)(v:Nat):B3 Tryz.prog 48 [.ptr 0 1 0 0] (Abs.hl (mkH S R v)) λy H'=>y=.bool (G6 S R)/\H'=Abs.hl (mkH S R v):=by
 have pR:=BO R;unfold mkH G6;refine GA (b:=2) LL rfl ?_;unfold HN;by_cases h:1024<S
 ·rw[AE h]
  (with_reducible repeat'(first|simp(disch:=omega)only[push_cast,↓zz,seval,pR]|refine sp_ ?_ ?_<;>try(intro hc;push_cast at hc)|omega|intro _))
  all_goals first|omega
 ·rw[Bc h]
  (with_reducible repeat'(first|simp(disch:=omega)only[push_cast,↓zz,seval,pR]|refine sp_ ?_ ?_<;>try(intro hc;push_cast at hc)|omega|intro _))
  all_goals first|omega
theorem W3{k b:Nat}{env:Env}{A B:Grp}{x1 x2 x4 x5:AV}{e:Bool}{X:List AV}{n:Nat}(hn:X.length=n)(pX:Bh X=true):
 Ent k b env (Abs.hl [A,B,⟨5,1,true,[.agg [x1,x2,.ref 4 1 0 1,x4,x5]]⟩,⟨2,2,e,X⟩,⟨1,1,true,[.ref 3 2 0 n]⟩]) env
  (Abs.hl [A,B,⟨5,1,true,[.agg [x1,x2,.lst 1 [.lst 2 X],x4,x5]]⟩,⟨0,3,false,[]⟩,⟨0,2,false,[]⟩]):=by
 subst hn;generalize hl:([A,B,⟨5,1,true,[.agg [x1,x2,.ref 4 1 0 1,x4,x5]]⟩,⟨2,2,e,X⟩,⟨1,1,true,[.ref 3 2 0 X.length]⟩]:List Grp)=l;have h4:((Abs.hl l).only [3,4]).at_ 4=⟨1,1,true,[.ref 3 2 0 X.length]⟩:=by subst hl;rfl
 have h3:((Abs.hl l).only [3,4]).at_ 3=⟨2,2,e,X⟩:=by subst hl;rfl
 have hpz:=FN ((Abs.hl l).only [3,4]) 0 pX
 have o3:CJ 1 ((Abs.hl l).only [3,4]) (.ref 3 2 0 X.length):=by
  simp only[CJ];rw[h3];simp only[B6,A7];exact⟨trivial,by decide,by omega,hpz.1⟩
 have v3:frzV 1 ((Abs.hl l).only [3,4]) (.ref 3 2 0 X.length)=.lst 2 X:=by
  simp only[frzV];rw[h3];simp[frzV]
 have o4:CJ 2 ((Abs.hl l).only [3,4]) (.ref 4 1 0 1):=by
  rw[CJ,h4];refine⟨rfl,Nat.one_pos,Ad _,λy hy=>?_⟩;have:y=.ref 3 2 0 X.length:=by simpa using hy
  rw[this];exact o3
 have v4:.lst 1 [.lst 2 X]=frzV 2 ((Abs.hl l).only [3,4]) (.ref 4 1 0 1):=by
  rw[frzV,h4];simp[v3]
 refine Ls (g:=2) (w:=5) (v:=1) (d:=2) (ex:=true) (xs:=[.agg [x1,x2,.ref 4 1 0 1,x4,x5]]) (ys:=[.agg [x1,x2,.lst 1 [.lst 2 X],x4,x5]]) [3,4] (by decide) (by subst hl;simp) (by subst hl;rfl) (by decide) ?_ ?_
 ·exact⟨_,[],rfl,.inr ⟨_,_,rfl,rfl,_,_,rfl,.inl rfl,_,_,rfl,.inl rfl,_,_,rfl,.inr ⟨o4,v4⟩,_,_,rfl,.inl rfl,_,_,rfl,.inl rfl,rfl⟩,rfl⟩
 ·subst hl;rfl
theorem JB(S:Nat)(R:List Rule)(v:Nat)(a c:Int)(s:List Span)(out:List Term)(hs:s.length<=1000000)(hR:R.length<=1000000):
 B3 Tryz.prog 87 [.ptr 0 1 0 0,.int .i64 a,.int .i64 c,Bg s,GG out] (Abs.hl (mkH S R v)) λy H'=>y=.tup []/\∃v',H'=Abs.hl (mkH S (R++[CW a c s out]) v'):=by
 have pR:=BO R;have ps:=Cd s;have pO:=Ct out;have hfin:mkH S (R++[CW a c s out]) (v+1)=[⟨6,1,true,[.agg [.int .i64 2,.int .i64 2,.int .i64 S,.int .i64 0,.ref 1 (v+1) 0 (R.length+1),.nilS]]⟩,⟨5,v+1,false,R.map Hp++[Hp (CW a c s out)]⟩]:=by simp[mkH]
 have hcl:=If (S:=S) (R:=R++[CW a c s out]) (v:=v+1);refine DG (GD LR (BG (W_T ?_)));unfold mkH;(with_reducible repeat'(first|simp(disch:=omega)only[push_cast,↓zz,seval,pR,ps,pO]|refine sp_ ?_ ?_<;>try(intro hc;push_cast at hc)|omega|intro _));by_cases h:0<s.length
 ·have hr:CW a c s out=⟨a,c,[s],1,out⟩:=Ae h
  rw[hr] at hfin hcl ⊢;refine BG (W_T ?_);(with_reducible repeat'(first|simp(disch:=omega)only[push_cast,↓zz,seval,pR,ps,pO]|refine sp_ ?_ ?_<;>try(intro hc;push_cast at hc)|omega|intro _));refine IT (W3 (by simp) ps) (W_T ?_);(with_reducible repeat'(first|simp(disch:=omega)only[push_cast,↓zz,seval,pR,ps,pO]|refine sp_ ?_ ?_<;>try(intro hc;push_cast at hc)|omega|intro _));refine H7 [1] ?_;(with_reducible repeat'(first|simp(disch:=omega)only[push_cast,↓zz,seval,xx,Af,Ai,Ap,Bm,CR,B2,BD,BC,pR,ps,pO]|refine sp_ ?_ ?_<;>try(intro hc;push_cast at hc)|omega|intro _));refine⟨.tup [],_,GV (l0:=mkH S (R++[⟨a,c,[s],1,out⟩]) (v+1)) (gar:=[⟨5,1,true,[Hp ⟨a,c,[s],1,out⟩]⟩,⟨0,3,false,[]⟩,⟨0,2,false,[]⟩]) (by rw[hfin];rfl) (Ad _) hcl trivial,rfl,v+1,?_⟩;rw[hfin]
 ·have hr:CW a c s out=⟨a,c,[],0,out⟩:=Ab h
  rw[hr] at hfin hcl ⊢;refine BG (W_T ?_);(with_reducible repeat'(first|simp(disch:=omega)only[push_cast,↓zz,seval,pR,ps,pO]|refine sp_ ?_ ?_<;>try(intro hc;push_cast at hc)|omega|intro _))
  refine IT (TZ (l':=[⟨6,1,true,[.agg [.int .i64 2,.int .i64 2,.int .i64 S,.int .i64 0,.ref 1 v 0 R.length,.nilS]]⟩,⟨5,v,false,R.map Hp⟩,⟨5,1,true,[Hp ⟨a,c,[],0,out⟩]⟩])
   ⟨⟨rfl,rfl,id,By _ _⟩,⟨rfl,rfl,id,By _ _⟩,⟨rfl,rfl,id,⟨⟨EL _ _,EL _ _,⟨Nat.one_pos,rfl⟩,EL _ _,EL _ _,rfl⟩,rfl⟩⟩,trivial⟩ (λi _=>EL _ _)) (W_T ?_)
  (with_reducible repeat'(first|simp(disch:=omega)only[push_cast,↓zz,seval,pR,ps,pO]|refine sp_ ?_ ?_<;>try(intro hc;push_cast at hc)|omega|intro _));refine H7 [1] ?_;(with_reducible repeat'(first|simp(disch:=omega)only[push_cast,↓zz,seval,xx,Af,Ai,Ap,Bm,CR,B2,BD,BC,pR,ps,pO]|refine sp_ ?_ ?_<;>try(intro hc;push_cast at hc)|omega|intro _));refine⟨.tup [],_,GV (l0:=mkH S (R++[⟨a,c,[],0,out⟩]) (v+1)) (gar:=[⟨5,1,true,[Hp ⟨a,c,[],0,out⟩]⟩]) (by rw[hfin];rfl) (Ad _) hcl trivial,rfl,v+1,?_⟩;rw[hfin]
inductive EI:Rec->Prop where
 |mk {k:Int} {s:List Span} {b:Int} {r w:List Int} {l:List Rec}:s.length<=1000000->(r.length<=1000000/\∀v∈r,-2147483648<=v/\v<=2147483647)->(w.length<=1000000/\∀v∈w,-2147483648<=v/\v<=2147483647)->l.length<=1000000->(∀n∈l,EI n)->EI (.mk k s b r w l)
mutual
def Ho:Rec->Bool
 |.mk k _ _ r _ l=>if k=3 then decide (r.length=0) else if k=4 then Ei l else if k=5 then G7 l else decide (k=6)
def Ei:List Rec->Bool
 |[]=>true
 |n::l=>Ho n&&Ei l
def G7:List Rec->Bool
 |[]=>false
 |n::l=>Ho n||G7 l
end
mutual
def okR:Rec->Int->Bool
 |.mk k s b r w l,d=>!decide (64<d)&&(if k=1 then !decide (b < -1114111\/1114111<b)&&(EW 2 s&&decide (Em (Fh s b) (domL 2)=[])) else if k=2 then EW 2 s
  else if k=3 then r.all (Dh 2)&&w.all (Dh 2) else if k=4\/k=5 then okL l (d+1) else if k=6 then okL l (d+1)&&!Ei l else false)
def okL:List Rec->Int->Bool
 |[],_=>true
 |n::l,d=>okR n d&&okL l d
end
def secR:Rec->Int->Bool
 |.mk k s b r w l,d=>!decide (64<d)&&(if k=3 then decide (r.length=0) else okR (.mk k s b r w l) d&&Ho (.mk k s b r w l))
theorem SE{n:Rec}{d:Int}(h:okR n d=true):d<=64:=by
 obtain⟨k,s,b,r,w,l⟩:=n;rw[okR,Ac,AA,AQ] at h;omega
theorem zfd{n:Rec}{d:Int}(h:okR n d=true):secR n d=Ho n:=by
 have hd:=SE h;obtain⟨k,s,b,r,w,l⟩:=n;rw[secR,h,AO,Bc (by omega),Ev,AO];split
 ·rename_i e;rw[Ho,Ae e]
 ·rfl
theorem zcv(g:List Span)(hl:g.length<=1000000):PC Tryz.prog 114 [Bg g] (.bool (EW 2 g)):=by
 have hC:=QK g (by omega);have hD:=ED 2;have hW:=Iw g (domL 2) (by omega) (by simp[domL]);have pg:=Cd g;have pd:=Cd (domL 2);have e:EW 2 g=(!decide ((g.length:Int)=0)&&(decide ((g.length:Int)<=64)&&(JP g&&decide (Em g (domL 2)=[])))):=rfl;rw[e];generalize decide (Em g (domL 2)=[])=q at *;generalize JP g=c at *;generalize domL 2=D at *;refine Cf ZN ?_;unfold Q0;by_cases h0:(g.length:Int)=0
 ·rw[AE h0]
  (with_reducible repeat'(first|simp(disch:=omega)only[push_cast,↓zz,seval,pg,h0]|refine sp_ ?_ ?_<;>try(intro hc;push_cast at hc)|omega|intro _))
  all_goals first|omega
 ·rw[Bc h0]
  by_cases h1:(g.length:Int)<=64
  ·rw[AE h1]
   cases c<;>cases q<;>(with_reducible repeat'(first|simp(disch:=omega)only[push_cast,↓zz,seval,pg,pd,h0,h1]|refine sp_ ?_ ?_<;>try(intro hc;push_cast at hc)|refine ee hC ?_|refine ee hD ?_|refine ee hW ?_|((first|refine cc hC ?_|refine cc hD ?_|refine cc hW ?_);simp(disch:=omega)only[push_cast,↓zz,seval,pg,pd,h0,h1];fail_if_success change False)|omega|intro _))
   all_goals first|omega
  ·rw[Bc h1]
   (with_reducible repeat'(first|simp(disch:=omega)only[push_cast,↓zz,seval,pg,h0,h1]|refine sp_ ?_ ?_<;>try(intro hc;push_cast at hc)|omega|intro _))
   all_goals first|omega
theorem YE{l:List Rec}{d:Int}{i:Nat}(hi:i<l.length):okL (l.drop i) d=(okR (nth l i) d&&okL (l.drop (i+1)) d):=by rw[drop_at hi,okL]
theorem MX{l:List Rec}{i:Nat}(hi:i<l.length):Ei (l.drop i)=(Ho (nth l i)&&Ei (l.drop (i+1))):=by rw[drop_at hi,Ei]
theorem MY{l:List Rec}{i:Nat}(hi:i<l.length):G7 (l.drop i)=(Ho (nth l i)||G7 (l.drop (i+1))):=by rw[drop_at hi,G7]
theorem UU(l:List Span)(d:Int):(Fh l d).length<=l.length:=by
 unfold Fh;split
 ·simp
 ·have h1:=E3 ((B4 l).map (Fl d))
  have h2:=E3 l;rw[AY] at h1;omega
set_option maxHeartbeats 4000000 in
theorem QU(n:Rec):EI n->∀d:Int,0<=d->d<=65->PC Tryz.prog 70 [recV n,.int .i64 d] (.tup [.bool (okR n d),.bool (secR n d)]):=by
 refine Rec.ind (P:=λn=>EI n->∀d:Int,0<=d->d<=65->PC Tryz.prog 70 [recV n,.int .i64 d] (.tup [.bool (okR n d),.bool (secR n d)])) ?_ n;intro k s b r w l ih hf d hd0 hd1;cases hf with
 |mk hs hr hw hl hch =>
 have ps:=BR s r w l;rw[Cv];refine Cf Uj ?_;unfold M6;by_cases hd:64<d
 ·rw[show okR (.mk k s b r w l) d=false by rw[okR,AE hd];rfl,show secR (.mk k s b r w l) d=false by rw[secR,AE hd];rfl]
  (with_reducible repeat'(first|simp(disch:=omega)only[push_cast,↓zz,seval,ps]|refine sp_ ?_ ?_<;>try(intro hc;push_cast at hc)|omega|intro _))
 have e0:okR (.mk k s b r w l) d=(if k=1 then !decide (b < -1114111\/1114111<b)&&(EW 2 s&&decide (Em (Fh s b) (domL 2)=[])) else if k=2 then EW 2 s
  else if k=3 then r.all (Dh 2)&&w.all (Dh 2) else if k=4\/k=5 then okL l (d+1) else if k=6 then okL l (d+1)&&!Ei l else false):=by rw[okR,Bc hd];rfl
 have e1:secR (.mk k s b r w l) d=(if k=3 then decide (r.length=0) else okR (.mk k s b r w l) d&&Ho (.mk k s b r w l)):=by rw[secR,Bc hd];rfl
 rw[e1,e0,Ho];clear e0 e1;have hS:=zcv s hs;have hD:=ED 2;have pD:=Cd (domL 2);by_cases h1:k=1
 ·subst h1
  simp only[Bi,Ab (show ¬(1:Int)=3 by decide),Ab (show ¬(1:Int)=4 by decide),Ab (show ¬(1:Int)=5 by decide),Ab (show ¬(1:Int)=6 by decide)];rw[show decide ((1:Int)=6)=false from rfl,CX];by_cases hb:b < -1114111\/1114111<b
  ·rw[AE hb]
   (with_reducible repeat'(first|simp(disch:=omega)only[push_cast,↓zz,seval,ps]|refine sp_ ?_ ?_<;>try(intro hc;push_cast at hc)|omega|intro _))
   all_goals first|omega
  ·rw[Bc hb]
   have hM:=UJ s b (by omega);have hW:=Iw (Fh s b) (domL 2) (by have:=UU s b;omega) (by simp[domL]);have pM:=Cd (Fh s b);generalize decide (Em (Fh s b) (domL 2)=[])=q at *;generalize Fh s b=M at *;generalize domL 2=D at *;cases hg:EW 2 s with
   |false =>
    rw[hg] at hS;(with_reducible repeat'(first|simp(disch:=omega)only[push_cast,↓zz,seval,ps]|refine sp_ ?_ ?_<;>try(intro hc;push_cast at hc)|refine ee hS ?_|(refine cc hS ?_;simp(disch:=omega)only[push_cast,↓zz,seval,ps];fail_if_success change False)|omega|intro _))
    all_goals first|omega
   |true =>
    rw[hg] at hS;(with_reducible repeat'(first|simp(disch:=omega)only[push_cast,↓zz,seval,ps,pM,pD]|refine sp_ ?_ ?_<;>try(intro hc;push_cast at hc)|refine ee hS ?_|refine ee hM ?_|refine ee hD ?_|refine ee hW ?_|((first|refine cc hS ?_|refine cc hM ?_|refine cc hD ?_|refine cc hW ?_);simp(disch:=omega)only[push_cast,↓zz,seval,ps,pM,pD];fail_if_success change False)|omega|intro _))
    all_goals first|omega
 by_cases h2:k=2
 ·subst h2
  simp only[Bi,Ab (show ¬(2:Int)=1 by decide),Ab (show ¬(2:Int)=3 by decide),Ab (show ¬(2:Int)=4 by decide),Ab (show ¬(2:Int)=5 by decide)];rw[show decide ((2:Int)=6)=false from rfl,CX];generalize EW 2 s=q at *;(with_reducible repeat'(first|simp(disch:=omega)only[push_cast,↓zz,seval,ps]|refine sp_ ?_ ?_<;>try(intro hc;push_cast at hc)|refine ee hS ?_|(refine cc hS ?_;simp(disch:=omega)only[push_cast,↓zz,seval,ps];fail_if_success change False)|omega|intro _))
 by_cases h3:k=3
 ·subst h3
  simp only[Bi,Ab (show ¬(3:Int)=1 by decide),Ab (show ¬(3:Int)=2 by decide)];have hR:=Pm 2 r (by omega) hr.2;have hW:=Pm 2 w (by omega) hw.2;have hz:decide (r.length=0)=decide ((r.length:Int)=0):=B1.2 (by omega);rw[hz];generalize w.all (Dh 2)=qw at *;cases hq:r.all (Dh 2)<;>rw[hq] at hR
  ·(with_reducible repeat'(first|simp(disch:=omega)only[push_cast,↓zz,seval,ps]|refine sp_ ?_ ?_<;>try(intro hc;push_cast at hc)|refine ee hR ?_|(refine cc hR ?_;simp(disch:=omega)only[push_cast,↓zz,seval,ps];fail_if_success change False)|omega|intro _))
  ·(with_reducible repeat'(first|simp(disch:=omega)only[push_cast,↓zz,seval,ps]|refine sp_ ?_ ?_<;>try(intro hc;push_cast at hc)|refine ee hR ?_|refine ee hW ?_|((first|refine cc hR ?_|refine cc hW ?_);simp(disch:=omega)only[push_cast,↓zz,seval,ps];fail_if_success change False)|omega|intro _))
 by_cases h456:k=4\/k=5\/k=6
 ·rw[Ab h1,Ab h2,Ab h3,Ab h3,Ab h3]
  (with_reducible repeat'(first|simp(disch:=omega)only[push_cast,↓zz,seval,ps,h1,h2,h3]|refine sp_ ?_ ?_<;>try(intro hc;push_cast at hc)|omega|intro _))
  all_goals first|(exfalso;omega)|skip
  all_goals
   refine Br (Bs (λ(q:Nat × Bool × Bool)=>q.1<=l.length/\okL l (d+1)=okL (l.drop q.1) (d+1)/\Ei l=(q.2.1&&Ei (l.drop q.1))/\G7 l=(q.2.2||G7 (l.drop q.1))) (λq=>l.length-q.1)
    (λq=>[(1,.int .i64 d),(2,.ptr 0 1 0 0),(7,.bool q.2.1),(8,.bool q.2.2),(65,.lst 6 (l.map recV)),(66,.int .i64 l.length),(67,.int .i64 q.1)])
    (λ_=>[⟨6,1,true,[.agg [.int .i64 k,Bg s,.int .i64 b,A6 r,A6 w,.lst 6 (l.map recV)]]⟩]) (λenv _=>[C7 6 (env 2)]) (0,true,false) ⟨by simp,by simp,by simp,by simp⟩ ?_ ?_)
   ·(with_reducible repeat'(first|simp(disch:=omega)only[push_cast,↓zz,seval,ps]|refine sp_ ?_ ?_<;>try(intro hc;push_cast at hc)|omega|intro _))
   rintro⟨i,qa,qs⟩ ⟨hi,hk1,hk2,hk3⟩;simp only at hi hk1 hk2 hk3;rcases Ak i l.length with hil|hil
   ·have hm:=ih _ (AS hil) (hch _ (AS hil)) (d+1) (by omega) (by omega)
    have hso:=zfd (n:=nth l i) (d:=d+1);rw[YE hil] at hk1;rw[MX hil,<-Bool.and_assoc] at hk2;rw[MY hil,<-Bool.or_assoc] at hk3;generalize hne:nth l i=n1 at *;obtain⟨k',s',b',r',w',l'⟩:=n1;have ps':=BR s' r' w' l';rw[Cv] at hm;have hrm:=Cv k' s' b' r' w' l';cases ho:okR (.mk k' s' b' r' w' l') (d+1) with
    |false =>
     rw[ho] at hm hk1;rw[Bp] at hk1;generalize secR (.mk k' s' b' r' w' l') (d+1)=q at *;refine W_T ?_;(with_reducible repeat'(first|simp(disch:=omega)only[push_cast,↓zz,seval,ps,ps',hne,hrm]|refine sp_ ?_ ?_<;>try(intro hc;push_cast at hc)|refine ee hm ?_|(refine cc hm ?_;simp(disch:=omega)only[push_cast,↓zz,seval,ps,ps',hne,hrm];fail_if_success change False)|omega|intro _))
     all_goals (simp[hk1];(repeat'(first|(simp(disch:=omega)only[push_cast,↓zz,seval,D3])|omega|(with_reducible refine Aa ?_ ?_)));done)
    |true =>
     rw[ho] at hm hk1;rw[AO] at hk1;rw[hso ho] at hm;generalize Ho (.mk k' s' b' r' w' l')=q at *;refine W_T ?_;cases qa<;>cases qs<;>(with_reducible repeat'(first|simp(disch:=omega)only[push_cast,↓zz,seval,ps,ps',hne,hrm]|refine sp_ ?_ ?_<;>try(intro hc;push_cast at hc)|refine ee hm ?_|(refine cc hm ?_;simp(disch:=omega)only[push_cast,↓zz,seval,ps,ps',hne,hrm];fail_if_success change False)|omega|intro _))
     ·refine⟨(i+1,false,q),?_⟩
      (with_reducible repeat'(first|simp(disch:=omega)only[push_cast,↓zz,seval,ps]|refine sp_ ?_ ?_<;>try(intro hc;push_cast at hc)|omega|intro _))
      all_goals first|(simpa using hk1)|(simpa using hk2)|(simpa using hk3)
     ·refine⟨(i+1,false,true),?_⟩
      (with_reducible repeat'(first|simp(disch:=omega)only[push_cast,↓zz,seval,ps]|refine sp_ ?_ ?_<;>try(intro hc;push_cast at hc)|omega|intro _))
      all_goals first|(simpa using hk1)|(simpa using hk2)|(simpa using hk3)
     ·refine⟨(i+1,q,q),?_⟩
      (with_reducible repeat'(first|simp(disch:=omega)only[push_cast,↓zz,seval,ps]|refine sp_ ?_ ?_<;>try(intro hc;push_cast at hc)|omega|intro _))
      all_goals first|(simpa using hk1)|(simpa using hk2)|(simpa using hk3)
     ·refine⟨(i+1,q,true),?_⟩
      (with_reducible repeat'(first|simp(disch:=omega)only[push_cast,↓zz,seval,ps]|refine sp_ ?_ ?_<;>try(intro hc;push_cast at hc)|omega|intro _))
      all_goals first|(simpa using hk1)|(simpa using hk2)|(simpa using hk3)
   ·obtain rfl:i=l.length:=by omega
    rw[List.drop_length] at hk1 hk2 hk3;simp only[okL,Ei,G7,Do,DX] at hk1 hk2 hk3;refine W_T ?_;(with_reducible repeat'(first|simp(disch:=omega)only[push_cast,↓zz,seval,ps,h1,h2,h3]|refine sp_ ?_ ?_<;>try(intro hc;push_cast at hc)|omega|intro _))
    all_goals first
     |(exfalso;omega)
     |(have e:k=4:=by omega
       simp[hk1,hk2,hk3,e];(repeat'(first|(simp(disch:=omega)only[push_cast,↓zz,seval,D3])|omega|(with_reducible refine Aa ?_ ?_)));done)
     |(have e:k=5:=by omega
       simp[hk1,hk2,hk3,e];(repeat'(first|(simp(disch:=omega)only[push_cast,↓zz,seval,D3])|omega|(with_reducible refine Aa ?_ ?_)));done)
     |(have e:k=6:=by omega
       simp[hk1,hk2,hk3,e];(repeat'(first|(simp(disch:=omega)only[push_cast,↓zz,seval,D3])|omega|(with_reducible refine Aa ?_ ?_)));done)
     
 ·rw[Ab h1,Ab h2,Ab h3,Ab (by omega),Ab (by omega),Ab h3,Bp]
  (with_reducible repeat'(first|simp(disch:=omega)only[push_cast,↓zz,seval,ps,h1,h2,h3]|refine sp_ ?_ ?_<;>try(intro hc;push_cast at hc)|omega|intro _))
  all_goals first|omega
abbrev MSt:=Nat × List Rule
def addR(st:MSt)(a c:Nat)(s:List Span)(out:List Term):MSt:=(st.1,st.2++[CW a c s out])
def newS(st:MSt):MSt:=(st.1+1,st.2)
def Gt(st:MSt):Bool:=G6 st.1 st.2
def Fw(x:Int):Term:=⟨0,0,21,0,x,[]⟩
def cpyT(b:Int):Term:=⟨0,0,21,0,b,[⟨0,0,21,0⟩]⟩
def wrR:Nat->List Int->Nat->MSt->MSt × Nat
 |0,_,f,st=>(st,f)
 |n+1,w,f,st=>if w.length=0\/Gt st=true then (st,f) else wrR n (w.drop 64) st.1 (addR (newS st) f st.1 [] ((w.take 64).map Fw))
def rdR:List Int->Nat->MSt->MSt × Nat
 |[],f,st=>(st,f)
 |x::r,f,st=>if Gt st=true then (st,f) else rdR r st.1 (addR (newS st) f st.1 [⟨x,x⟩] [])
mutual
def mkM:Rec->Nat->MSt->MSt × Nat
 |.mk k s b r w l,f,st=>if Gt st=true then (st,f)
  else if k=1 then (addR (newS st) f st.1 s [cpyT b],st.1)
  else if k=2 then (addR (newS st) f st.1 s [],st.1)
  else if k=3 then rdR r (wrR w.length w f st).2 (wrR w.length w f st).1
  else if k=5 then (altR l f st.1 (newS st),st.1)
  else if k=6 then
   let p:=catR l (st.1+1) (addR (newS (addR (newS st) f st.1 [] [])) st.1 (st.1+1) [] [])
   let q:=addR p.1 p.2 st.1 [] []
   (addR (newS q) st.1 q.1 [] [],q.1)
  else catR l f st
def catR:List Rec->Nat->MSt->MSt × Nat
 |[],f,st=>(st,f)
 |n::l,f,st=>catR l (mkM n f st).2 (mkM n f st).1
def altR:List Rec->Nat->Nat->MSt->MSt
 |[],_,_,st=>st
 |n::l,f,t,st =>
  let p:=mkM n st.1 (addR (newS st) f st.1 [] [])
  altR l f t (addR p.1 p.2 t [] [])
end
theorem W4(S:Nat)(R:List Rule)(v:Nat)(a c:Int)(out:List Term)(hR:R.length<=1000000):
 B3 Tryz.prog 87 [.ptr 0 1 0 0,.int .i64 a,.int .i64 c,.nilS,GG out] (Abs.hl (mkH S R v)) λy H'=>y=.tup []/\∃v',H'=Abs.hl (mkH S (R++[CW a c [] out]) v') :=
 Gm (AW (AV.le_refl _) (AW (AV.le_refl _) (AW (AV.le_refl _) (AW (AV.le_nilS (by decide)) (AW (AV.le_refl _) D2))))) (JB S R v a c [] out (by simp) hR)
theorem Pq(S:Nat)(R:List Rule)(v:Nat)(a c:Int)(s:List Span)(hs:s.length<=1000000)(hR:R.length<=1000000):
 B3 Tryz.prog 87 [.ptr 0 1 0 0,.int .i64 a,.int .i64 c,Bg s,.nilS] (Abs.hl (mkH S R v)) λy H'=>y=.tup []/\∃v',H'=Abs.hl (mkH S (R++[CW a c s []]) v') :=
 Gm (AW (AV.le_refl _) (AW (AV.le_refl _) (AW (AV.le_refl _) (AW (AV.le_refl _) (AW (AV.le_nilS (by decide)) D2))))) (JB S R v a c s [] hs hR)
theorem G8(S:Nat)(R:List Rule)(v:Nat)(a c:Int)(hR:R.length<=1000000):
 B3 Tryz.prog 87 [.ptr 0 1 0 0,.int .i64 a,.int .i64 c,.nilS,.nilS] (Abs.hl (mkH S R v)) λy H'=>y=.tup []/\∃v',H'=Abs.hl (mkH S (R++[CW a c [] []]) v') :=
 Gm (AW (AV.le_refl _) (AW (AV.le_refl _) (AW (AV.le_refl _) (AW (AV.le_nilS (by decide)) (AW (AV.le_nilS (by decide)) D2))))) (JB S R v a c [] [] (by simp) hR)
structure WSt where
 n:Nat
 w:List Int
 f:Nat
 S:Nat
 R:List Rule
 v:Nat
theorem UV(w:List Int)(f S:Nat)(R:List Rule)(v:Nat)(hw:w.length<=300000)(h32:∀x∈w,-2147483648<=x/\x<=2147483647)(hS:S<=300000)(hR:R.length<=300000):
 B3 Tryz.prog 88 [.ptr 0 1 0 0,.int .i64 f,A6 w] (Abs.hl (mkH S R v)) λy H'=>y=.int .i64 ((wrR w.length w f (S,R)).2:Nat)/\∃v',H'=Abs.hl (mkH (wrR w.length w f (S,R)).1.1 (wrR w.length w f (S,R)).1.2 v'):=by
 generalize hT:wrR w.length w f (S,R)=T;have pw:=Bf w;refine DG (GD Kq (BG (W_T ?_)));unfold mkH;(with_reducible repeat'(first|simp(disch:=omega)only[push_cast,↓zz,seval,pw]|refine sp_ ?_ ?_<;>try(intro hc;push_cast at hc)|omega|intro _));refine BG (W_T ?_);(with_reducible repeat'(first|simp(disch:=omega)only[push_cast,↓zz,seval,pw]|refine sp_ ?_ ?_<;>try(intro hc;push_cast at hc)|omega|intro _))
 refine Br (Bs (λ(q:WSt)=>q.w.length<=q.n/\wrR q.n q.w q.f (q.S,q.R)=T/\q.S+q.n<=600000/\q.R.length+q.n<=600000/\Hold (∀x∈q.w,-2147483648<=x/\x<=2147483647)) (λq=>q.n)
  (λq=>[(0,.ptr 0 1 0 0),(1,.int .i64 q.f),(2,A6 q.w)]) (λq=>mkH q.S q.R q.v) (λ_ _=>[]) ⟨w.length,w,f,S,R,v⟩ ⟨Ad _,hT,by simp only;omega,by simp only;omega,⟨h32⟩⟩ ?_ ?_)
 ·unfold mkH
  (with_reducible repeat'(first|simp(disch:=omega)only[push_cast,↓zz,seval,pw,BO]|refine sp_ ?_ ?_<;>try(intro hc;push_cast at hc)|omega|intro _))
 rintro⟨n,w,f,S,R,v⟩ ⟨h1,h2,h3,h4,⟨h5⟩⟩;simp only at h1 h2 h3 h4 h5 ⊢;have pw:=Bf w;have hFu:=Fo S R v;have hSt:=EE S R v (by omega);unfold mkH at hFu hSt ⊢;have pR:=BO R;by_cases hw0:w.length=0
 ·have e:wrR n w f (S,R)=((S,R),f):=by
   cases n with
   |zero=>rfl
   |succ n=>rw[wrR,Ae (.inl hw0)]
  rw[e] at h2;subst h2;refine W_T ?_;(with_reducible repeat'(first|simp(disch:=omega)only[push_cast,↓zz,seval,pw]|refine sp_ ?_ ?_<;>try(intro hc;push_cast at hc)|omega|intro _));refine W_T ?_;(with_reducible repeat'(first|simp(disch:=omega)only[push_cast,↓zz,seval,pw]|refine sp_ ?_ ?_<;>try(intro hc;push_cast at hc)|omega|intro _));exact⟨_,_,Ent.refl,rfl,v,rfl⟩
 cases hfu:G6 S R with
 |true =>
  have e:wrR n w f (S,R)=((S,R),f):=by
   cases n with
   |zero=>rfl
   |succ n=>rw[wrR,Ae (.inr hfu)]
  rw[e] at h2;subst h2;rw[hfu] at hFu;refine W_T ?_;(with_reducible repeat'(first|simp(disch:=omega)only[push_cast,↓zz,seval,pw]|refine sp_ ?_ ?_<;>try(intro hc;push_cast at hc)|omega|intro _))
  (refine at_c [0,1] (hFu) (by decide) (by simp) (by refine⟨?_,?_,?_,?_⟩<;>(simp(disch:=omega)only[push_cast,↓zz,seval,Af,Ai,Ap,Av,AH,Ar,pw])) ?_)
  rintro y H' ⟨rfl,rfl⟩;refine⟨_,rfl,by simp,?_⟩;(with_reducible repeat'(first|simp(disch:=omega)only[push_cast,↓zz,seval,pw]|refine sp_ ?_ ?_<;>try(intro hc;push_cast at hc)|omega|intro _));refine W_T ?_;(with_reducible repeat'(first|simp(disch:=omega)only[push_cast,↓zz,seval,pw]|refine sp_ ?_ ?_<;>try(intro hc;push_cast at hc)|omega|intro _));exact⟨_,_,Ent.refl,rfl,v,rfl⟩
 |false =>
  obtain⟨n,rfl⟩:∃m,n=m+1:=⟨n-1,by omega⟩;rw[wrR,Ab (by rintro (h|h);exact hw0 h;exact absurd (show G6 S R=true from h) (by rw[hfu];simp))] at h2;rw[hfu] at hFu;refine BG (W_T ?_);(with_reducible repeat'(first|simp(disch:=omega)only[push_cast,↓zz,seval,pw]|refine sp_ ?_ ?_<;>try(intro hc;push_cast at hc)|omega|intro _))
  (refine at_c [0,1] (hFu) (by decide) (by simp) (by refine⟨?_,?_,?_,?_⟩<;>(simp(disch:=omega)only[push_cast,↓zz,seval,Af,Ai,Ap,Av,AH,Ar,pw])) ?_)
  rintro y H' ⟨rfl,rfl⟩;refine⟨_,rfl,by simp,?_⟩;(with_reducible repeat'(first|simp(disch:=omega)only[push_cast,↓zz,seval,pw]|refine sp_ ?_ ?_<;>try(intro hc;push_cast at hc)|omega|intro _));refine Es (BG (W_T ?_));(with_reducible repeat'(first|simp(disch:=omega)only[push_cast,↓zz,seval,pw]|refine sp_ ?_ ?_<;>try(intro hc;push_cast at hc)|omega|intro _));refine BG (W_T ?_);(with_reducible repeat'(first|simp(disch:=omega)only[push_cast,↓zz,seval]|refine sp_ ?_ ?_<;>try(intro hc;push_cast at hc)|omega|intro _));refine BG (W_T ?_);have hmn:min (w.length:Int) 64=((w.take 64).length:Int):=by rw[BA];omega
  (with_reducible repeat'(first|simp(disch:=omega)only[push_cast,↓zz,seval,pw,hmn]|refine sp_ ?_ ?_<;>try(intro hc;push_cast at hc)|omega|intro _));have pt:=Bf (w.take 64);have ht5:∀x∈w.take 64,-2147483648<=x/\x<=2147483647:=λx hx=>h5 x (B8 hx)
  have hdr:List.drop (w.take 64).length w=w.drop 64:=by
   rw[BA];rcases Nat.le_total 64 w.length with h|h
   ·rw[Co h]
   ·rw[Nat.min_eq_right h,List.drop_length,An h]
  have htk:List.take (w.take 64).length w=w.take 64:=by
   rw[BA];rcases Nat.le_total 64 w.length with h|h
   ·rw[Co h]
   ·rw[Nat.min_eq_right h,A7,Az h]
  have hl1:0<(w.take 64).length/\(w.take 64).length<=64:=by rw[BA];omega
  have hl2:(w.drop 64).length<=n:=by rw[List.length_drop];omega
  have hd5:∀x∈w.drop 64,-2147483648<=x/\x<=2147483647:=λx hx=>h5 x (BF hx);obtain⟨hl1,hl64⟩:=hl1;have pd:=Bf (w.drop 64);generalize w.take 64=z at *;generalize w.drop 64=w2 at *
  refine Br (Bs (λ(k:Nat)=>k<=z.length) (λk=>z.length-k)
   (λk=>[(0,.ptr 0 1 0 0),(1,.int .i64 f),(2,A6 w),(7,.int .i64 z.length),(8,.ref 2 1 0 k),(25,A6 z),(26,.int .i64 z.length),(27,.int .i64 k)])
   (λk=>[⟨6,1,true,[.agg [.int .i64 2,.int .i64 2,.int .i64 S,.int .i64 0,.ref 1 v 0 R.length,.nilS]]⟩,⟨5,v,false,R.map Hp⟩,⟨6,1,false,((z.take k).map Fw).map G0⟩]) (λenv _=>[C7 6 (env 8)]) 0 (Au _) ?_ ?_)
  ·(with_reducible repeat'(first|simp(disch:=omega)only[push_cast,↓zz,seval,pw,pR,pt,hmn,htk]|refine sp_ ?_ ?_<;>try(intro hc;push_cast at hc)|omega|intro _))
  intro k hk;have hlk:((z.take k).map Fw).length=k:=by simp;omega
  have pk:=Ct ((z.take k).map Fw);rcases Ak k z.length with hkz|hkz
  ·have hx:=ht5 _ (AS hkz)
   have hCo:=ZS (nth z k);rw[IntWalk.i64_in _ (by omega)] at hCo;have hnx:(z.take (k+1)).map Fw=(z.take k).map Fw++[Fw (nth z k)]:=by rw[take_at hkz,Aw];rfl
   have hcv:G0 (Fw (nth z k))=.agg [.int .i64 0,.int .i64 0,.int .i64 21,.int .i64 0,.int .i64 (nth z k),.lst 4 []]:=rfl;generalize hxe:nth z k=x at *;refine W_T ?_;(with_reducible repeat'(first|simp(disch:=omega)only[push_cast,↓zz,seval,pw,pR,pt,pk,hlk,hxe]|refine sp_ ?_ ?_<;>try(intro hc;push_cast at hc)|refine ee hCo ?_|(refine cc hCo ?_;simp(disch:=omega)only[push_cast,↓zz,seval,pw,pR,pt,pk,hlk,hxe];fail_if_success change False)|omega|intro _))
   all_goals
    refine⟨k+1,?_⟩;(with_reducible repeat'(first|simp(disch:=omega)only[push_cast,↓zz,seval,pw,pR,pt,pk,hlk,hnx,hcv]|refine sp_ ?_ ?_<;>try(intro hc;push_cast at hc)|omega|intro _))
  obtain rfl:k=z.length:=by omega
  have et:z.take z.length=z:=A7;rw[et] at pk hlk ⊢;have hRu:=W4 (S+1) R v f S (z.map Fw) (by omega);unfold mkH at hRu;refine W_T ?_;(with_reducible repeat'(first|simp(disch:=omega)only[push_cast,↓zz,seval,pw,pR,pt,pk]|refine sp_ ?_ ?_<;>try(intro hc;push_cast at hc)|omega|intro _));refine IT (zcu (l':=[⟨6,1,true,[.agg [.int .i64 2,.int .i64 2,.int .i64 S,.int .i64 0,.ref 1 v 0 R.length,.nilS]]⟩,⟨5,v,false,R.map Hp⟩,⟨0,2,false,[]⟩]) 8 2 6 1 z.length (by decide) (by simp) rfl pk (by simp) rfl rfl) (BG (W_T ?_));(with_reducible repeat'(first|simp(disch:=omega)only[push_cast,↓zz,seval,pw,pR,pt,pk]|refine sp_ ?_ ?_<;>try(intro hc;push_cast at hc)|omega|intro _))
  (refine at_c [0,1] (hSt) (by decide) (by simp) (by refine⟨?_,?_,?_,?_⟩<;>(simp(disch:=omega)only[push_cast,↓zz,seval,Af,Ai,Ap,Av,AH,Ar,pw,pR,pt,pk])) ?_)
  rintro y H' ⟨rfl,rfl⟩;refine⟨_,rfl,by simp,?_⟩;(with_reducible repeat'(first|simp(disch:=omega)only[push_cast,↓zz,seval,pw,pR,pt,pk]|refine sp_ ?_ ?_<;>try(intro hc;push_cast at hc)|omega|intro _));refine BG (W_T ?_);(with_reducible repeat'(first|simp(disch:=omega)only[push_cast,↓zz,seval,pw,pR,pt,pk]|refine sp_ ?_ ?_<;>try(intro hc;push_cast at hc)|omega|intro _))
  (refine at_c [0,1] (hRu) (by decide) (by simp) (by refine⟨?_,?_,?_,?_⟩<;>(simp(disch:=omega)only[push_cast,↓zz,seval,Af,Ai,Ap,Av,AH,Ar,pw,pR,pt,pk])) ?_)
  rintro y H' ⟨rfl,v',rfl⟩;refine⟨_,rfl,by simp,?_⟩;(with_reducible repeat'(first|simp(disch:=omega)only[push_cast,↓zz,seval,pw,pR,pt,pk]|refine sp_ ?_ ?_<;>try(intro hc;push_cast at hc)|omega|intro _));refine W_T ?_;(with_reducible repeat'(first|simp(disch:=omega)only[push_cast,↓zz,seval,pw,pR,pt,pk,hdr]|refine sp_ ?_ ?_<;>try(intro hc;push_cast at hc)|omega|intro _))
  all_goals
   refine⟨⟨n,w2,S,S+1,R++[CW f S [] (z.map Fw)],v'⟩,?_⟩;(with_reducible repeat'(first|simp(disch:=omega)only[push_cast,↓zz,seval,pw,pR,pt,pk,pd,hdr]|refine sp_ ?_ ?_<;>try(intro hc;push_cast at hc)|omega|intro _))
  all_goals first|exact h2|exact⟨hd5⟩|(simp;omega)
abbrev e1(i:Nat):AV:=.int .i64 i
def ruI(l:List Rule)(s:Nat):List Nat:=(List.range l.length).filter λi=>decide ((nth l i).from_=(s:Int))
theorem HE{l:List Rule}{s i:Nat}:i∈ruI l s↔i<l.length/\(nth l i).from_=s:=by simp[ruI]
theorem W5(l:List Rule)(s:Nat):(ruI l s).length<=l.length:=by
 have:=BI (λi=>decide ((nth l i).from_=(s:Int))) (List.range l.length)
 rwa [CP] at this
def W6(l:List Rule)(a b:Int):Prop:=∃i p,okP l a (i::p)/\endP l a (i::p)=b
theorem zcw{l:List Rule}{i:Nat}(h:i<l.length)(he:Dk (nth l i)=true):W6 l (nth l i).from_ (nth l i).to_ :=
 ⟨i,[],⟨SC.2 ⟨h,he,rfl⟩,trivial⟩,rfl⟩
theorem z0p{l:List Rule}{a b c:Int}(h:W6 l a b)(k:W6 l b c):W6 l a c:=by
 obtain⟨i,p,h1,h2⟩:=h;obtain⟨j,q,k1,k2⟩:=k;refine⟨i,p++j::q,?_,?_⟩
 ·rw[<-List.cons_append,SD,h2];exact⟨h1,k1⟩
 ·rw[<-List.cons_append,N0,h2];exact k2
theorem z6l{l:List Rule}{n:Nat}(hl:∀r∈l,(0<=r.from_/\r.from_<n)/\0<=r.to_/\r.to_<n)(hc:¬cycP l n){a:Int}(ha:0<=a):¬W6 l a a:=by
 rintro⟨i,p,h1,h2⟩
 have key:∀k:Nat,∃q,okP l a q/\endP l a q=a/\k<=q.length:=λk=>by
  induction k with
  |zero=>exact⟨[],trivial,rfl,Ad _⟩
  |succ k ih =>
   obtain⟨q,q1,q2,q3⟩:=ih;refine⟨q++i::p,?_,?_,by simp;omega⟩
   ·rw[SD,q2];exact⟨q1,h1⟩
   ·rw[N0,q2];exact h2
 obtain⟨q,q1,_,q3⟩:=key (n+2);have:=z6b hl hc ha q1;omega
def W7(l:List Rule)(ord:List Nat):Prop:=∀i,i<ord.length->∀r∈l,Dk r=true->r.from_=(nth ord i:Nat)->∃t:Nat,r.to_=t/\t∈ord.take i
theorem UW{l:List Rule}{ord:List Nat}{s:Nat}(h:W7 l ord)(hs:∀r∈l,Dk r=true->r.from_=(s:Int)->∃t:Nat,r.to_=t/\t∈ord):W7 l (ord++[s]):=λi hi r hr he hf=>by
 rw[Aj,List.length_singleton] at hi;rcases Ak i ord.length with h1|h1
 ·have e:nth (ord++[s]) i=nth ord i:=by simp[nth,List.getD,A9 h1]
  rw[e] at hf;obtain⟨t,t1,t2⟩:=h i h1 r hr he hf;exact⟨t,t1,by rw[Cx (by omega)];exact t2⟩
 ·obtain rfl:i=ord.length:=by omega
  have e:nth (ord++[s]) ord.length=s:=by simp[nth,List.getD]
  rw[e] at hf;obtain⟨t,t1,t2⟩:=hs r hr he hf;exact⟨t,t1,by rw[Cx (Ad _),A7];exact t2⟩
structure QV(l:List Rule)(n:Nat)(dn:Nat->Bool)(ord:List Nat)(s:Nat):Prop where
 p1:∀a∈ord,dn a=true
 p2:∀a,a<n->dn a=true->a∈ord\/W6 l a s
 p3:W7 l ord
 p4:ord.Nodup/\∀a∈ord,a<n
structure SF(l:List Rule)(n:Nat)(dn:Nat->Bool)(ord:List Nat)(s:Nat)(dn':Nat->Bool)(new:List Nat):Prop where
 q2:s∈ord++new
 q3:∀a,a<n->(dn' a=true↔dn a=true\/a∈new)
 q4:W7 l (ord++new)
 q5:(ord++new).Nodup/\∀a∈ord++new,a<n
 q6:∀a∈new,dn a=false
def Jk(dn:Nat->Bool):Nat->Nat
 |0=>0
 |k+1=>Jk dn k+(if dn k=true then 0 else 1)
theorem UX{dn dn':Nat->Bool}:∀{n:Nat},(∀a,a<n->dn a=true->dn' a=true)->Jk dn' n<=Jk dn n
 |0,_=>Ad _
 |n+1,h=>by
  have ih:=UX (n:=n) λa ha=>h a (by omega);simp only[Jk];cases h1:dn n with
  |true=>rw[h n (by omega) h1];simp;exact ih
  |false=>simp;split<;>omega
theorem UY{dn dn':Nat->Bool}{s:Nat}(h1:dn s=false)(h2:dn' s=true):∀{n:Nat},s<n->(∀a,a<n->dn a=true->dn' a=true)->Jk dn' n<Jk dn n
 |0,hs,_=>by omega
 |n+1,hs,h=>by
  simp only[Jk];by_cases e:s=n
  ·subst e
   have:=UX (n:=s) λa ha=>h a (by omega);simp[h1,h2];omega
  ·have ih:=UY h1 h2 (n:=n) (by omega) λa ha=>h a (by omega)
   cases h3:dn n with
   |true=>rw[h n (by omega) h3];simp;exact ih
   |false=>simp;split<;>omega
structure Pr(l:List Rule)(n:Nat)(dn:Nat->Bool)(ord:List Nat)(s:Nat)(dk:Nat->Bool)(new:List Nat)(k:Nat):Prop where
 m3:∀a,a<n->(dk a=true↔dn a=true\/a=s\/a∈new)
 m4:W7 l (ord++new)
 m5:(ord++new).Nodup/\∀a∈ord++new,a<n
 m6:∀a∈new,dn a=false/\a≠s
 m7:∀j,j<k->Dk (nth l (nth (ruI l s) j))=true->∃t:Nat,(nth l (nth (ruI l s) j)).to_=t/\t∈ord++new
theorem zjp{l:List Rule}{n:Nat}{dn:Nat->Bool}{ord:List Nat}{s:Nat}{dk:Nat->Bool}{new:List Nat}{k i:Nat}(hm:Pr l n dn ord s dk new k)(hp:QV l n dn ord s)(hi:i∈ruI l s)(he:Dk (nth l i)=true)(j:Nat)(hj:(nth l i).to_=j):QV l n dk (ord++new) j:=by
 obtain⟨i1,i2⟩:=HE.1 hi;have hone:W6 l s j:=by have:=zcw i1 he;rwa [i2,hj] at this
 refine⟨λa ha=>?_,λa ha h=>?_,hm.m4,hm.m5⟩
 ·have han:=hm.m5.2 a ha
  rcases Ao.1 ha with h|h
  ·exact (hm.m3 a han).2 (.inl (hp.p1 a h))
  ·exact (hm.m3 a han).2 (.inr (.inr h))
 ·rcases (hm.m3 a ha).1 h with h|rfl|h
  ·rcases hp.p2 a ha h with h|h
   ·exact .inl (C0 _ h)
   ·exact .inr (z0p h hone)
  ·exact .inr hone
  ·exact .inl (CG _ h)
theorem zcx{l:List Rule}{n:Nat}{dn:Nat->Bool}{ord:List Nat}{s:Nat}{dk:Nat->Bool}{new:List Nat}{k i:Nat}(hm:Pr l n dn ord s dk new k)(hk:k<(ruI l s).length)(hi:i=nth (ruI l s) k)(he:Dk (nth l i)=false):Pr l n dn ord s dk new (k+1) :=
 ⟨hm.m3,hm.m4,hm.m5,hm.m6,λj hj h=>by
  rcases Ak j k with h1|h1
  ·exact hm.m7 j h1 h
  ·obtain rfl:j=k:=by omega
   rw[<-hi,he] at h;cases h⟩
theorem zcy{l:List Rule}{n:Nat}{dn:Nat->Bool}{ord:List Nat}{s:Nat}{dk:Nat->Bool}{new:List Nat}{k i:Nat}{dn2:Nat->Bool}{new2:List Nat}(hm:Pr l n dn ord s dk new k)(hp:QV l n dn ord s)(hk:k<(ruI l s).length)(hi:i=nth (ruI l s) k)
 (h:Dk (nth l i)=true/\∃j:Nat,(nth l i).to_=j/\SF l n dk (ord++new) j dn2 new2):Pr l n dn ord s dn2 (new++new2) (k+1):=by
 obtain⟨he,j,hj,hq⟩:=h;have hsn:s<n->dk s=true:=λhs=>(hm.m3 s hs).2 (.inr (.inl rfl));refine⟨λa ha=>?_,by rw[<-A3];exact hq.q4,by rw[<-A3];exact hq.q5,λa ha=>?_,λm hmk h=>?_⟩
 ·rw[hq.q3 a ha,hm.m3 a ha,Ao]
  constructor
  ·rintro ((h|h|h)|h)
   ·exact .inl h
   ·exact .inr (.inl h)
   ·exact .inr (.inr (.inl h))
   ·exact .inr (.inr (.inr h))
  ·rintro (h|h|h|h)
   ·exact .inl (.inl h)
   ·exact .inl (.inr (.inl h))
   ·exact .inl (.inr (.inr h))
   ·exact .inr h
 ·rcases Ao.1 ha with h|h
  ·exact hm.m6 a h
  ·have han:a<n:=hq.q5.2 a (CG _ h)
   have h6:=hq.q6 a h;refine⟨?_,λe=>?_⟩
   ·cases hd:dn a with
    |false=>rfl
    |true=>rw[(hm.m3 a han).2 (.inl hd)] at h6;cases h6
   ·subst e;rw[hsn han] at h6;cases h6
 ·rw[<-A3]
  rcases Ak m k with h1|h1
  ·obtain⟨t,t1,t2⟩:=hm.m7 m h1 h
   exact⟨t,t1,C0 _ t2⟩
  ·obtain rfl:m=k:=by omega
   rw[<-hi];exact⟨j,hj,hq.q2⟩
theorem zjq{l:List Rule}{n:Nat}{dn:Nat->Bool}{ord:List Nat}{s:Nat}{dk:Nat->Bool}{new:List Nat}(hm:Pr l n dn ord s dk new (ruI l s).length)(hp:QV l n dn ord s)(hs:s<n)(hsno:s∉ord)(hd:dn s=false):SF l n dn ord s dk (new++[s]):=by
 have hsnew:s∉new:=λh=>(hm.m6 s h).2 rfl;refine⟨by simp,λa ha=>?_,?_,⟨?_,λa ha=>?_⟩,λa ha=>?_⟩
 ·rw[hm.m3 a ha,Ao,Am]
  constructor
  ·rintro (h|h|h)
   ·exact .inl h
   ·exact .inr (.inr h)
   ·exact .inr (.inl h)
  ·rintro (h|h|h)
   ·exact .inl h
   ·exact .inr (.inr h)
   ·exact .inr (.inl h)
 ·rw[<-A3]
  refine UW hm.m4 λr hr he hf=>?_;obtain⟨i,hi,rfl⟩:=Bv hr;have e:nth l i=l[i]:=Gp hi;have hmem:i∈ruI l s:=HE.2 ⟨hi,by rw[e];exact hf⟩;obtain⟨j,hj,hje⟩:=Bv hmem;have e2:nth (ruI l s) j=i:=by rw[Gp hj];exact hje
  have:=hm.m7 j hj (by rw[e2,e];exact he);rw[e2,e] at this;exact this
 ·rw[<-A3]
  refine CQ.2 ⟨hm.m5.1,BN.2 ⟨by simp,Dc⟩,λa ha b hb=>?_⟩;rw[Am.1 hb];rintro rfl;rcases Ao.1 ha with h|h
  ·exact hsno h
  ·exact hsnew h
 ·rw[<-A3] at ha
  rcases Ao.1 ha with h|h
  ·exact hm.m5.2 a h
  ·rw[Am.1 h];exact hs
 ·rcases Ao.1 ha with h|h
  ·exact (hm.m6 a h).1
  ·rw[Am.1 h];exact hd
def rnB(d:Desc)(x:List Int)(RU FI od li:AV):AV:=.agg [.int .i64 d.in_,.int .i64 d.out,.int .i64 d.states,.int .i64 d.start,FH d.rules,G1 d.finals,A6 x,RU,FI,od,li]
def ruV(l:List Rule)(n:Nat):AV:=.lst 1 (fD 1 e1 n (ruI l))
def srtL(d:Desc)(x:List Int)(n:Nat)(FI:AV)(v:Nat)(dn:Nat->Bool)(ord:List Nat):List Grp :=
 [⟨11,1,true,[rnB d x (ruV d.rules n) FI (.ref 2 v 0 ord.length) .nilS]⟩,⟨1,1,true,spB n dn⟩,gG 1 e1 v ord]
theorem F7(d:Desc)(x:List Int)(n:Nat)(FI:AV)(hFI:FI.pure=true)(v:Nat)(dn:Nat->Bool)(ord:List Nat):∀G∈srtL d x n FI v dn ord,ltL 3 G.xs:=λG hG=>by
 have h1:ltV 3 (FH d.rules):=Cy _ _ (BO _);have h2:ltV 3 (G1 d.finals):=Cy _ _ (Ch _);have h3:ltV 3 (A6 x):=Cy _ _ (D9 .i32 _);have h4:ltV 3 (ruV d.rules n):=Cy _ _ (Gf λ_=>rfl);have h5:ltV 3 FI:=Cy _ _ hFI;simp only[srtL,Af,Ai,Ap] at hG;rcases hG with rfl|rfl|rfl
 ·exact⟨⟨trivial,trivial,trivial,trivial,h1,h2,h3,h4,h5,(show 2<3 by omega),trivial,trivial⟩,trivial⟩
 ·exact CK _ _ (BZ.2 λy hy=>by obtain⟨i,_,rfl⟩:=Ax.1 hy;rfl)
 ·exact CK _ _ (E6 (λ_=>rfl) _)
theorem zcz(d:Desc)(x:List Int){n:Nat}(hn:n<=1024)(hrl:d.rules.length<=4096)(hl:∀r∈d.rules,(0<=r.from_/\r.from_<n)/\0<=r.to_/\r.to_<n)(hc:¬cycP d.rules n)(FI:AV)(hFI:FI.pure=true):
 ∀(u:Nat)(s:Nat)(v:Nat)(dn:Nat->Bool)(ord:List Nat),Jk dn n<=u->s<n->QV d.rules n dn ord s ->
 B3 Tryz.prog 98 [.ptr 0 1 0 0,.int .i64 s,.ref 1 1 0 n] (Abs.hl (srtL d x n FI v dn ord)) λy H'=>∃v' dn' new,y=.tup [] /\
  H'=Abs.hl (srtL d x n FI v' dn' (ord++new))/\SF d.rules n dn ord s dn' new:=by
 intro u
 induction u using Nat.strongRecOn with
 |ind u ih =>
 intro s v dn ord hu hs hp;have hs0:(0:Int)<=s:=by omega
 have pR:=BO d.rules;have pFi:=Ch d.finals;have pX:=Bf x;have pRU:Bh (fD 1 e1 n (ruI d.rules))=true:=Gf λ_=>rfl;have lB:∀on,(spB n on).length=n:=λon=>by simp[spB]
 have aB:(spB n dn).getD s .any=.bool (dn s):=CU hs;have pB:∀on,Bh (spB n on)=true:=λon=>BZ.2 λy hy=>by obtain⟨i,_,rfl⟩:=Ax.1 hy;rfl
 refine DG (GD LS (W_T ?_));unfold HU;cases hd:dn s with
 |true =>
  rw[hd] at aB;have hso:s∈ord:=(hp.p2 s hs hd).resolve_right (z6l hl hc hs0);rw[srtL];unfold rnB;(with_reducible repeat'(first|simp(disch:=omega)only[push_cast,↓zz,seval,pR,pFi,pX,hFI,lB,aB,pB]|refine sp_ ?_ ?_<;>try(intro hc;push_cast at hc)|omega|intro _))
  all_goals exact⟨_,_,Ent.refl,v,dn,[],rfl,by rw[A4];rfl,⟨by simpa using hso,λa _=>by simp,by rw[A4];exact hp.p3,by rw[A4];exact hp.p4,λa ha=>by cases ha⟩⟩
 |false =>
  rw[hd] at aB;have hset:=zjg (on:=dn) hs;have lRU:(fD 1 e1 n (ruI d.rules)).length=n:=Y9;have aR:(fD 1 e1 n (ruI d.rules)).getD s .any=.lst 1 ((ruI d.rules s).map e1):=zct hs;have aR2:(fD 1 e1 n (ruI d.rules))[s]? = some (.lst 1 ((ruI d.rules s).map e1)):=YA hs;have pI:Bh ((ruI d.rules s).map e1)=true:=E6 (λ_=>rfl) _;have hIl:=W5 d.rules s;have hsno:s∉ord:=λh=>by have:=hp.p1 s h;rw[hd] at this;cases this
  have hlt:∀dn',(∀a,a<n->dn a=true->dn' a=true)->dn' s=true->Jk dn' n<u:=λdn' h1 h2=>AX (UY hd h2 hs h1) hu;rw[srtL];unfold rnB ruV;generalize hRe:fD 1 e1 n (ruI d.rules)=RU at *;(with_reducible repeat'(first|simp(disch:=omega)only[push_cast,↓zz,seval,pR,pFi,pX,hFI,lB,aB,pB,hset,lRU,aR,aR2,pI]|refine sp_ ?_ ?_<;>try(intro hc;push_cast at hc)|omega|intro _))
  refine Br (Kl (λ(q:Nat × Nat × (Nat->Bool) × List Nat)=>q.1<=(ruI d.rules s).length/\Hold (Pr d.rules n dn ord s q.2.2.1 q.2.2.2 q.1)) (λq=>(ruI d.rules s).length-q.1)
   (λq=>EB [(0,.ptr 0 1 0 0),(1,.int .i64 s),(2,.ref 1 1 0 n),(22,.lst 1 ((ruI d.rules s).map e1)),(23,.int .i64 (ruI d.rules s).length),(24,.int .i64 q.1)])
   (λq=>Abs.hl (srtL d x n FI q.2.1 q.2.2.1 (ord++q.2.2.2))) (0,v,setB dn s,[]) ⟨Au _,⟨?_⟩⟩ ?_ ?_)
  ·refine⟨λa _=>?_,by rw[A4];exact hp.p3,by rw[A4];exact hp.p4,λa ha=>(by cases ha),λj hj=>absurd hj (Ba _)⟩
   simp only[setB];by_cases e:a=s<;>simp[e]
  ·refine Gs (gar:=[]) _ ?_ (by simp[srtL,hl_n]) (F7 d x n FI hFI _ _ _) ?_
   ·rw[A4,A4,srtL]
    unfold rnB ruV;rw[hRe]
   ·have hI:ltV 3 (.lst 1 ((ruI d.rules s).map e1)):=Cy _ _ pI
    exact⟨rfl,(show 0<3 by omega),rfl,trivial,rfl,(show 1<3 by omega),rfl,hI,rfl,trivial,rfl,trivial,trivial⟩
  rintro⟨k,v1,dk,new⟩ ⟨hk,⟨hm⟩⟩;simp only at hk hm ⊢;have hI:ltV 3 (.lst 1 ((ruI d.rules s).map e1)):=Cy _ _ pI;rcases Ak k (ruI d.rules s).length with hkl|hkl
  ·obtain⟨i,hi⟩:∃i,i=nth (ruI d.rules s) k:=⟨_,rfl⟩
   have him:i∈ruI d.rules s:=by rw[hi];exact AS hkl
   obtain⟨i1,i2⟩:=HE.1 him;have aI:((ruI d.rules s).map e1).getD k .any=.int .i64 i:=by rw[hi];simp[nth,List.getD,hkl]
   have hto:=(hl _ (AS i1)).2;have hmid:=λdn2 new2 h=>zcy (dn:=dn) (ord:=ord) (s:=s) (dk:=dk) (new:=new) (dn2:=dn2) (new2:=new2) hm hp hkl hi h;have hskip:=zcx (dn:=dn) (ord:=ord) (s:=s) (dk:=dk) (new:=new) hm hkl hi;have hpre:=λh=>zjp (dn:=dn) (ord:=ord) (s:=s) (dk:=dk) (new:=new) (i:=i) hm hp him h;generalize hre:nth d.rules i=r at *;have hgr:=BQ r.guards;have hot:=Ct r.out;obtain⟨j,hj⟩:∃j:Nat,r.to_=j:=⟨r.to_.toNat,by omega⟩;have hjn:j<n:=by omega
   rw[srtL];unfold rnB ruV;rw[hRe];refine W_T ?_;cases he:Dk r with
   |true =>
    have he0:(r.guards.length:Int)=0:=by simpa [Dk] using he
    have hIH:=ih (Jk dk n) (hlt dk (λa ha h=>(hm.m3 a ha).2 (.inl h)) ((hm.m3 s hs).2 (.inr (.inl rfl)))) j v1 dk (ord++new) (Ad _) hjn (hpre he j hj);(with_reducible repeat'(first|simp(disch:=omega)only[push_cast,↓zz,seval,pR,pFi,pX,hFI,lB,pB,pI,aI,hre,hgr,hot,hj,i1,he0]|refine sp_ ?_ ?_<;>try(intro hc;push_cast at hc)|omega|intro _));refine z6k (l0:=srtL d x n FI v1 dk (ord++new)) (extra:=[_]) (by rw[srtL];unfold rnB ruV;rw[hRe,Aj];rfl) hIH ?_ (F7 d x n FI hFI _ _ _) ?_
    ·exact⟨(show 0<3 by omega),trivial,(show 1<3 by omega),trivial⟩
    rintro y H' ⟨v2,dn2,new2,rfl,rfl,hpost⟩;refine⟨_,rfl,rfl,trivial,F7 d x n FI hFI _ _ _,?_⟩;have hM:=hmid dn2 new2 ⟨he,j,hj,hpost⟩;rw[A3];(with_reducible repeat'(first|simp(disch:=omega)only[push_cast,↓zz,seval]|refine sp_ ?_ ?_<;>try(intro hc;push_cast at hc)|omega|intro _));refine⟨(k+1,v2,dn2,new++new2),Gs (gar:=[_]) _ rfl (by simp[srtL,hl_n]) (F7 d x n FI hFI _ _ _) ?_,⟨by omega,⟨hM⟩⟩,by simp only;omega⟩;exact⟨rfl,(show 0<3 by omega),rfl,trivial,rfl,(show 1<3 by omega),rfl,hI,rfl,trivial,rfl,trivial,trivial⟩
   |false =>
    have he0:¬(r.guards.length:Int)=0:=by simpa [Dk] using he
    (with_reducible repeat'(first|simp(disch:=omega)only[push_cast,↓zz,seval,pR,pFi,pX,hFI,lB,pB,pI,aI,hre,hgr,hot,hj,i1,he0]|refine sp_ ?_ ?_<;>try(intro hc;push_cast at hc)|omega|intro _));refine⟨(k+1,v1,dk,new),Gs (gar:=[⟨5,1,true,[.agg [.int .i64 r.from_,.int .i64 j,Du r.guards,.int .i64 r.eat,GG r.out]]⟩]) _ ?_ (by simp[srtL,hl_n]) (F7 d x n FI hFI _ _ _) ?_,⟨by omega,⟨hskip he⟩⟩,by simp only;omega⟩
    ·simp only
     rw[srtL];unfold rnB ruV;rw[hRe,Aj];rfl
    ·exact⟨rfl,(show 0<3 by omega),rfl,trivial,rfl,(show 1<3 by omega),rfl,hI,rfl,trivial,rfl,trivial,trivial⟩
  ·obtain rfl:k=(ruI d.rules s).length:=by omega
   have hend:=zjq hm hp hs hsno hd
   have hol:(ord++new).length<=n:=by
    have:=I5 (l:=ord++new) (m:=List.range n) hm.m5.1 λa ha=>Bq.2 (hm.m5.2 a ha);simpa using this
   have hEx:=zjm (e:=e1) (ord++new);have pO:Bh ((ord++new).map e1)=true:=E6 (λ_=>rfl) _;have eO:(ord++(new++[s])).map e1=(ord++new).map e1++[.int .i64 (s:Int)]:=by simp
   have eL:(ord++(new++[s])).length=(ord++new).length+1:=by simp;omega
   have hfin:∀v1,srtL d x n FI (v1+1) dk (ord++(new++[s]))=[⟨11,1,true,[rnB d x (ruV d.rules n) FI (.ref 2 (v1+1) 0 ((ord++new).length+1)) .nilS]⟩,⟨1,1,true,spB n dk⟩,⟨1,v1+1,false,(ord++new).map e1++[.int .i64 (s:Int)]⟩]:=λv1=>by
    have he:(ord++(new++[s])).isEmpty=false:=by simp
    rw[srtL,gG,eO,eL,he]
   rw[srtL,gG];generalize ord++new=on at *;unfold rnB ruV;rw[hRe];refine W_T ?_;(with_reducible repeat'(first|simp(disch:=omega)only[push_cast,↓zz,seval,pR,pFi,pX,hFI,lB,pB,pI,hEx,pO]|refine sp_ ?_ ?_<;>try(intro hc;push_cast at hc)|omega|intro _));refine⟨_,_,GV (l0:=srtL d x n FI (v1+1) dk (ord++(new++[s]))) (gar:=[⟨1,1,true,[.int .i64 (s:Int)]⟩]) ?_ (by simp[srtL,hl_n]) (F7 d x n FI hFI _ _ _) trivial,v1+1,dk,new++[s],rfl,rfl,hend⟩;rw[hfin];unfold rnB ruV;rw[hRe];rfl
def lvB(n m:Nat)(L:Nat->Nat->Bool):List AV:=(List.range m).map λp=>AV.bool (L (p / n) (p % n))
def setP{β:Type}(L:Nat->Nat->β)(a t:Nat)(v:β):Nat->Nat->β:=λb u=>if b=a/\u=t then v else L b u
section
variable {n m a t:Nat}{L:Nat->Nat->Bool}
theorem Lt(h:t<n):(a * n+t) / n=a:=by
 rw[CI,Nat.mul_add_div (by omega),Nat.div_eq_of_lt h,Nat.add_zero]
theorem Lu(h:t<n):(a * n+t) % n=t:=by
 rw[CI,Nat.mul_add_mod,EK h]
theorem YF{p:Nat}(h:t<n)(hp:p / n=a/\p % n=t):p=a * n+t:=by
 have:=FZ p n;rw[hp.1,hp.2,CI] at this;exact this.symm
theorem GW{k:Nat}(h:t<n)(ha:a<=k):a * n+t<(k+1) * n:=by
 have h1:a * n<=k * n:=AU n ha;have h2:(k+1) * n=k * n+n:=Nat.succ_mul k n;omega
theorem Kz:(lvB n m L).length=m:=by simp[lvB]
theorem N5:Bh (lvB n m L)=true:=BZ.2 λx hx=>by
 obtain⟨i,_,rfl⟩:=Ax.1 hx;rfl
theorem zfe{z:AV}(ht:t<n)(hp:a * n+t<m):(lvB n m L).getD (a * n+t) z=.bool (L a t):=by
 rw[lvB,CU hp,Lt ht,Lu ht]
theorem z6m{v:Bool}(ht:t<n)(hp:a * n+t<m):(lvB n m L).set (a * n+t) (.bool v)=lvB n m (setP L a t v):=by
 rw[lvB,E5 hp,lvB];refine AT λp _=>?_;simp only[setP];by_cases e:p=a * n+t
 ·subst e;rw[Ae rfl,Lt ht,Lu ht,Ae ⟨rfl,rfl⟩]
 ·rw[Ab e,Ab λh=>e (YF ht h)]
theorem zd0:List.replicate m (AV.bool false)=lvB n m λ_ _=>false:=by
 refine Cm (by simp[lvB]) λi h1 h2=>?_;simp[lvB]
end
structure Liv(d:Desc)(x:List Int)(n:Nat)(ord:List Nat)(at_ j:Nat)(L:Nat->Nat->Bool):Prop where
 start:L 0 d.start.toNat=true
 lead:∀a t,L a t=true->t<n/\a<=x.length/\∃u,Wz d x 0 d.start u a t
 clos:∀a t,(a<at_\/(a=at_/\t∈ord.drop (n-j)))->L a t=true->∀r∈d.rules,r.from_=(t:Nat)->goB x r.guards a=true->L (a+r.eat.toNat) r.to_.toNat=true
structure LivS(d:Desc)(x:List Int)(n:Nat)(ord:List Nat)(at_ j s k:Nat)(L:Nat->Nat->Bool):Prop where
 liv:Liv d x n ord at_ j L
 on:L at_ s=true
 some_:∀i,i<k->goB x (nth d.rules (nth (ruI d.rules s) i)).guards at_=true->L (at_+(nth d.rules (nth (ruI d.rules s) i)).eat.toNat) (nth d.rules (nth (ruI d.rules s) i)).to_.toNat=true
structure LivE(d:Desc)(x:List Int)(n:Nat)(L:Nat->Nat->Bool):Prop where
 start:L 0 d.start.toNat=true
 lead:∀a t,L a t=true->t<n/\a<=x.length/\∃u,Wz d x 0 d.start u a t
 clos:∀a t,L a t=true->∀r∈d.rules,r.from_=(t:Nat)->goB x r.guards a=true->L (a+r.eat.toNat) r.to_.toNat=true
section
variable {d:Desc}{x:List Int}{n:Nat}{ord:List Nat}{at_ j s k:Nat}{L:Nat->Nat->Bool}
theorem EM(ht:Topo d.rules n ord):ord.length=n:=by
 have h1:=I5 (l:=ord) (m:=List.range n) ht.nodup λa ha=>Bq.2 ((ht.all a).1 ha);have h2:=I5 (l:=List.range n) (m:=ord) DT λa ha=>(ht.all a).2 (Bq.1 ha);simp at h1 h2;omega
theorem zd1(hs:0<=d.start/\d.start<n)(hol:ord.length=n):Liv d x n ord 0 0 (setP (λ_ _=>false) 0 d.start.toNat true):=by
 refine⟨by simp[setP],λa t h=>?_,λa t h hL=>?_⟩
 ·simp only[setP] at h
  split at h
  ·rename_i e
   obtain⟨rfl,rfl⟩:=e;refine⟨by omega,Au _,[],?_⟩;rw[BE hs.1];exact .here
  ·cases h
 ·rcases h with h|⟨_,h⟩
  ·omega
  ·rw[An (by omega)] at h;cases h
theorem z6n(h:Liv d x n ord at_ j L)(ho:L at_ s=true):LivS d x n ord at_ j s 0 L:=⟨h,ho,λi hi=>absurd hi (Ba _)⟩
theorem zjr(h:LivS d x n ord at_ j s k L)(hno:goB x (nth d.rules (nth (ruI d.rules s) k)).guards at_=false):LivS d x n ord at_ j s (k+1) L:=by
 refine⟨h.liv,h.on,λi hi hg=>?_⟩;rcases Ak i k with h1|h1
 ·exact h.some_ i h1 hg
 ·obtain rfl:i=k:=by omega
  rw[hno] at hg;cases hg
theorem zd2(h:LivS d x n ord at_ j s k L)(hg:Goes d n)(ht:Topo d.rules n ord)(hj:j<n)(hs:s=nth ord (n-1-j))(hk:k<(ruI d.rules s).length)(hgo:goB x (nth d.rules (nth (ruI d.rules s) k)).guards at_=true):
 LivS d x n ord at_ j s (k+1) (setP L (at_+(nth d.rules (nth (ruI d.rules s) k)).eat.toNat) (nth d.rules (nth (ruI d.rules s) k)).to_.toNat true):=by
 obtain⟨i1,i2⟩:=HE.1 (AS hk);have hr:=AS i1;generalize hre:nth d.rules (nth (ruI d.rules s) k)=r at *;obtain⟨hf,htt,he1,he2⟩:=hg.r r hr;have hle:=JR hgo
 have mono:∀a t,L a t=true->setP L (at_+r.eat.toNat) r.to_.toNat true a t=true:=λa t hl=>by
  simp only[setP];split
  ·rfl
  ·exact hl
 have hol:=EM ht;refine⟨⟨mono _ _ h.liv.start,λa t hl=>?_,λa t hp hl q hq hqf hqg=>mono _ _ ?_⟩,mono _ _ h.on,λi hi hgi=>?_⟩
 ·simp only[setP] at hl
  split at hl
  ·rename_i e
   obtain⟨rfl,rfl⟩:=e;obtain⟨_,_,u,hu⟩:=h.liv.lead _ _ h.on;refine⟨by omega,by omega,u++FM x r.out r.guards at_,?_⟩;have:=hu.step r hr i2 hgo
   rwa [BE htt.1]
  ·exact h.liv.lead a t hl
 ·refine h.liv.clos a t hp ?_ q hq hqf hqg
  simp only[setP] at hl;split at hl
  ·rename_i e
   exfalso;obtain⟨rfl,rfl⟩:=e;rcases hp with hp|⟨hp,hm⟩
   ·omega
   ·have e0:r.eat.toNat=0:=by omega
    have heps:Dk r=true:=by
     cases hh:Dk r with
     |true=>rfl
     |false=>have:=he2 hh;omega
    obtain⟨t,t1,t2⟩:=ht.eps (n-1-j) (by omega) r hr heps (by rw[<-hs];exact i2);have e3:r.to_.toNat=t:=by omega
    rw[e3] at hm;have hm2:t∈ord.drop (n-1-j):=BF (i:=1) (by rw[List.drop_drop,show n-1-j+1=n-j by omega];exact hm);have hnd:=ht.nodup;rw[<-Ck (n-1-j) ord,CQ] at hnd;exact hnd.2.2 t t2 t hm2 rfl
  ·exact hl
 ·rcases Ak i k with h1|h1
  ·exact mono _ _ (h.some_ i h1 hgi)
  ·obtain rfl:i=k:=by omega
   rw[hre];simp[setP]
theorem MZ{l:List Nat}{i t:Nat}(hi:i<l.length)(h:t∈l.drop i):t=nth l i\/t∈l.drop (i+1):=by
 rw[drop_at hi,Af] at h;exact h
theorem zd3(h:LivS d x n ord at_ j s (ruI d.rules s).length L)(ht:Topo d.rules n ord)(hj:j<n)(hs:s=nth ord (n-1-j)):Liv d x n ord at_ (j+1) L:=by
 have hol:=EM ht;refine⟨h.liv.start,h.liv.lead,λa t hp hl q hq hqf hqg=>?_⟩;rcases hp with hp|⟨rfl,hm⟩
 ·exact h.liv.clos a t (.inl hp) hl q hq hqf hqg
 ·rw[show n-(j+1)=n-1-j by omega] at hm
  rcases MZ (by omega) hm with h1|h1
  ·rw[<-hs] at h1
   subst h1;obtain⟨i,hi,rfl⟩:=Bv hq;have e:nth d.rules i=d.rules[i]:=Gp hi;obtain⟨p,hp,hpe⟩:=Bv (HE.2 ⟨hi,by rw[e];exact hqf⟩);have e2:nth (ruI d.rules t) p=i:=by rw[Gp hp];exact hpe
   have:=h.some_ p hp (by rw[e2,e];exact hqg)
   rwa [e2,e] at this
  ·exact h.liv.clos a t (.inr ⟨rfl,by rwa [show n-j=n-1-j+1 by omega]⟩) hl q hq hqf hqg
theorem zd4(h:Liv d x n ord at_ j L)(ht:Topo d.rules n ord)(hj:j<n)(hs:s=nth ord (n-1-j))(ho:L at_ s=false):Liv d x n ord at_ (j+1) L:=by
 have hol:=EM ht;refine⟨h.start,h.lead,λa t hp hl q hq hqf hqg=>?_⟩;rcases hp with hp|⟨rfl,hm⟩
 ·exact h.clos a t (.inl hp) hl q hq hqf hqg
 ·rw[show n-(j+1)=n-1-j by omega] at hm
  rcases MZ (by omega) hm with h1|h1
  ·rw[<-hs] at h1
   subst h1;rw[ho] at hl;cases hl
  ·exact h.clos a t (.inr ⟨rfl,by rwa [show n-j=n-1-j+1 by omega]⟩) hl q hq hqf hqg
theorem zjs(h:Liv d x n ord at_ n L)(ht:Topo d.rules n ord):Liv d x n ord (at_+1) 0 L:=by
 have hol:=EM ht;refine⟨h.start,h.lead,λa t hp hl q hq hqf hqg=>?_⟩;rcases hp with hp|⟨_,hm⟩
 ·rcases Ak a at_ with h1|h1
  ·exact h.clos a t (.inl h1) hl q hq hqf hqg
  ·refine h.clos a t (.inr ⟨by omega,?_⟩) hl q hq hqf hqg
   rw[Nat.sub_self,B6];exact (ht.all t).2 (h.lead a t hl).1
 ·rw[Nat.sub_zero,An (by omega)] at hm;cases hm
theorem zjt(h:Liv d x n ord (x.length+1) 0 L):LivE d x n L :=
 ⟨h.start,h.lead,λa t hl q hq hqf hqg=>h.clos a t (.inl (by have:=(h.lead a t hl).2.1;omega)) hl q hq hqf hqg⟩
structure QW(l:List Rule)(n k:Nat)(dn:Nat->Bool)(ord:List Nat):Prop where
 a1:∀a,a<n->(dn a=true↔a∈ord)
 a2:W7 l ord
 a3:ord.Nodup/\∀a∈ord,a<n
 a4:∀a,a<k->a∈ord
theorem W8(l:List Rule)(n:Nat):QW l n 0 (λ_=>false) [] :=
 ⟨λa _=>by simp,λi hi=>absurd hi (Ba _),⟨Dc,λa h=>by cases h⟩,λa h=>absurd h (Ba _)⟩
theorem z0q{l:List Rule}{dn:Nat->Bool}(h:QW l n k dn ord):QV l n dn ord k :=
 ⟨λa ha=>(h.a1 a (h.a3.2 a ha)).2 ha,λa ha hd=>.inl ((h.a1 a ha).1 hd),h.a2,h.a3⟩
theorem W9{l:List Rule}{dn dn':Nat->Bool}{new:List Nat}(h:QW l n k dn ord)(hp:SF l n dn ord k dn' new):QW l n (k+1) dn' (ord++new):=by
 refine⟨λa ha=>?_,hp.q4,hp.q5,λa ha=>?_⟩
 ·rw[hp.q3 a ha,h.a1 a ha,Ao]
 ·rcases Ak a k with h1|h1
  ·exact C0 _ (h.a4 a h1)
  ·obtain rfl:a=k:=by omega
   exact hp.q2
theorem WA{l:List Rule}{dn:Nat->Bool}(h:QW l n n dn ord):Topo l n ord :=
 ⟨h.a3.1,λs=>⟨h.a3.2 s,h.a4 s⟩,h.a2⟩
end
section
variable {d:Desc}{x:List Int}{n:Nat}{ord:List Nat}{L:Nat->Nat->Bool}
def Past(ord:List Nat)(at_ j a t:Nat):Prop:=at_<a\/(a=at_/\t∈ord.take j)
theorem zd5{at_ a t:Nat}(hol:ord.length=n)(ht:t∈ord)(h:Past ord at_ 0 a t):Past ord (at_+1) n a t:=by
 rcases h with h|⟨_,h⟩
 ·rcases Ak (at_+1) a with h1|h1
  ·exact .inl h1
  ·exact .inr ⟨by omega,by rw[Az (by omega)];exact ht⟩
 ·simp at h
theorem UZ{at_ j a t:Nat}(hj:j<ord.length)(h:Past ord at_ (j+1) a t):Past ord at_ j a t\/(a=at_/\t=nth ord j):=by
 rcases h with h|⟨h1,h⟩
 ·exact .inl (.inl h)
 ·rw[take_at hj,Ao,Am] at h
  rcases h with h|h
  ·exact .inl (.inr ⟨h1,h⟩)
  ·exact .inr ⟨h1,h⟩
theorem WB(hg:Goes d n)(ht:Topo d.rules n ord){at_ j:Nat}(hj:j<n){r:Rule}(hr:r∈d.rules)(hf:r.from_=(nth ord j:Nat)):Past ord at_ j (at_+r.eat.toNat) r.to_.toNat:=by
 obtain⟨_,htt,he1,he2⟩:=hg.r r hr;cases he:Dk r with
 |true =>
  have e0:=z6c hg hr he;obtain⟨t,t1,t2⟩:=ht.eps j (by rw[EM ht];exact hj) r hr he hf;refine .inr ⟨by omega,?_⟩;rw[show r.to_.toNat=t by omega];exact t2
 |false=>exact .inl (by have:=he2 he;omega)
theorem zju(hg:Goes d n)(ht:Topo d.rules n ord)(ho:(∀r∈d.rules,r.out.length<=64)/\∀f∈d.finals,f.out.length<=64):∀(k at_:Nat),x.length-at_<k->at_<=x.length->∀i,i<=n->∀s∈ord.take i,∀w,RelW d x at_ (s:Nat) w->w.length<=64 * ((x.length-at_) * n+i):=by
 have hl:∀(out:List Term) gs a,(FM x out gs a).length=out.length:=λout gs a=>by simp[FM,FS]
 have hol:=EM ht;intro k
 induction k with
 |zero=>intro at_ h;omega
 |succ k ih =>
  intro at_ hk ha i
  induction i with
  |zero=>intro _ s hs;simp at hs
  |succ i ihi =>
   intro hi s hs w hw;rw[take_at (by omega),Ao,Am] at hs;rcases hs with hs|rfl
   ·have:=ihi (by omega) s hs w hw
    omega
   ·rcases I6.1 hw with⟨f,hf,_,_,rfl⟩|⟨r,hr,hf,hgo,v,hv,rfl⟩
    ·rw[hl]
     have:=ho.2 f hf;have:64 * ((x.length-at_) * n+i+1)≥64:=by omega
     omega
    ·rw[Aj,hl]
     have h64:=ho.1 r hr;obtain⟨_,htt,e1,e2⟩:=hg.r r hr;have hle:=JR hgo;have hv2:RelW d x (at_+r.eat.toNat) (r.to_.toNat:Nat) v:=by rw[BE htt.1];exact hv
     have key:v.length<=64 * ((x.length-at_) * n+i):=by
      rcases WB (at_:=at_) hg ht (by omega:i<n) hr hf with hp|⟨hp,hm⟩
      ·have h1:=ih (at_+r.eat.toNat) (by omega) (by omega) n (Ad _) r.to_.toNat (by rw[Az (by omega)];exact (ht.all _).2 (by omega)) v hv2
       have h2:(x.length-(at_+r.eat.toNat)) * n+n<=(x.length-at_) * n:=by
        rw[<-Nat.succ_mul];exact AU n (by omega)
       omega
      ·rw[hp] at hv2
       exact ihi (by omega) _ hm v hv2
     omega
theorem SG(hg:Goes d n)(ht:Topo d.rules n ord)(ho:(∀r∈d.rules,r.out.length<=64)/\∀f∈d.finals,f.out.length<=64)(hn:n<=1024)(hx:x.length<=1024){at_ s:Nat}(ha:at_<=x.length)(hs:s<n){w:List Int}(hw:RelW d x at_ s w):w.length<=100000000:=by
 have h1:=zju hg ht ho (x.length-at_+1) at_ (by omega) ha n (Ad _) s (by rw[Az (by rw[EM ht];omega)];exact (ht.all s).2 hs) w hw;have h2:(x.length-at_) * n<=1024 * 1024:=Ca (by omega) hn;omega
structure OutI(d:Desc)(x:List Int)(L:Nat->Nat->Bool)(ord:List Nat)(most:Nat)(at_ j:Nat)(S:Nat->Nat->List (List Int))(many:Bool):Prop where
 no:many=false->∀a t,a<=x.length->L a t=true->Past ord at_ j a t->S a t=outW d x a t/\(S a t).length<=most
 yes:many=true->∃a t,L a t=true/\most<(outW d x a t).length
variable {most at_ j:Nat}{S:Nat->Nat->List (List Int)}{many:Bool}
theorem z6o(ho:ord.length=n):OutI d x L ord most x.length 0 (λ_ _=>[]) false:=by
 refine⟨λ_ a t ha _ hp=>?_,λh=>by cases h⟩;rcases hp with h|⟨_,h⟩
 ·omega
 ·simp at h
theorem z6p(h:OutI d x L ord most at_ j S true)(at2 j2:Nat):OutI d x L ord most at2 j2 S true:=⟨λh=>(by cases h),h.yes⟩
theorem z6q(h:OutI d x L ord most at_ j S many)(hj:j<ord.length)(ho:L at_ (nth ord j)=false):OutI d x L ord most at_ (j+1) S many:=by
 refine⟨λhm a t ha hl hp=>?_,h.yes⟩;rcases UZ hj hp with h1|⟨rfl,rfl⟩
 ·exact h.no hm a t ha hl h1
 ·rw[ho] at hl;cases hl
theorem zd6(h:OutI d x L ord most (at_+1) n S many)(hl:LivE d x n L)(ht:Topo d.rules n ord):OutI d x L ord most at_ 0 S many:=⟨λhm a t ha hlt hp=>h.no hm a t ha hlt (zd5 (EM ht) ((ht.all t).2 (hl.lead a t hlt).1) hp),h.yes⟩
theorem Na(hg:Goes d n)(ht:Topo d.rules n ord){a t:Nat}(ha:a<=x.length)(hs:t<n):JG d x a t (outW d x a t):=UQ (zo5 hg ht (x.length-a+1) a (by omega) ha t hs)
theorem zjv(h:OutI d x L ord most at_ j S false)(hl:LivE d x n L)(hg:Goes d n)(ht:Topo d.rules n ord)(hj:j<n)(ha:at_<=x.length)(hlv:L at_ (nth ord j)=true):I4 (outL d x (λa t=>S a t.toNat) at_ (nth ord j:Nat))=outW d x at_ (nth ord j:Nat):=by
 refine (Wy (Y7 λr hr hf hgo=>?_)).symm;obtain⟨_,htt,e1,e2⟩:=hg.r r hr;have hle:=JR hgo;have h1:=h.no rfl (at_+r.eat.toNat) r.to_.toNat (by omega) (hl.clos _ _ hlv r hr hf hgo) (WB hg ht hj hr hf);have h2:=Na hg ht (x:=x) (a:=at_+r.eat.toNat) (t:=r.to_.toNat) (by omega) (by omega);rw[<-h1.1,BE htt.1] at h2;exact h2
theorem z6r(h:OutI d x L ord most at_ j S false)(hl:LivE d x n L)(hg:Goes d n)(ht:Topo d.rules n ord)(hj:j<n)(ha:at_<=x.length)(hlv:L at_ (nth ord j)=true){M:List (List Int)}(hM:M=outW d x at_ (nth ord j:Nat)):OutI d x L ord most at_ (j+1) (setP S at_ (nth ord j) M) (decide (most<M.length)):=by
 refine⟨λhm a t hal hlt hp=>?_,λhm=>?_⟩
 ·simp only[AQ,Nat.not_lt] at hm
  simp only[setP];by_cases e:a=at_/\t=nth ord j
  ·rw[Ae e]
   obtain⟨rfl,rfl⟩:=e;exact⟨hM,hm⟩
  ·rw[Ab e]
   rcases UZ (by rw[EM ht];exact hj) hp with h1|h1
   ·exact h.no rfl a t hal hlt h1
   ·exact absurd h1 e
 ·simp only[Ah] at hm
  exact⟨at_,nth ord j,hlv,by rw[<-hM];exact hm⟩
theorem zd7(h:OutI d x L ord most 0 n S many)(hl:LivE d x n L)(hg:Goes d n)(ht:Topo d.rules n ord)(hs:0<=d.start/\d.start<n):many=decide (most<(outW d x 0 d.start).length)/\(many=false->S 0 d.start.toNat=outW d x 0 d.start):=by
 have hst:((d.start.toNat:Nat):Int)=d.start:=BE hs.1;have hO:=Na hg ht (x:=x) (a:=0) (t:=d.start.toNat) (Au _) (by omega);rw[hst] at hO;cases many with
 |false =>
  have h1:=h.no rfl 0 d.start.toNat (Au _) hl.start (.inr ⟨rfl,by rw[Az (by rw[EM ht];omega)];exact (ht.all _).2 (by omega)⟩);rw[hst] at h1;have h2:=h1.2;rw[h1.1] at h2;refine⟨?_,λ_=>h1.1⟩;rw[eq_comm,AQ];omega
 |true =>
  obtain⟨a,t,h1,h2⟩:=h.yes rfl;obtain⟨k1,k2,u,hu⟩:=hl.lead a t h1;have:=Y8 hu (Na hg ht k2 k1) hO;refine⟨?_,λh=>by cases h⟩;rw[eq_comm,Ah];omega
theorem zd8(hl:LivE d x n L)(hg:Goes d n)(ht:Topo d.rules n ord)(hs:0<=d.start/\d.start<n){a t:Nat}(h:L a t=true):(outW d x a t).length<=(outW d x 0 d.start).length:=by
 have hst:((d.start.toNat:Nat):Int)=d.start:=BE hs.1;have hO:=Na hg ht (x:=x) (a:=0) (t:=d.start.toNat) (Au _) (by omega);rw[hst] at hO;obtain⟨k1,k2,u,hu⟩:=hl.lead a t h;exact Y8 hu (Na hg ht k2 k1) hO
end
theorem Jl(n:Nat):Bh (List.replicate n AV.nilS)=true:=BZ.2 λx hx=>by rw[CV hx];rfl
def Va(xs:List Nat):List (List AV):=(List.range xs.length).map λ(k:Nat)=>[AV.int .i64 ((xs.length:Int)-1-(k:Int)),e1 (nth xs (xs.length-1-k))]
theorem Ps(xs:List Nat):(Va xs).length=xs.length:=by simp[Va]
theorem YG{xs:List Nat}{k:Nat}(h:k<xs.length):(Va xs)[k]? = some [AV.int .i64 ((xs.length:Int)-1-k),e1 (nth xs (xs.length-1-k))]:=by
 simp[Va,h]
theorem z6s{xs:List Nat}{k:Nat}{row:List AV}(h:(Va xs)[k]? = some row):k<xs.length/\row=[AV.int .i64 ((xs.length:Int)-1-k),e1 (nth xs (xs.length-1-k))]:=by
 have hk:k<xs.length:=by rw[<-Ps xs];exact (AI.1 h).1
 rw[YG hk] at h;exact⟨hk,(BW h).symm⟩
theorem z0r(xs:List Nat):∀r∈Va xs,∀x∈r,Flat x:=λr hr x hx=>by
 obtain⟨k,_,rfl⟩:=Ax.1 hr;simp only[Af,Ai,Ap] at hx;rcases hx with rfl|rfl<;>exact λS=>rfl
theorem z6t(xs:List Nat):∀r∈Va xs,r.length=2:=λr hr=>by
 obtain⟨k,_,rfl⟩:=Ax.1 hr;rfl
theorem z6u(xs:List Nat)(hl:xs.length<=1000000000000):TG Tryz.prog 134 [.cptr (.lst 1 (xs.map e1))] (Va xs):=by
 have pX:Bh (xs.map e1)=true:=E6 (λ_=>rfl) _;refine z4l Hj λI hP hr=>?_;show TI I _ Ef _ _ _ _;unfold Ef;refine Hw (TI_v hP (by rfl) ?_);(with_reducible repeat'(first|simp(disch:=omega)only[push_cast,↓zz,seval,pX]|refine sp_ ?_ ?_<;>try(intro hc;push_cast at hc)|omega|intro _));refine (Iu (We (λ(t:Nat) s env H=>t<=xs.length/\s=some t/\∀p∈[(0,AV.yld I.l),(1,AV.cptr (.lst 1 (xs.map e1))),(3,AV.int .i64 ((xs.length:Int)-1-t))],env p.1=p.2) (λt=>xs.length-t) 0 ?_ ?_):TI I 19 _ _ _ _ _)
 ·refine⟨Au _,rfl,?_⟩
  simp only[Af,Ai,Ap,Av,AH];refine⟨rfl,rfl,?_⟩;show AV.int .i64 ((xs.length:Int)-1)=AV.int .i64 ((xs.length:Int)-1-((0:Nat):Int));simp
 rintro t s env H ⟨ht,rfl,hlv⟩;refine z5b (live:=[(0,AV.yld I.l),(1,AV.cptr (.lst 1 (xs.map e1))),(3,AV.int .i64 ((xs.length:Int)-1-t))]) (λp hp=>⟨hlv p hp,?_⟩) ?_
 ·simp only[Af,Ai,Ap] at hp
  rcases hp with rfl|rfl|rfl<;>first|rfl|exact pX
 refine Hw (TI_v hP (by rfl) ?_);(with_reducible repeat'(first|simp(disch:=omega)only[push_cast,↓zz,seval]|refine sp_ ?_ ?_<;>try(intro hc;push_cast at hc)|omega|intro _))
 ·have htl:t<xs.length:=by omega
  have hrow:=YG htl
  have aX:(xs.map e1).getD (xs.length-1-t) .any=.int .i64 (nth xs (xs.length-1-t):Nat):=by
   have:xs.length-1-t<xs.length:=by omega
   simp[nth,List.getD,this]
  have hcast:((xs.length:Int)-1-t).toNat=xs.length-1-t:=by omega
  have hnx:(xs.length:Int)-1-t-1=(xs.length:Int)-1-((t+1:Nat):Int):=by push_cast;omega
  rw[show e1 (nth xs (xs.length-1-t))=AV.int .i64 ((nth xs (xs.length-1-t):Nat):Int) from rfl] at hrow;generalize nth xs (xs.length-1-t)=z at *;refine (Hw (Iu (Hw ?_)):TI I 19 _ _ _ _ _);refine Yb (pre:=[_,_,_,_,_,_]) (post:=[_]) rfl rfl ?_;rw[hP,<-LC];(with_reducible repeat'(first|simp(disch:=omega)only[push_cast,↓zz,seval,pX,aX,hcast]|refine sp_ ?_ ?_<;>try(intro hc;push_cast at hc)|omega|intro _));refine⟨[AV.int .i64 ((xs.length:Int)-1-t),AV.int .i64 (z:Int)],rfl,?_,by rw[hr];exact hrow,?_,?_⟩
  ·intro x hx
   simp only[Af,Ai,Ap] at hx;rcases hx with rfl|rfl<;>exact λS v hv=>hv
  ·rw[<-LC]
   (with_reducible repeat'(first|simp(disch:=omega)only[push_cast,↓zz,seval]|refine sp_ ?_ ?_<;>try(intro hc;push_cast at hc)|omega|intro _));refine (TI_v hP ?q1 ?_:TI I 19 _ _ _ _ _)
   case q1=>rfl
   (with_reducible repeat'(first|simp(disch:=omega)only[push_cast,↓zz,seval]|refine sp_ ?_ ?_<;>try(intro hc;push_cast at hc)|omega|intro _));refine (TI_v hP ?q2 ?_:TI I 19 _ _ _ _ _)
   case q2=>rfl
   (with_reducible repeat'(first|simp(disch:=omega)only[push_cast,↓zz,seval]|refine sp_ ?_ ?_<;>try(intro hc;push_cast at hc)|omega|intro _));refine⟨t+1,⟨by omega,rfl,rfl,rfl,?_⟩,by omega⟩;show AV.int .i64 ((xs.length:Int)-1-t-1)=AV.int .i64 ((xs.length:Int)-1-((t+1:Nat):Int));rw[hnx]
  ·rw[<-LC]
   (with_reducible repeat'(first|simp(disch:=omega)only[push_cast,↓zz,seval]|refine sp_ ?_ ?_<;>try(intro hc;push_cast at hc)|omega|intro _));refine (TI_v hP ?q3 ?_:TI I 19 _ _ _ _ _)
   case q3=>rfl
   (with_reducible repeat'(first|simp(disch:=omega)only[push_cast,↓zz,seval]|refine sp_ ?_ ?_<;>try(intro hc;push_cast at hc)|omega|intro _));exact⟨trivial,.inr rfl⟩
 ·refine⟨trivial,.inl ?_⟩
  rw[Ps];congr 1;omega
theorem Pt(xs:List Nat)(hl:xs.length<=1000000000000):PC Tryz.prog 99 [.lst 1 (xs.map e1)] (.fn 134 [.cptr (.lst 1 (xs.map e1))]):=by
 have pX:Bh (xs.map e1)=true:=E6 (λ_=>rfl) _;refine Cf H9 ?_;unfold FQ;(with_reducible repeat'(first|simp(disch:=omega)only[push_cast,↓zz,seval,pX]|refine sp_ ?_ ?_<;>try(intro hc;push_cast at hc)|omega|intro _))
end Go.Proofs.YtflibbceibjddaaGreat
