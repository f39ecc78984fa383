/-
  Parts of the proof that the law holds whatever the input; without conditions.
-/
import Derived.Test.YtbcjoeadpjfcfaaGreatRQ6
import Derived.Test.YtbcjoeadpjfcfaaGreatRQ5
set_option linter.unusedSimpArgs false
set_option linter.unusedVariables false
set_option linter.unusedSectionVars false
namespace Go.Proofs.YtbcjoeadpjfcfaaGreat
open Abs O1 O2 O3
theorem z6t{lo hi D q:Int}(hD:0<D)(h:lo<=hi):(∃x,lo<=x/\x<=hi/\x / D=q)↔lo / D<=q/\q<=hi / D:=by
 constructor
 ·rintro⟨x,h1,h2,rfl⟩
  exact⟨BY hD h1,BY hD h2⟩
 ·rintro⟨h1,h2⟩
  rcases Int.lt_or_eq_of_le h1 with h3|h3
  ·refine⟨q * D,?_,?_,Int.mul_ediv_cancel _ (by omega)⟩
   ·have:=(Int.ediv_lt_iff_lt_mul hD).1 h3;omega
   ·exact (Int.le_ediv_iff_mul_le hD).1 h2
  ·exact⟨lo,Bg _,h,h3⟩
theorem Ti{x y M:Int}(hM:0<M)(h1:x<=y)(h2:y-x<M):y / M=x / M\/y / M=x / M+1:=by
 have a:=BY hM h1;have c:y / M<=(x+M * 1) / M:=BY hM (by omega);rw[Int.add_mul_ediv_left _ _ (by omega)] at c;omega
theorem N5{w M k:Int}(h:0<=w/\w<M):(M * k+w) % M=w:=by
 rw[Int.add_comm,Int.add_mul_emod_self_left,Int.emod_eq_of_lt h.1 h.2]
theorem z6u{a b M w:Int}(hM:0<M)(hab:a<=b)(hs:b-a<M-1):
 (∃q,a<=q/\q<=b/\q % M=w)↔if a % M<=b % M then a % M<=w/\w<=b % M else (0<=w/\w<=b % M)\/(a % M<=w/\w<=M-1):=by
 have ea:=D8 a M;have eb:=D8 b M;have a1:=B1 a (by omega:M≠0);have a2:=Bu a hM;have b1:=B1 b (by omega:M≠0);have b2:=Bu b hM;constructor
 ·rintro⟨q,h1,h2,rfl⟩
  have eq:=D8 q M;have q1:=B1 q (by omega:M≠0);have q2:=Bu q hM;have k1:=Ti hM hab (by omega);have k2:=Ti hM h1 (by omega);have e1:M * (a / M+1)=M * (a / M)+M:=by rw[Int.mul_add,Gu]
  rcases k1 with k1|k1<;>rcases k2 with k2|k2<;>rw[k1] at eb<;>rw[k2] at eq<;>(try rw[e1] at eb)<;>(try rw[e1] at eq)<;>split<;>omega
 ·intro h
  have k1:=Ti hM hab (by omega);have e1:M * (a / M+1)=M * (a / M)+M:=by rw[Int.mul_add,Gu]
  rcases k1 with k1|k1
  ·rw[k1] at eb
   rw[Ae (by omega)] at h;exact⟨M * (a / M)+w,by omega,by omega,N5 (by omega)⟩
  ·rw[k1,e1] at eb
   rw[Ac (by omega)] at h;rcases h with h|h
   ·exact⟨M * (a / M+1)+w,by omega,by omega,N5 (by omega)⟩
   ·exact⟨M * (a / M)+w,by omega,by omega,N5 (by omega)⟩
theorem zd4{a b M w:Int}(hM:0<M)(hs:M-1<=b-a):(∃q,a<=q/\q<=b/\q % M=w)↔0<=w/\w<=M-1:=by
 constructor
 ·rintro⟨q,_,_,rfl⟩
  have q1:=B1 q (by omega:M≠0);have q2:=Bu q hM;omega
 ·intro h
  have e:=D8 (w-a) M;have q1:=B1 (w-a) (by omega:M≠0);have q2:=Bu (w-a) hM;refine⟨a+(w-a) % M,by omega,by omega,?_⟩;have:a+(w-a) % M=M * (-((w-a) / M))+w:=by rw[Int.mul_neg];omega
  rw[this,N5 (by omega)]
theorem YU{d t:Nat}{s:Span}{w:Int}(hs:s.lo<=s.hi)(hn:¬(2 ^ t-1:Int)<=s.hi / 2 ^ d-s.lo / 2 ^ d):memL (imgS d t s) w↔∃x,(s.lo<=x/\x<=s.hi)/\x / 2 ^ d % 2 ^ t=w:=by
 have hD:(0:Int)<2 ^ d:=Db (by decide);have hT:(0:Int)<2 ^ t:=Db (by decide);have hab:=BY hD hs
 have key:(∃x,(s.lo<=x/\x<=s.hi)/\x / 2 ^ d % 2 ^ t=w)↔∃q,s.lo / 2 ^ d<=q/\q<=s.hi / 2 ^ d/\q % 2 ^ t=w:=by
  constructor
  ·rintro⟨x,⟨h1,h2⟩,h3⟩
   exact⟨x / 2 ^ d,BY hD h1,BY hD h2,h3⟩
  ·rintro⟨q,h1,h2,h3⟩
   obtain⟨x,k1,k2,k3⟩:=(z6t hD hs).2 ⟨h1,h2⟩;exact⟨x,⟨k1,k2⟩,by rw[k3];exact h3⟩
 rw[key,z6u hT hab (by omega),imgS];split
 ·simp[Bw,Ch]
 ·simp[Bw,Ch]
theorem YV{d t:Nat}{w:Int}:∀(l out:List Span),(∀s∈l,s.lo<=s.hi)->(∀v,memL out v->0<=v/\v<=2 ^ t-1)->(memL (imgF d t l out) w↔memL out w\/∃x,memL l x/\x / 2 ^ d % 2 ^ t=w)
 |[],out,_,_=>by simp[imgF,Ch]
 |s::l,out,h,ho=>by
  have hD:(0:Int)<2 ^ d:=Db (by decide);have hT:(0:Int)<2 ^ t:=Db (by decide);have hs:=h s (by simp);rw[imgF];split
  ·rename_i hb
   have hf:=zd4 (w:=w) hT hb;constructor
   ·intro hw
    have hw':0<=w/\w<=2 ^ t-1:=by simpa [allS,Bw,Ch] using hw
    obtain⟨q,h1,h2,h3⟩:=hf.2 hw';obtain⟨x,k1,k2,k3⟩:=(z6t hD hs).2 ⟨h1,h2⟩;exact .inr ⟨x,Bw.2 (.inl ⟨k1,k2⟩),by rw[k3];exact h3⟩
   ·intro hw
    have:0<=w/\w<=2 ^ t-1:=by
     rcases hw with hw|⟨x,_,rfl⟩
     ·exact ho w hw
     ·have q1:=B1 (x / 2 ^ d) (by omega:(2:Int) ^ t≠0)
      have q2:=Bu (x / 2 ^ d) hT;omega
    simpa [allS,Bw,Ch] using this
  ·rename_i hb
   rw[YV l _ (λs hs=>h s (by simp[hs])) (λv hv=>?_),F2,YU hs hb]
   ·constructor
    ·rintro ((h1|⟨x,h1,h2⟩)|⟨x,h1,h2⟩)
     ·exact .inl h1
     ·exact .inr ⟨x,Bw.2 (.inl h1),h2⟩
     ·exact .inr ⟨x,Bw.2 (.inr h1),h2⟩
    ·rintro (h1|⟨x,h1,h2⟩)
     ·exact .inl (.inl h1)
     ·rcases Bw.1 h1 with h1|h1
      ·exact .inl (.inr ⟨x,h1,h2⟩)
      ·exact .inr ⟨x,h1,h2⟩
   ·rcases F2.1 hv with hv|hv
    ·exact ho v hv
    ·obtain⟨x,_,rfl⟩:=(YU hs hb).1 hv
     have q1:=B1 (x / 2 ^ d) (by omega:(2:Int) ^ t≠0);have q2:=Bu (x / 2 ^ d) hT;omega
theorem mem_map{α:Type}{f:α->Span}{l:List α}{v:Int}:memL (l.map f) v↔∃a∈l,(f a).lo<=v/\v<=(f a).hi:=by
 simp only[memL,Ar];exact⟨λ⟨_,⟨a,h,rfl⟩,h2⟩=>⟨a,h,h2⟩,λ⟨a,h,h2⟩=>⟨_,⟨a,h,rfl⟩,h2⟩⟩
theorem YW{p:Part}(s:List Span)(hb:EK p=true):Plain (imgL p s)/\∀v,memL (imgL p s) v↔∃x,memL s x/\(0<=x/\x<=2097151)/\valP p x=v:=by
 have hbi:=Ft.1 hb;have ht:=Il p.take.toNat (by omega);have hT:(0:Int)<2 ^ p.take.toNat:=Db (by decide);obtain⟨m1,m2,m3⟩:=YJ s
 have hF:∀w,memL (imgF p.drop.toNat p.take.toNat (Gk (Bq s) (Bq topS)) []) w↔∃x,(memL s x/\0<=x/\x<=2097151)/\x / 2 ^ p.drop.toNat % 2 ^ p.take.toNat=w:=λw=>by
  rw[YV _ _ (λt ht=>(m2 t ht).2.1) (λv hv=>absurd hv (Ch v))];simp only[Ch,Cp,m3]
 have hr:∀w,memL (imgF p.drop.toNat p.take.toNat (Gk (Bq s) (Bq topS)) []) w->0<=w/\w<=2 ^ p.take.toNat-1:=λw hw=>by
  obtain⟨x,_,rfl⟩:=(hF w).1 hw;have q1:=B1 (x / 2 ^ p.drop.toNat) (by omega:(2:Int) ^ p.take.toNat≠0);have q2:=Bu (x / 2 ^ p.drop.toNat) hT;omega
 unfold imgL;rw[Ac (by simp[hb])];split
 ·rename_i hu
  refine⟨(Bo _).1,λv=>?_⟩;rw[(Bo _).2 v,hF];have e:∀x,valP p x=x / 2 ^ p.drop.toNat % 2 ^ p.take.toNat:=λx=>by simp[valP,hu]
  constructor
  ·rintro⟨⟨x,⟨h1,h2⟩,h3⟩,_⟩
   exact⟨x,h1,h2,by rw[e];exact h3⟩
  ·rintro⟨x,h1,h2,h3⟩
   rw[e] at h3;have:=hr v ((hF v).2 ⟨x,⟨h1,h2⟩,h3⟩);exact⟨⟨x,⟨h1,h2⟩,h3⟩,by omega⟩
 ·rename_i hu
  refine⟨(Bo _).1,λv=>?_⟩;rw[(Bo _).2 v,mem_map];constructor
  ·rintro⟨⟨n,hn,h1,h2⟩,_⟩
   simp only[oneS] at h1 h2;have hn':=IF.1 hn;rw[(Bo _).2,(Bo _).2] at hn';obtain⟨x,⟨k1,k2⟩,k3⟩:=(hF n).1 hn'.1.1;exact⟨x,k1,k2,by rw[valP,k3];omega⟩
  ·rintro⟨x,h1,h2,h3⟩
   have hv:=Gn hb h2;have hm:=(hF (x / 2 ^ p.drop.toNat % 2 ^ p.take.toNat)).2 ⟨x,⟨h1,h2⟩,rfl⟩;have:=hr _ hm;refine⟨⟨x / 2 ^ p.drop.toNat % 2 ^ p.take.toNat,IF.2 ?_,?_⟩,by omega⟩
   ·rw[(Bo _).2,(Bo _).2]
    exact⟨⟨hm,by omega⟩,by omega⟩
   ·rw[valP] at h3
    simp only[oneS];omega
def Full(l:List Span):Prop:=∀s∈l,s.lo<=s.hi
theorem z6v{a b:List Span}(ha:Full a)(hb:Full b):Plain (Vr a b)/\∀v,memL (Vr a b) v↔(∃x y,memL a x/\memL b y/\x+y=v)/\-1073741824<=v/\v<=1073741824:=by
 refine⟨(Bo _).1,λv=>?_⟩;rw[Vr,(Bo _).2 v,WY,YK];refine and_congr_left λ_=>?_;constructor
 ·rintro⟨s,hs,h⟩
  obtain⟨r,hr,h1,h2⟩:=mem_map.1 h;simp only[sumS] at h1 h2;have k1:=ha s hs;have k2:=hb r hr;refine⟨max s.lo (v-r.hi),v-max s.lo (v-r.hi),⟨s,hs,by omega,by omega⟩,⟨r,hr,by omega,by omega⟩,by omega⟩
 ·rintro⟨x,y,⟨s,hs,h1,h2⟩,⟨r,hr,h3,h4⟩,rfl⟩
  exact⟨s,hs,mem_map.2 ⟨r,hr,by simp only[sumS];omega,by simp only[sumS];omega⟩⟩
theorem z6w{out:List Span}{n:Int}(h:Full out):Full (addS out ⟨n,n⟩)/\∀v,memL (addS out ⟨n,n⟩) v↔memL out v\/v=n:=by
 rcases Fy out with rfl|⟨m,y,rfl⟩
 ·refine⟨λs hs=>?_,λv=>?_⟩
  ·simp only[He,Ao] at hs;subst hs;simp
  ·rw[He,Bw];simp only[Ch,AH,Cp];omega
 ·have hy:=h y (by simp)
  rw[Iq];simp only;split
  ·rename_i he
   refine⟨λs hs=>?_,λv=>?_⟩
   ·rcases Am.1 hs with hs|hs
    ·exact h s (by simp[hs])
    ·simp only[Ao] at hs;subst hs;simp only;omega
   ·rw[F2,F2,Bw,Bw]
    simp only[Ch,AH];constructor
    ·rintro (h1|h1)
     ·exact .inl (.inl h1)
     ·by_cases hv:v=n
      ·exact .inr hv
      ·exact .inl (.inr (by omega))
    ·rintro ((h1|h1)|h1)
     ·exact .inl h1
     ·exact .inr (by omega)
     ·exact .inr (by omega)
  ·refine⟨λs hs=>?_,λv=>?_⟩
   ·rcases Am.1 hs with hs|hs
    ·exact h s hs
    ·simp only[Ao] at hs;subst hs;simp
   ·rw[F2,Bw]
    simp only[Ch,AH];have:(n<=v/\v<=n)↔v=n:=by omega
    rw[this]
theorem YX(l:List Part){v:Int}:∀(m:List Int)(out:List Span),Full out->(memL (m.foldl (togF l) out) v↔memL out v\/∃x∈m,totV l x=v)
 |[],out,_=>by simp
 |x::m,out,h=>by
  obtain⟨h1,h2⟩:=z6w (n:=totV l x) h;rw[List.foldl_cons,togF,YX l m _ h1,h2];simp only[Ai,exists_eq_or_imp];constructor
  ·rintro ((h|h)|h)
   ·exact .inl h
   ·exact .inr (.inl h.symm)
   ·exact .inr (.inr h)
  ·rintro (h|h|h)
   ·exact .inl (.inl h)
   ·exact .inl (.inr h.symm)
   ·exact .inr h
theorem zd5{l:List Part}{s:List Span}(hl:l.length<=4)(hb:∀p∈l,EK p=true)(hs:Syms s):Plain (togL l s)/\∀v,memL (togL l s) v↔∃x,memL s x/\totV l x=v:=by
 unfold togL;split
 ·rename_i h1
  obtain⟨p,rfl⟩:=List.length_eq_one_iff.1 h1;obtain⟨i1,i2⟩:=YW s (hb p (by simp));refine⟨i1,λv=>?_⟩;have e:nth [p] 0=p:=rfl;rw[e,i2];have e2:∀x,totV [p] x=valP p x:=λx=>by simp[totV]
  constructor
  ·rintro⟨x,h1,_,h3⟩;exact⟨x,h1,by rw[e2];exact h3⟩
  ·rintro⟨x,h1,h3⟩
   have:=hs.mem h1;exact⟨x,h1,by omega,by rw[<-e2];exact h3⟩
 ·refine⟨(Bo _).1,λv=>?_⟩
  rw[(Bo _).2 v,YX l _ _ (λs hs=>by cases hs),Vu hs];simp only[Ch,Cp,IF];constructor
  ·rintro⟨h,_⟩;exact h
  ·rintro⟨x,h1,rfl⟩
   have:=hs.mem h1;have:=Ju (x:=x) (by omega) hb;exact⟨⟨x,h1,rfl⟩,by omega⟩
def Win(sets:List (List Span))(w:List Int):Prop:=w.length=sets.length/\∀i,i<sets.length->memL (nth sets i) (nth w i)
def Mz(l:List Part)(pl:List Int)(w:List Int):Int:=(pl.map λa=>totV (atL l a) (nth w a.toNat)).sum
def totW(w:List Int)(l:List Part):Int:=(l.map λp=>valP p (nth w p.at_.toNat)).sum
theorem M0{w:List Int}{i j:Nat}{x:Int}(h:i<w.length):nth (w.set i x) j=if j=i then x else nth w j:=by
 simp only[nth,Ap,List.getElem?_set];split
 ·subst_vars;simp[h]
 ·rename_i hne;rw[Ac (λe=>hne e.symm)]
theorem IJ{α:Type}{f g:α->Int}:∀{l:List α},(∀a∈l,f a=g a)->(l.map f).sum=(l.map g).sum
 |[],_=>rfl
 |a::l,h=>by simp[h a (by simp),IJ (l:=l) λb hb=>h b (by simp[hb])]
theorem Pm{α:Type}{f g:α->Int}:∀{l:List α},(l.map λa=>f a+g a).sum=(l.map f).sum+(l.map g).sum
 |[]=>rfl
 |a::l=>by
  have:=Pm (f:=f) (g:=g) (l:=l);simp only[Bj,List.sum_cons,this];omega
theorem Jy{α:Type}{f:α->Int}:∀{l:List α},(∀a∈l,f a=0)->(l.map f).sum=0
 |[],_=>rfl
 |a::l,h=>by simp[h a (by simp),Jy (l:=l) λb hb=>h b (by simp[hb])]
theorem Pn{c:Int}{g:Int->Int}:∀{l:List Int},l.Nodup->c∈l->(l.map λa=>if c=a then g a else 0).sum=g c
 |[],_,h=>by cases h
 |a::l,hn,h=>by
  obtain⟨h1,h2⟩:=BO.1 hn;by_cases e:c=a
  ·subst e
   have:(l.map λa=>if c=a then g a else 0).sum=0:=Jy λb hb=>Ac λ(e2:c=b)=>h1 (by rw[e2];exact hb);simp[this]
  ·have hm:c∈l:=by simpa [e] using h
   simp[e,Pn h2 hm]
theorem JQ(w:List Int):∀(l:List Part)(pl:List Int),pl.Nodup->(∀p∈l,p.at_∈pl)->Mz l pl w=totW w l
 |[],pl,_,_=>Jy λa _=>rfl
 |p::l,pl,hn,h=>by
  have ih:=JQ w l pl hn λq hq=>h q (by simp[hq])
  have e:∀a∈pl,totV (atL (p::l) a) (nth w a.toNat)=(if p.at_=a then valP p (nth w a.toNat) else 0)+totV (atL l a) (nth w a.toNat):=λa _=>by
   simp only[atL,Ci,Ad];split
   ·simp[totV]
   ·simp[totV]
  rw[Mz,IJ e,Pm,Pn (g:=λa=>valP p (nth w a.toNat)) hn (h p (by simp))];rw[Mz] at ih;rw[ih];simp[totW]
theorem Po:∀(l:List Part)(pl:List Int),pl.Nodup->(l.foldl F0 pl).Nodup/\(∀a,a∈l.foldl F0 pl↔a∈pl\/∃p∈l,p.at_=a)/\(l.foldl F0 pl).length<=pl.length+l.length
 |[],pl,h=>⟨h,λa=>by simp,by simp⟩
 |p::l,pl,h=>by
  have h1:(F0 pl p).Nodup/\(∀a,a∈F0 pl p↔a∈pl\/p.at_=a)/\(F0 pl p).length<=pl.length+1:=by
   unfold F0;split
   ·rename_i hm
    exact⟨h,λa=>⟨.inl,λhh=>hh.elim id λe=>e ▸ hm⟩,by omega⟩
   ·rename_i hm
    refine⟨CH.2 ⟨h,by simp,λa ha b hb=>?_⟩,λa=>by simp[Gh],by simp⟩;simp only[Ao] at hb;subst hb;exact λe=>hm (e ▸ ha)
  obtain⟨k1,k2,k3⟩:=Po l (F0 pl p) h1.1;refine⟨k1,λa=>?_,by have:=h1.2.2;simp only[List.foldl_cons,List.length_cons];omega⟩;rw[List.foldl_cons,k2,h1.2.1];simp only[Ai,exists_eq_or_imp,or_assoc]
theorem Re{l:List Span}(h:Plain l):Full l:=h.1
theorem z6x{sets:List (List Span)}{w:List Int}{a:Nat}{x:Int}(hw:Win sets w)(ha:a<sets.length)(hx:memL (nth sets a) x):Win sets (w.set a x):=by
 refine⟨by simp[hw.1],λi hi=>?_⟩;rw[M0 (by rw[hw.1];exact ha)];split
 ·subst_vars;exact hx
 ·exact hw.2 i hi
theorem Vx{l:List Part}{sets:List (List Span)}(hS:QZ l sets)(hl:l.length<=4)(hne:∃w,Win sets w):∀(pl:List Int)(out:List Span),pl.Nodup->(∀a∈pl,0<=a/\a<sets.length)->Full out->pl.length<=4 ->
 (∀v,memL out v->-1114111<=v/\v<=1114111+(4-(pl.length:Int)) * 264241152)->Full (pl.foldl (Jv l sets) out)/\∀v,memL (pl.foldl (Jv l sets) out) v↔∃o w,memL out o/\Win sets w/\o+Mz l pl w=v
 |[],out,_,_,hf,_,_=>⟨hf,λv=>by
  obtain⟨w,hw⟩:=hne;simp only[List.foldl_nil,Mz,Bt,List.sum_nil,E1]
  exact⟨λh=>⟨v,w,h,hw,rfl⟩,λ⟨o,_,h,_,e⟩=>e ▸ h⟩⟩
 |a::pl,out,hn,hp,hf,hlen,hb=>by
  obtain⟨n1,n2⟩:=BO.1 hn;have ha:=hp a (by simp);have hm:nth sets a.toNat∈sets:=AL (by omega);have hsy:=hS.syms _ hm
  have hbits:∀p∈atL l a,EK p=true:=λp hp=>by
   have:=hS.parts p ((AW.1 hp).1);simp only[EC,Ab] at this;exact this.2
  have hla:(atL l a).length<=4:=Bb (Bz _ _) hl;obtain⟨t1,t2⟩:=zd5 hla hbits hsy;obtain⟨p1,p2⟩:=z6v hf (Re t1)
  have htot:∀x,memL (nth sets a.toNat) x->0<=totV (atL l a) x/\totV (atL l a) x<=264241152:=λx hx=>by
   have:=hsy.mem hx;have:=Ju (x:=x) (by omega) hbits;omega
  simp only[List.length_cons] at hlen hb
  have hv:∀v,memL (Jv l sets out a) v↔∃o x,memL out o/\memL (nth sets a.toNat) x/\o+totV (atL l a) x=v:=λv=>by
   rw[Jv,p2];constructor
   ·rintro⟨⟨o,y,h1,h2,h3⟩,_⟩
    obtain⟨x,k1,k2⟩:=(t2 y).1 h2;exact⟨o,x,h1,k1,by rw[k2];exact h3⟩
   ·rintro⟨o,x,h1,h2,rfl⟩
    have:=hb o h1;have:=htot x h2
    push_cast at *
    exact⟨⟨o,_,h1,(t2 _).2 ⟨x,h2,rfl⟩,rfl⟩,by omega,by omega⟩
  obtain⟨i1,i2⟩:=Vx hS hl hne pl (Jv l sets out a) n2 (λb hb=>hp b (by simp[hb])) (Re p1) (by omega) (λv h=>by
   obtain⟨o,x,h1,h2,rfl⟩:=(hv v).1 h;have:=hb o h1;have:=htot x h2
   push_cast at *
   omega)
  refine⟨i1,λv=>?_⟩;rw[List.foldl_cons,i2];constructor
  ·rintro⟨u,w,h1,hw,rfl⟩
   obtain⟨o,x,k1,k2,rfl⟩:=(hv u).1 h1;refine⟨o,w.set a.toNat x,k1,z6x hw (by omega) k2,?_⟩
   have e1:Mz l pl (w.set a.toNat x)=Mz l pl w:=IJ λb hb=>by
    have:=hp b (by simp[hb]);rw[M0 (by rw[hw.1];omega),Ac];intro e;exact n1 ((show b=a by omega) ▸ hb)
   have e2:Mz l (a::pl) (w.set a.toNat x)=totV (atL l a) x+Mz l pl (w.set a.toNat x):=by
    simp only[Mz,Bj,List.sum_cons];rw[M0 (by rw[hw.1];omega),Ae rfl]
   rw[e2,e1];omega
  ·rintro⟨o,w,h1,hw,rfl⟩
   have hx:=hw.2 a.toNat (by omega);refine⟨o+totV (atL l a) (nth w a.toNat),w,(hv _).2 ⟨o,_,h1,hx,rfl⟩,hw,?_⟩;simp only[Mz,Bj,List.sum_cons];omega
theorem zd6(x:Int):Full [⟨x,x⟩]:=λs hs=>by simp only[Ao] at hs;subst hs;simp
theorem Xd{x v:Int}:memL [⟨x,x⟩] v↔v=x:=by rw[Bw];simp only[Ch,AH];omega
theorem z6y{t:Term}{sets:List (List Span)}(hS:QZ t.parts sets)(hl:t.parts.length<=4)(hs:Hu t.sum=true)(hne:∃w,Win sets w):Full (IU t sets)/\∀v,memL (IU t sets) v↔∃w,Win sets w/\t.sum+totW w t.parts=v:=by
 obtain⟨k1,k2,k3⟩:=Po t.parts [] (by simp);have hsm:=GK hs;simp only[List.length_nil] at k3
 have hat:∀a,a∈FC t.parts->0<=a/\a<sets.length:=λa ha=>by
  obtain h|⟨p,hp,rfl⟩:=(k2 a).1 ha
  ·cases h
  ·exact HB (hS.parts p hp)
 obtain⟨h1,h2⟩:=Vx hS hl hne (FC t.parts) [⟨t.sum,t.sum⟩] k1 hat (zd6 _) (by rw[FC];omega) (λv hv=>by
  rw[Xd] at hv;have:(FC t.parts).length<=4:=by rw[FC];omega
  omega)
 refine⟨h1,λv=>?_⟩;rw[IU,h2];constructor
 ·rintro⟨o,w,e,hw,rfl⟩
  rw[Xd] at e;exact⟨w,hw,by rw[e,FC,JQ w _ _ k1 λp hp=>(k2 _).2 (.inr ⟨p,hp,rfl⟩)]⟩
 ·rintro⟨w,hw,rfl⟩
  exact⟨_,w,Xd.2 rfl,hw,by rw[FC,JQ w _ _ k1 λp hp=>(k2 _).2 (.inr ⟨p,hp,rfl⟩)]⟩
theorem Xe{w:List Int}{n:Int}:∀{l:List Part},(∀p∈l,EC p n=true)->(∀p∈l,0<=nth w p.at_.toNat/\nth w p.at_.toNat<=1114111)->totP w l=totW w l/\0<=totW w l/\totW w l<=l.length * 66060288
 |[],_,_=>by simp[totP,totW]
 |p::l,h,hx=>by
  obtain⟨i1,i2,i3⟩:=Xe (l:=l) (λq hq=>h q (by simp[hq])) (λq hq=>hx q (by simp[hq]));have hr:=h p (by simp);simp only[EC,Ab] at hr;have hxp:=hx p (by simp);have hv:=Gn hr.2 (x:=nth w p.at_.toNat) (by omega);have e1:val1 p (nth w p.at_.toNat)=valP p (nth w p.at_.toNat):=(SB hr.2 (by omega)).2;have e2:totW w (p::l)=valP p (nth w p.at_.toNat)+totW w l:=by simp[totW]
  rw[totP,e1,e2,i1];refine⟨rfl,by omega,?_⟩
  push_cast [List.length_cons]
  omega
theorem It{t:Term}{sets:List (List Span)}{w:List Int}(hS:QZ t.parts sets)(hn:CQ t=true)(hw:Win sets w):
 Ei t w=if 0<=t.sum+totW w t.parts/\t.sum+totW w t.parts<=1114111 then some (t.base+valP t.outer (t.sum+totW w t.parts)) else none:=by
 simp only[CQ,Ab,Ad] at hn;obtain⟨⟨⟨hb,hs⟩,ho⟩,_,hl⟩:=hn;have hsm:=GK hs;have hbm:=GK hb;have hsym:∀i,i<sets.length->0<=nth w i/\nth w i<=1114111:=λi hi=>(hS.syms _ (AL hi)).mem (hw.2 i hi)
 obtain⟨e1,b1,b2⟩:=Xe (w:=w) hS.parts (λp hp=>by
  have:=HB (hS.parts p hp)
  exact hsym _ (by omega))
 have hall:w.all symB=true:=by
  rw[AJ];intro x hx;obtain⟨i,hi,rfl⟩:=Bm hx;have:=hsym i (by rw[<-hw.1];exact hi);have e:nth w i=w[i]:=by simp[nth,hi]
  rw[e] at this;simp[symB];omega
 have hright:Mq w t.parts=true:=by
  rw[Mq,AJ];intro p hp;rw[hw.1];exact hS.parts p hp
 have hsum:=z5l w t.parts t.sum (zjk (by omega));rw[Ae hright,e1,zjk (by omega)] at hsum;unfold Ei;rw[Ae hall,hsum];simp only;by_cases h:0<=t.sum+totW w t.parts/\t.sum+totW w t.parts<=1114111
 ·have hvb:valB t.outer (t.sum+totW w t.parts)=true:=(SB ho (by omega)).1
  have hv2:=Gn ho (x:=t.sum+totW w t.parts) (by omega);rw[Ae h,Ae (by simp[hvb];omega),show IntKind.i64.wrap (t.base+valP t.outer (t.sum+totW w t.parts))=t.base+valP t.outer (t.sum+totW w t.parts) from IntWalk.i64_in _ (by omega)]
 ·rw[Ac h,Ac]
  simp only[valB,ho,AF,Ab,Ad];omega
theorem Rf:∀{m:List Span},Plain m->m≠[]->∃a b,Vq m=some a/\WW m=some b/\memL m a/\memL m b/\∀v,memL m v->a<=v/\v<=b
 |[],_,h=>absurd rfl h
 |[s],h,_=>by
  have:=h.head;refine⟨s.lo,s.hi,rfl,rfl,Bw.2 (.inl (by omega)),Bw.2 (.inl (by omega)),λv hv=>?_⟩;rw[Bw] at hv;simpa [Ch] using hv
 |s::r::m,h,_=>by
  have hs:=h.head;obtain⟨a,b,e1,e2,h1,h2,h3⟩:=Rf h.tail (by simp);have hb:=h.after h2;refine⟨s.lo,b,rfl,?_,Bw.2 (.inl (by omega)),Bw.2 (.inr h2),λv hv=>?_⟩
  ·simpa [WW] using e2
  ·rcases Bw.1 hv with h4|h4
   ·omega
   ·have:=h.after h4
    have:=h3 v h4;omega
theorem KF{l:List Span}{v:Int}(h:memL l v):l≠[]:=by rintro rfl;exact Ch v h
theorem z1b{l:List Span}{u:Int}(hu:memL l u)(hb:∀v,memL l v->-1073741824<=v/\v<=1073741824):PZ l=true↔∀v,memL l v->0<=v/\v<=1114111:=by
 obtain⟨p1,p2⟩:=Bo l;have hm:∀v,memL (Bq l) v↔memL l v:=λv=>by rw[p2];exact⟨λh=>h.1,λh=>⟨h,hb v h⟩⟩
 obtain⟨a,b,e1,e2,h1,h2,h3⟩:=Rf p1 (KF ((hm u).2 hu))
 have hl:0<(l.length:Int):=by
  have:=Ca.2 (KF hu);omega
 simp only[PZ,e1,e2,Option.getD_some,Ab,Ad];constructor
 ·rintro⟨_,k1,k2⟩ v hv
  have:=h3 v ((hm v).2 hv);omega
 ·intro h
  exact⟨hl,(h a ((hm a).1 h1)).1,(h b ((hm b).1 h2)).2⟩
theorem YY{gs:List (List Span)}:My gs gs.length=true↔∃w,Win (gs.map symI) w:=by
 rw[My,A3,AJ];constructor
 ·intro h
  refine⟨(gs.map symI).map λs=>(nth s 0).lo,by simp,λi hi=>?_⟩;have hi':i<gs.length:=by simpa using hi
  have h1:=h _ (AL hi');have e1:nth (gs.map symI) i=symI (nth gs i):=by simp[nth,hi']
  have e2:nth ((gs.map symI).map λs=>(nth s 0).lo) i=(nth (symI (nth gs i)) 0).lo:=by simp[nth,hi']
  rw[e1,e2];simp only[Ad] at h1;have hm:=AL (l:=symI (nth gs i)) (i:=0) (by omega);have hs:=(Vo (nth gs i)).2 _ hm;exact⟨_,hm,by omega,by omega⟩
 ·rintro⟨w,hw⟩ g hg
  obtain⟨i,hi,rfl⟩:=Bm hg;have h1:=hw.2 i (by simpa using hi);have e1:nth (gs.map symI) i=symI gs[i]:=by simp[nth,hi]
  rw[e1] at h1;have:=Ca.2 (KF h1);simp only[Ad];omega
theorem z1c{t:Term}{gs:List (List Span)}(h4:gs.length<=4)(hn:CQ t=true)(hp:prtB t gs.length=true):
 ((FN t gs).2=true↔∀w,Win (gs.map symI) w->(Ei t w).isSome=true)/\((FN t gs).2=false->(FN t gs).1=[]) /\
 ((FN t gs).2=true->Plain (FN t gs).1/\∀v,memL (FN t gs).1 v↔∃w,Win (gs.map symI) w/\Ei t w=some v):=by
 have hS:=JN hp h4;have hnum:=hn;simp only[CQ,Ab,Ad] at hnum;obtain⟨⟨⟨hb,hs⟩,ho⟩,_,hl⟩:=hnum;have hsm:=GK hs;have hbm:=GK hb
 have hI:FM t gs=if My gs gs.length=false then ([],true) else (IU t (gs.map symI),PZ (IU t (gs.map symI))):=by
  rw[FM,Ac (by simp[hn];omega),Ac (by simp[hp])]
 have hsome:=@YY gs;cases hB:My gs gs.length
 ·rw[hB] at hI hsome
  have hno:∀w,¬Win (gs.map symI) w:=λw hw=>by have:=hsome.2 ⟨w,hw⟩;cases this
  have e:FN t gs=([],true):=by rw[FN,hI];simp
  rw[e];refine⟨⟨λ_ w hw=>absurd hw (hno w),λ_=>rfl⟩,λh=>(by cases h),λ_=>⟨⟨by simp,by simp⟩,λv=>⟨λh=>absurd h (Ch v),λ⟨w,hw,_⟩=>absurd hw (hno w)⟩⟩⟩
 ·rw[hB] at hI hsome
  obtain⟨w0,hw0⟩:=hsome.1 rfl;obtain⟨v1,v2⟩:=z6y hS hl hs ⟨w0,hw0⟩
  have hbd:∀w,Win (gs.map symI) w->0<=totW w t.parts/\totW w t.parts<=264241152:=λw hw=>by
   obtain⟨_,b1,b2⟩:=Xe (w:=w) hS.parts (λp hp=>by
    have:=HB (hS.parts p hp)
    exact (hS.syms _ (AL (by omega))).mem (hw.2 _ (by omega)))
   omega
  have hin:=z1b ((v2 _).2 ⟨w0,hw0,rfl⟩) (λv hv=>by
   obtain⟨w,hw,rfl⟩:=(v2 v).1 hv;have:=hbd w hw
   omega)
  have hin2:PZ (IU t (gs.map symI))=true↔∀w,Win (gs.map symI) w->(Ei t w).isSome=true:=by
   rw[hin];constructor
   ·intro h w hw
    rw[It hS hn hw,Ae (h _ ((v2 _).2 ⟨w,hw,rfl⟩))];rfl
   ·intro h v hv
    obtain⟨w,hw,rfl⟩:=(v2 v).1 hv;have:=h w hw;rw[It hS hn hw] at this;split at this
    ·assumption
    ·cases this
  have hne:(IU t (gs.map symI)).length≠0:=λh=>KF ((v2 _).2 ⟨w0,hw0,rfl⟩) (Ay h);cases hi:PZ (IU t (gs.map symI))
  ·have e:FN t gs=([],false):=by rw[FN,hI];simp[hi]
   rw[e];rw[hi] at hin2;exact⟨hin2,λ_=>rfl,λh=>by cases h⟩
  ·have e:FN t gs=(Fz (imgL t.outer (IU t (gs.map symI))) t.base,true):=by
    rw[FN,hI];simp[hi,hne]
   rw[e];rw[hi] at hin2;refine⟨hin2,λh=>(by cases h),λ_=>⟨?_,λv=>?_⟩⟩
   ·unfold Fz
    split
    ·exact⟨by simp,by simp⟩
    ·exact (Bo _).1
   ·obtain⟨_,i2⟩:=YW (IU t (gs.map symI)) ho
    rw[SZ (by omega),i2];constructor
    ·rintro⟨⟨⟨x,h1,h2,h3⟩,_⟩,_⟩
     obtain⟨w,hw,rfl⟩:=(v2 x).1 h1;have hv:=hin.1 hi _ h1;exact⟨w,hw,by rw[It hS hn hw,Ae hv,h3];congr 1;omega⟩
    ·rintro⟨w,hw,h⟩
     have hm:=(v2 _).2 ⟨w,hw,rfl⟩;have hv:=hin.1 hi _ hm;rw[It hS hn hw,Ae hv] at h;have hvs:=Gn ho (x:=t.sum+totW w t.parts) (by omega);simp only[Aq] at h;exact⟨⟨⟨_,hm,by omega,by omega⟩,by omega⟩,by omega⟩
def Ga(s x:Int):Bool:=decide ((s=1/\0<=x/\x<256)\/(s=2/\0<=x/\x<1114112/\(x<55296\/57344<=x)))
theorem zd7(s x:Int)(hx:-2147483648<=x/\x<=2147483647):PC Tryz.prog 74 [.int .i64 s,.int .i32 x] (.bool (Ga s x)):=by
 refine BA z0a ?_;unfold QB;(with_reducible repeat'(first|simp (disch:=omega) only[push_cast,↓zz,seval]|apply Aa|refine sp_ ?_ ?_<;>intro hc<;>push_cast at hc|omega|intro _))
 all_goals
  rw[Ga]
  first
   |(rw[<-decide_not,BC];omega)
   |(rw[BC];omega)
   |(rw[Gh,B3];omega)
   |(rw[Gh,Ad];omega)
 all_goals trace_state
def fitW(t:Term)(o:Int)(w:List Int):Bool:=match Ei t w with
 |some v=>decide (0<=v/\v<=1114111)&&Ga o v
 |none=>false
theorem win_cons{g:List Span}{gs:List (List Span)}{w:List Int}:Win (g::gs) w↔∃x r,w=x::r/\memL g x/\Win gs r:=by
 constructor
 ·rintro⟨h1,h2⟩
  cases w with
  |nil=>simp at h1
  |cons x r =>
   refine⟨x,r,rfl,?_,by simpa using h1,λi hi=>?_⟩
   ·exact h2 0 (by simp)
   ·exact h2 (i+1) (by simp;omega)
 ·rintro⟨x,r,rfl,h1,h2⟩
  refine⟨by simp[h2.1],λi hi=>?_⟩;cases i with
  |zero=>exact h1
  |succ i=>exact h2.2 i (by simp at hi;omega)
theorem zjz{w:List Int}:Win [] w↔w=[]:=by
 constructor
 ·rintro⟨h,_⟩;exact Ay h
 ·rintro rfl;exact⟨rfl,λi hi=>by simp at hi⟩
theorem z6z{l:List Span}{v:Int}(h:-1073741824<=v/\v<=1073741824):hasI l v=true↔memL l v:=by
 rw[Hd];exact⟨λh=>h.2.2,λhm=>⟨h.1,h.2,hm⟩⟩
theorem Jz{o v:Int}:memL (domL o) v↔Ga o v=true:=by
 unfold domL;simp only[Ga,Ad];split
 ·rw[Bw];simp only[Ch,AH];omega
 ·split
  ·rw[Bw,Bw];simp only[Ch,AH];omega
  ·simp only[Ch,false_iff];omega
theorem N6{o v:Int}(h:Ga o v=true):0<=v/\v<=1114111:=by
 simp only[Ga,Ad] at h;omega
theorem Iu{l d:List Span}(hl:∀v,memL l v->-1073741824<=v/\v<=1073741824)(hp:Full l):FZ l d=[]↔∀v,memL l v->memL d v:=by
 obtain⟨m1,m2⟩:=QO l d;constructor
 ·intro h v hv
  rw[h] at m2;exact AU λhn=>Ch v ((m2 v).2 ⟨hv,hl v hv,hn⟩)
 ·intro h
  cases hm:FZ l d with
  |nil=>rfl
  |cons s r =>
   rw[hm] at m1 m2;obtain⟨a,_,c⟩:=(m2 s.lo).1 (Bw.2 (.inl ⟨Bg _,m1.1 s (by simp)⟩));exact absurd (h _ a) c
theorem Gl{t:Term}{i o n:Int}(h:FY t i o n=true):CQ t=true/\prtB t n=true:=by
 simp only[FY,Ey,Ab] at h;obtain⟨⟨⟨⟨_,hn⟩,hr⟩,_⟩,_⟩:=h;refine⟨hn,?_⟩;rw[prtB,AJ];intro p hp;have:=AJ.1 hr p hp;simp only[Ab] at this;exact this.1
theorem YZ{t:Term}{gs:List (List Span)}(h4:gs.length<=4)(hn:CQ t=true)(hp:prtB t gs.length=true){w:List Int}{v:Int}(hw:Win (gs.map symI) w)(hv:Ei t w=some v):-1073741824<=v/\v<=1073741824:=by
 have hnum:=hn;simp only[CQ,Ab,Ad] at hnum;have hbm:=GK hnum.1.1.1;rw[It (JN hp h4) hn hw] at hv;split at hv
 ·have:=Gn hnum.1.2 (x:=t.sum+totW w t.parts) (by omega)
  simp only[Aq] at hv;omega
 ·cases hv
theorem Vy{t:Term}{i o:Int}{gs:List (List Span)}(h4:gs.length<=4):Nr t i o gs=true↔FY t i o gs.length=true/\∀w,Win (gs.map symI) w->fitW t o w=true:=by
 rw[Nr,Ab,Ab,Ad];refine and_congr_right λhr=>?_;obtain⟨hn,hp⟩:=Gl hr;obtain⟨s1,s2,s3⟩:=z1c h4 hn hp;constructor
 ·rintro⟨hi,hm⟩ w hw
  obtain⟨p1,p2⟩:=s3 hi;rw[Iu (λv hv=>by obtain⟨w,h1,h2⟩:=(p2 v).1 hv;exact YZ h4 hn hp h1 h2) p1.1] at hm;have hv:=zc4 (s1.1 hi w hw);have:=Jz.1 (hm _ ((p2 _).2 ⟨w,hw,hv⟩));have hb:=N6 this;rw[fitW,hv];simp[hb,this]
 ·intro h
  have hi:(FN t gs).2=true:=s1.2 λw hw=>by
   have:=h w hw;rw[fitW] at this;cases hv:Ei t w with
   |none=>rw[hv] at this;cases this
   |some v=>rfl
  obtain⟨p1,p2⟩:=s3 hi;refine⟨hi,(Iu (λv hv=>by obtain⟨w,h1,h2⟩:=(p2 v).1 hv;exact YZ h4 hn hp h1 h2) p1.1).2 λv hv=>?_⟩;obtain⟨w,h1,h2⟩:=(p2 v).1 hv;have:=h w h1;rw[fitW,h2] at this;simp only[Ab] at this;exact Jz.2 this.2
theorem Iv{d:Desc}(h:FO d=0):Pi d=true/\(∀r∈d.rules,Gt d r=true)/\∀f∈d.finals,Fc d f=true:=by
 have h0:(FD d).1=0:=by
  unfold FO at h;split at h
  ·assumption
  ·omega
 unfold FD at h0;split at h0
 ·simp at h0
 ·rename_i hh
  refine⟨by simpa using hh,?_⟩;split at h0
  ·simp at h0
  ·rename_i hr
   split at h0
   ·simp at h0
   ·rename_i hf
    exact⟨Ir hr,Ir hf⟩
theorem HC{d:Desc}{out:List Term}{gs:List (List Span)}(h:EZ d out gs=true):out.length<=64/\∀t∈out,t.parts.length<=4:=by
 simp only[EZ,Ab,Ad] at h;refine⟨by omega,λt ht=>?_⟩;have:=AJ.1 h.2 t ht;simp only[Nr,Ab] at this;have h2:=(Gl this.1).1;simp only[CQ,Ab,Ad] at h2;exact h2.2.2
theorem z71{α β:Type}[Inhabited α](base:List β)(l:List α)(f:α->β):∃g:Nat->List β,g 0=base/\(∀k,k<l.length->g (k+1)=g k++[f (nth l k)])/\g l.length=base++l.map f/\∀k,(g k).length<=base.length+k :=
 ⟨λk=>base++(l.take k).map f,by simp,λk hk=>by simp only;rw[take_at hk];simp,by simp only;rw[A3],λk=>by simp;omega⟩
def fwdE(d:Desc):List (Int × Int):=d.rules.map λr=>(r.from_,r.to_)
def bwdE(d:Desc):List (Int × Int):=d.rules.map λr=>(r.to_,r.from_)
def endE(d:Desc):List Int:=d.finals.map (·.from_)
structure Wf(d:Desc):Prop where
 n:∃n:Nat,d.states=n/\1<=n/\n<=1024
 start:0<=d.start/\d.start<d.states
 rl:d.rules.length<=4096
 fl:d.finals.length<=4096
 r:∀r∈d.rules,(0<=r.from_/\r.from_<d.states)/\0<=r.to_/\r.to_<d.states
 f:∀f∈d.finals,0<=f.from_/\f.from_<d.states
theorem zk0{d:Desc}(h:FO d=0):Wf d:=by
 obtain⟨h1,h2,h3⟩:=Iv h;have h4:=z6s h1;refine⟨⟨d.states.toNat,by omega,by omega,by omega⟩,h4.2.2.2,h4.2.1,h4.2.2.1,λr hr=>Tg (h2 r hr),λf hf=>?_⟩;have:=h3 f hf;simp only[Fc,IR,Ab,Ad] at this;exact this.1
noncomputable def comeL (d:Desc):List Bool:=zfm d.states.toNat [d.start] (fwdE d)
noncomputable def goL (d:Desc):List Bool:=zfm d.states.toNat (endE d) (bwdE d)
theorem LK{α:Type}{p:α->Bool}:∀{l:List α}{i:Nat},(∀x∈l,p x=true)->G6 p l i=none
 |[],_,_=>rfl
 |x::l,i,h=>by rw[G6,Ae (h x (by simp)),LK λy hy=>h y (by simp[hy])]
theorem Xf{d:Desc}(h1:Pi d=true)(h2:∀r∈d.rules,Gt d r=true)(h3:∀f∈d.finals,Fc d f=true)(h4:¬cycP d.rules d.states.toNat):FD d=(0,0)/\FO d=0:=by
 have e:FD d=(0,0):=by
  rw[FD,Ac (by simp[h1]),LK h2];simp only;rw[LK h3];simp only;rw[Ac h4]
 exact⟨e,by rw[FO,e];rfl⟩
theorem zd8(s:Int):Full (domL s)/\∀v,memL (domL s) v->0<=v/\v<=1114111:=by
 refine⟨λt ht=>?_,λv hv=>N6 (Jz.1 hv)⟩;unfold domL at ht;split at ht
 ·simp at ht;subst ht;simp
 ·split at ht
  ·simp at ht;rcases ht with rfl|rfl<;>simp
  ·cases ht
def zoe(a b:Int):Desc:=⟨a,b,1,0,[],[]⟩
structure zk1(d:Desc)(k:Nat)(f:Bool)(w a l:Int):Prop where
 le:k<=d.rules.length
 fr:freeB d=(f&&(d.rules.drop k).all λr=>!Dr r)
 wi:zoc d=(d.rules.drop k).foldl widF w
 ah:zod d=(d.rules.drop k).foldl aheF a
 lo:longV d=d.finals.foldl lonG ((d.rules.drop k).foldl lonF l)
 nn:0<=a
theorem zk1.step{d:Desc}{k:Nat}{f:Bool}{w a l:Int}(h:zk1 d k f w a l)(hk:k<d.rules.length){f2:Bool}{w2 a2 l2:Int}(e1:f2=(f&&!Dr (nth d.rules k)))(e2:w2=widF w (nth d.rules k))(e3:a2=aheF a (nth d.rules k))(e4:l2=lonF l (nth d.rules k)):zk1 d (k+1) f2 w2 a2 l2 where
 le:=by omega
 fr:=by rw[h.fr,drop_at hk,List.all_cons,e1,Bool.and_assoc]
 wi:=by rw[h.wi,fold_at hk,e2]
 ah:=by rw[h.ah,fold_at hk,e3]
 lo:=by rw[h.lo,fold_at hk,e4]
 nn:=by have:=h.nn;rw[e3,aheF];omega
def famB(n:Nat)(f:Nat->Bool):List AV:=(List.range n).map λi=>AV.bool (f i)
theorem Tj{n i:Nat}{f:Nat->Bool}{x:Bool}(h:i<n):(famB n f).set i (.bool x)=famB n λj=>if j=i then x else f j:=by
 rw[famB,CJ h,famB];refine AD λp _=>?_;by_cases e:p=i
 ·subst e;simp
 ·simp[e]
theorem Hf{n:Nat}{f g:Nat->Bool}(h:∀i,i<n->f i=g i):famB n f=famB n g:=AD λi hi=>by rw[h i (by simpa using hi)]
theorem Za(n:Nat):List.replicate n (AV.bool false)=famB n λ_=>false:=by
 refine BI (by simp[famB]) λi h1 h2=>?_;simp[famB]
theorem zd9{l:List Rule}{on:Nat->Bool}{m:Nat}(hm:m<l.length):onF (l.take (m+1)) on=λj=>onF (l.take m) on j||(Dr (nth l m)&&(on (nth l m).from_.toNat&&decide ((nth l m).to_=j))):=by
 funext j;rw[onF,take_at hm,List.any_append];simp[onF]
theorem z1d{l:List Rule}{on:Nat->Bool}{m:Nat}(hm:m<l.length):JZ (l.take (m+1)) on=(JZ (l.take m) on||(Dr (nth l m)&&on (nth l m).from_.toNat)):=by
 rw[JZ,take_at hm,List.any_append];simp[JZ]
theorem Xg(d:Desc)(hd:zob d):PC Tryz.prog 93 [Cu d] (.bool (cycR d.rules d.states.toNat)):=by
 obtain⟨⟨hn1,hn2⟩,hlen,hrul⟩:=hd;have hPr:=BF d.rules;have hPf:=B9 d.finals;obtain⟨n,hn⟩:∃n:Nat,d.states=n:=⟨d.states.toNat,by omega⟩
 have pB:∀f,A6 (famB n f)=true:=λf=>BQ.2 λx hx=>by
  obtain⟨i,_,rfl⟩:=Ar.1 hx;rfl
 have lB:∀f,(famB n f).length=n:=λf=>by simp[famB]
 have aB:∀f i,i<n->(famB n f).getD i .any=.bool (f i):=λf i hi=>Cq hi;have rB:=Za n;have hpd:A6 [Cu d]=true:=by simp[A6,Gp]
 refine BA Sj ?_;unfold Lm;rw[hn,Int.toNat_natCast];(with_reducible repeat'(first|simp (disch:=omega) only[push_cast,↓zz,seval,hn]|apply Aa|refine sp_ ?_ ?_<;>intro hc<;>push_cast at hc|omega|intro _))
 refine AQ (AX (λ(k:Nat)=>k<=n) (λk=>n-k)
  (λk=>[(1,.ptr 0 1 0 0),(3,.ref 1 1 0 n),(13,.int .i64 n),(14,.int .i64 k)]) (λk=>[⟨6,1,true,[Cu d]⟩,⟨1,1,true,famB n λi=>decide (i<k)⟩]) (λenv _=>[Cf 6 (env 1),Cf 1 (env 3)]) 0 (by simp) ?_ ?_)
 ·have e0:(famB n λi=>decide (i<0))=famB n λ_=>false:=Hf λi _=>by simp
  (with_reducible repeat'(first|simp (disch:=omega) only[push_cast,↓zz,seval,hPr,hPf,hn,rB,e0,pB,lB,Int.toNat_natCast]|apply Aa|refine sp_ ?_ ?_<;>intro hc<;>push_cast at hc|omega|intro _))
 intro k hk;rcases Ah k n with hkn|hkn
 ·have hs:=Tj (f:=λi=>decide (i<k)) (x:=true) hkn
  have he:(famB n λj=>if j=k then true else decide (j<k))=famB n λi=>decide (i<k+1):=Hf λi _=>by
   by_cases h:i=k
   ·subst h;simp
   ·rw[Ac h,BC];omega
  rw[he] at hs;refine W_T ?_;(with_reducible repeat'(first|simp (disch:=omega) only[push_cast,↓zz,seval,hPr,hPf,hn,pB,lB,hs]|apply Aa|refine sp_ ?_ ?_<;>intro hc<;>push_cast at hc|omega|intro _))
  all_goals
   refine⟨k+1,?_⟩;(with_reducible repeat'(first|simp (disch:=omega) only[push_cast,↓zz,seval]|apply Aa|refine sp_ ?_ ?_<;>intro hc<;>push_cast at hc|omega|intro _))
 ·have hkk:n=k:=by omega
  subst hkk;have he:(famB n λi=>decide (i<n))=famB n (onK d.rules 0):=Hf λi hi=>by simp[onK,hi]
  rw[he];refine W_T ?_;(with_reducible repeat'(first|simp (disch:=omega) only[push_cast,↓zz,seval,hPr,hPf,hn,pB,lB]|apply Aa|refine sp_ ?_ ?_<;>intro hc<;>push_cast at hc|omega|intro _))
  refine AQ (AX (λ(k:Nat)=>k<=n+1/\∀i,i<k->JZ d.rules (onK d.rules i)=true) (λk=>n+1-k)
   (λk=>[(1,.ptr 0 1 0 0),(3,.ref 1 1 0 n),(5,.int .i64 k)]) (λk=>[⟨6,1,true,[Cu d]⟩,⟨1,1,true,famB n (onK d.rules k)⟩]) (λenv _=>[Cf 6 (env 1),Cf 1 (env 3)]) 0 ⟨by simp,λi hi=>by omega⟩ ?_ ?_)
  ·(with_reducible repeat'(first|simp (disch:=omega) only[push_cast,↓zz,seval,hPr,hPf,hn,pB,lB]|apply Aa|refine sp_ ?_ ?_<;>intro hc<;>push_cast at hc|omega|intro _))
  rintro k ⟨k1,k2⟩;rcases Ah k (n+1) with hk1|hk1
  ·generalize hon:onK d.rules k=on at *
   refine W_T ?_;(with_reducible repeat'(first|simp (disch:=omega) only[push_cast,↓zz,seval,hPr,hPf,hn,pB,lB,rB,Int.toNat_natCast]|apply Aa|refine sp_ ?_ ?_<;>intro hc<;>push_cast at hc|omega|intro _))
   refine AQ (AX (λ(m:Nat)=>m<=d.rules.length) (λm=>d.rules.length-m)
    (λm=>[(1,.ptr 0 1 0 0),(3,.ref 1 1 0 n),(5,.int .i64 k),(6,.ref 2 1 0 n),(7,.bool (JZ (d.rules.take m) on)),(8,.int .i64 m)]) (λm=>[⟨6,1,true,[Cu d]⟩,⟨1,1,true,famB n on⟩,⟨1,1,true,famB n (onF (d.rules.take m) on)⟩]) (λenv _=>[Cf 6 (env 1),Cf 1 (env 3),Cf 1 (env 6)]) 0 (by simp) ?_ ?_)
   ·have e1:famB n (onF [] on)=famB n λ_=>false:=Hf λi _=>by simp[onF]
    have e2:JZ [] on=false:=by simp[JZ]
    (with_reducible repeat'(first|simp (disch:=omega) only[push_cast,↓zz,seval,hPr,hPf,hn,pB,lB,e1,e2]|apply Aa|refine sp_ ?_ ?_<;>intro hc<;>push_cast at hc|omega|intro _))
   intro m hm;rcases Ah m d.rules.length with hml|hml
   ·have hr:=hrul _ (AL hml)
    have e1:=zd9 (on:=on) hml;have e2:=z1d (on:=on) hml;generalize hre:nth d.rules m=r at *;have hP:=Bs r.guards;have hT:=BP r.out;obtain⟨i,hi⟩:∃i:Nat,r.from_=i:=⟨r.from_.toNat,by omega⟩;obtain⟨j,hj⟩:∃j:Nat,r.to_=j:=⟨r.to_.toNat,by omega⟩;have hin:i<n:=by omega
    have hjn:j<n:=by omega
    have aI:=aB on i hin;have hset:=Tj (f:=onF (d.rules.take m) on) (x:=true) hjn;rw[hi,hj,Int.toNat_natCast] at e1;rw[hi,Int.toNat_natCast] at e2;by_cases he:(r.guards.length:Int)=0
    ·have hie:Dr r=true:=by simp[Dr,he]
     rw[hie] at e1 e2;cases hoi:on i with
     |true =>
      rw[hoi] at aI e1 e2
      have e3:(famB n λp=>if p=j then true else onF (d.rules.take m) on p)=famB n (onF (d.rules.take (m+1)) on):=Hf λp _=>by
       rw[e1];by_cases h:p=j
       ·subst h;simp
       ·have:¬(j:Int)=p:=by omega
        simp[h,this]
      rw[e3] at hset;simp only[Bool.and_self,Bool.or_true] at e2;refine W_T ?_;(with_reducible repeat'(first|simp (disch:=omega) only[push_cast,↓zz,seval,hPr,hPf,hn,pB,lB,hre,hP,hT,hi,hj,he,aI,hset]|apply Aa|refine sp_ ?_ ?_<;>intro hc<;>push_cast at hc|omega|intro _))
      all_goals
       refine⟨m+1,?_⟩;(with_reducible repeat'(first|simp (disch:=omega) only[push_cast,↓zz,seval,e2]|apply Aa|refine sp_ ?_ ?_<;>intro hc<;>push_cast at hc|omega|intro _))
     |false =>
      rw[hoi] at aI e1 e2;have e3:famB n (onF (d.rules.take (m+1)) on)=famB n (onF (d.rules.take m) on):=Hf λp _=>by rw[e1];simp
      simp only[Cm,Dz] at e2;refine W_T ?_;(with_reducible repeat'(first|simp (disch:=omega) only[push_cast,↓zz,seval,hPr,hPf,hn,pB,lB,hre,hP,hT,hi,hj,he,aI]|apply Aa|refine sp_ ?_ ?_<;>intro hc<;>push_cast at hc|omega|intro _))
      all_goals
       refine⟨m+1,?_⟩;(with_reducible repeat'(first|simp (disch:=omega) only[push_cast,↓zz,seval,e2,e3]|apply Aa|refine sp_ ?_ ?_<;>intro hc<;>push_cast at hc|omega|intro _))
    ·have hie:Dr r=false:=AM he
     rw[hie] at e1 e2;have e3:famB n (onF (d.rules.take (m+1)) on)=famB n (onF (d.rules.take m) on):=Hf λp _=>by rw[e1];simp
     simp only[AI,Dz] at e2;refine W_T ?_;(with_reducible repeat'(first|simp (disch:=omega) only[push_cast,↓zz,seval,hPr,hPf,hn,pB,lB,hre,hP,hT,hi,hj,he]|apply Aa|refine sp_ ?_ ?_<;>intro hc<;>push_cast at hc|omega|intro _))
     all_goals
      refine⟨m+1,?_⟩;(with_reducible repeat'(first|simp (disch:=omega) only[push_cast,↓zz,seval,e2,e3]|apply Aa|refine sp_ ?_ ?_<;>intro hc<;>push_cast at hc|omega|intro _))
   ·have hme:m=d.rules.length:=by omega
    subst hme;rw[A3];have hnx:onF d.rules on=onK d.rules (k+1):=by rw[<-hon];rfl
    rw[hnx];cases hsm:JZ d.rules on with
    |false =>
     have hres:cycR d.rules n=false:=by
      rw[cycR,List.all_eq_false];exact⟨k,by simp;omega,by rw[hon,hsm];simp⟩
     rw[hres];refine W_T ?_;(with_reducible repeat'(first|simp (disch:=omega) only[push_cast,↓zz,seval,hPr,hPf,hn,pB,lB]|apply Aa|refine sp_ ?_ ?_<;>intro hc<;>push_cast at hc|omega|intro _))
    |true =>
     have hall:∀i,i<k+1->JZ d.rules (onK d.rules i)=true:=λi hi=>by
      rcases Ah i k with h|h
      ·exact k2 i h
      ·obtain rfl:i=k:=by omega
       rw[hon];exact hsm
     refine W_T ?_;(with_reducible repeat'(first|simp (disch:=omega) only[push_cast,↓zz,seval,hPr,hPf,hn,pB,lB]|apply Aa|refine sp_ ?_ ?_<;>intro hc<;>push_cast at hc|omega|intro _))
     all_goals
      refine⟨k+1,?_⟩;(with_reducible repeat'(first|simp (disch:=omega) only[push_cast,↓zz,seval]|apply Aa|refine sp_ ?_ ?_<;>intro hc<;>push_cast at hc|omega|intro _))
     all_goals first|exact hall _ (by omega)|exact hall
  ·have hke:k=n+1:=by omega
   have hres:cycR d.rules n=true:=by
    rw[cycR,AJ];intro i hi;exact k2 i (by simp at hi;omega)
   rw[hres];refine W_T ?_;(with_reducible repeat'(first|simp (disch:=omega) only[push_cast,↓zz,seval,hPr,hPf,hn,pB,lB]|apply Aa|refine sp_ ?_ ?_<;>intro hc<;>push_cast at hc|omega|intro _))
   all_goals trace_state
theorem z72(v:Nat)(l:List Int)(x:Int)(hr:C1 l)(hl:l.length<=1000000000000){K:AV->Ax->Prop}(p:Nat)(hp:Place l x p p)
 (hyes:p<l.length->nth l p=x->K (.ref 0 v 0 l.length) (Abs.hl [⟨1,v,false,l.map intV⟩]))
 (hno:(p<l.length->nth l p≠x)->K (.ref 0 (v+1) 0 (l.length+1)) (Abs.hl [⟨1,v+1,false,(l.take p++x::l.drop p).map intV⟩])) :
 BB Tryz.prog 173 [.ref 0 v 0 l.length,.int .i64 x] (Abs.hl [⟨1,v,false,l.map intV⟩]) K:=by
 refine Gz (b:=1) W8 rfl ?_;unfold OH;(with_reducible repeat'(first|simp (disch:=omega) only[push_cast,↓zz,seval]|apply Aa|refine sp_ ?_ ?_<;>intro hc<;>push_cast at hc|omega|intro _))
 refine AQ (AX (λ(s:Nat × Nat)=>Place l x s.1 s.2) (λs=>s.2-s.1) (λs=>[(0,.ref 0 v 0 l.length),(1,.int .i64 x),(5,.int .i64 s.1),(6,.int .i64 s.2)])
  (λ_=>[⟨1,v,false,l.map intV⟩]) (λ_ _=>[]) (0,l.length) ⟨by simp,by simp,by simp,by intro j h1 h2;simp at h1;omega⟩ ?_ ?_)
 ·(with_reducible repeat'(first|simp (disch:=omega) only[push_cast,↓zz,seval]|apply Aa|refine sp_ ?_ ?_<;>intro hc<;>push_cast at hc|omega|intro _))
 rintro⟨lo,hi⟩ hpl;have hle:=hpl.le;have htop:=hpl.top;simp only at hle htop;rcases Ah lo hi with hlh|hlh
 ·obtain⟨s1,s2⟩:=QQ hr hpl hlh
  have hm:(lo+hi) / 2<l.length:=by omega
  have hw:IntKind.i64.wrap (((lo:Int)+(hi:Int)).tdiv 2)=(((lo+hi) / 2:Nat):Int):=by
   rw[Int.tdiv_eq_ediv_of_nonneg (by omega),show ((lo:Int)+hi) / 2=(((lo+hi) / 2:Nat):Int) by omega];exact IntWalk.i64_in _ (by omega)
  refine W_T ?_;(with_reducible repeat'(first|simp (disch:=omega) only[push_cast,↓zz,seval,hw]|apply Aa|refine sp_ ?_ ?_<;>intro hc<;>push_cast at hc|omega|intro _))
  all_goals rw[show (((lo:Int)+hi) / 2).toNat=(lo+hi) / 2 by omega] at hc
  ·exact⟨((lo+hi) / 2+1,hi),⟨by simp only;omega,rfl⟩,s1 hc,by simp only;omega⟩
  ·exact⟨(lo,(lo+hi) / 2),⟨rfl,by simp only;omega⟩,s2 hc,by simp only;omega⟩
 ·have hlp:lo=p/\hi=p:=by
   have e:lo=hi:=by omega
   subst e;rcases DI lo p with h|h|h
   ·have:=hp.lt lo h;have:=hpl.ge lo (Af _) (by have:=hp.top;omega);omega
   ·exact⟨h,h⟩
   ·have:=hpl.lt p h;have:=hp.ge p (Af _) (by omega);omega
  obtain⟨rfl,rfl⟩:=hlp;refine W_T ?_;(with_reducible repeat'(first|simp (disch:=omega) only[push_cast,↓zz,seval]|apply Aa|refine sp_ ?_ ?_<;>intro hc<;>push_cast at hc|omega|intro _))
  ·exact hyes (by omega) hc
  all_goals
   have hn:=hno (by first|exact λ_=>hc|exact λh=>absurd h (by omega))
   refine AQ (AX (λ(s:Nat × Int)=>hi<=s.1/\s.1<=l.length) (λs=>s.1) (λs=>[(0,.ref 0 (v+1) 0 (l.length+1)),(1,.int .i64 x),(5,.int .i64 hi),(8,.int .i64 s.1)])
    (λs=>[⟨1,v+1,false,(gapL l s.1 s.2).map intV⟩]) (λ_ _=>[]) (l.length,0) ⟨by simp only;omega,by simp⟩ ?_ ?_)
   ·(with_reducible repeat'(first|simp (disch:=omega) only[push_cast,↓zz,seval,YG]|apply Aa|refine sp_ ?_ ?_<;>intro hc<;>push_cast at hc|omega|intro _))
   rintro⟨i,y⟩ ⟨h1,h2⟩;simp only at h1 h2;have hgl:=YF (y:=y) h2;refine W_T ?_;rcases Ah hi i with hlt|hge
   ·obtain⟨i,rfl⟩:∃k,i=k+1:=⟨i-1,by omega⟩
    have hs:=N2 (y:=y) (z:=nth l i) h2;have ha:=z65 (y:=y) (show i<l.length by omega);rw[Vj (by omega)] at hs;(with_reducible repeat'(first|simp (disch:=omega) only[push_cast,↓zz,seval,hgl,hs,ha,GI]|apply Aa|refine sp_ ?_ ?_<;>intro hc<;>push_cast at hc|omega|intro _))
    all_goals exact⟨(i,nth l i),⟨rfl,Bc _ _⟩,⟨by simp only;omega,by simp only;omega⟩,by simp only;omega⟩
   ·obtain rfl:i=hi:=by omega
    have hs:=N2 (y:=y) (z:=x) h2;(with_reducible repeat'(first|simp (disch:=omega) only[push_cast,↓zz,seval,hgl,hs]|apply Aa|refine sp_ ?_ ?_<;>intro hc<;>push_cast at hc|omega|intro _));exact hn
theorem Vz(v:Nat)(l:List Int)(x:Int)(hr:C1 l)(hl:l.length<=1000000000000):
 BB Tryz.prog 173 [.ref 0 v 0 l.length,.int .i64 x] (Abs.hl [⟨1,v,false,l.map intV⟩]) λy H'=>∃v',y=.ref 0 v' 0 (putI l x).length/\H'=Abs.hl [⟨1,v',false,(putI l x).map intV⟩]:=by
 obtain⟨e1,e2⟩:=SR l x;refine z72 v l x hr hl (lowI l x) (Ip hr x) (λh1 h2=>?_) (λh=>?_)
 ·rw[putI,Ae ((SS hr x).2 ⟨h1,h2⟩)]
  exact⟨v,rfl,rfl⟩
 ·rw[putI,Ac (λhx=>by obtain⟨h1,h2⟩:=(SS hr x).1 hx;exact h h1 h2),<-e1,<-e2]
  refine⟨v+1,?_,rfl⟩;congr 1;have:=(Ip hr x).top;simp;omega
theorem Rh:∀{a b:List Int},C1 a->C1 b->(∀x,x∈a↔x∈b)->a=b
 |[],[],_,_,_=>rfl
 |[],y::b,_,_,h=>absurd ((h y).2 (by simp)) (by simp)
 |x::a,[],_,_,h=>absurd ((h x).1 (by simp)) (by simp)
 |x::a,y::b,ha,hb,h=>by
  obtain⟨a1,a2⟩:=A9.1 ha;obtain⟨b1,b2⟩:=A9.1 hb;have hx:=(h x).1 (by simp);have hy:=(h y).2 (by simp)
  have e:x=y:=by
   rcases Ai.1 hx with e|hx
   ·exact e
   ·rcases Ai.1 hy with e|hy
    ·exact e.symm
    ·have:=b1 x hx;have:=a1 y hy;omega
  subst e;rw[Rh a2 b2 λz=>?_];have hz:=h z;simp only[Ai] at hz;constructor
  ·intro hm
   rcases hz.1 (.inr hm) with e|hm'
   ·have:=a1 z hm;omega
   ·exact hm'
  ·intro hm
   rcases hz.2 (.inr hm) with e|hm'
   ·have:=b1 z hm;omega
   ·exact hm'
theorem JR:∀(m l:List Int),C1 l->C1 (m.foldl putI l)/\(m.foldl putI l).length<=l.length+m.length/\∀v,v∈m.foldl putI l↔v∈l\/v∈m
 |[],l,h=>⟨h,by simp,λv=>by simp⟩
 |x::m,l,h=>by
  obtain⟨i1,i2,i3⟩:=JR m (putI l x) (Hw h x)
  have hl:(putI l x).length<=l.length+1:=by
   unfold putI;split
   ·omega
   ·have:=DJ List.length (Cx (p:=λy=>decide (y<x)) (l:=l))
    simp only[An,List.length_cons] at this ⊢;omega
  refine⟨i1,by simp only[List.foldl_cons,List.length_cons];omega,λv=>?_⟩;rw[List.foldl_cons,i3,SQ,Ai];constructor
  ·rintro ((h|h)|h)
   ·exact .inr (.inl h)
   ·exact .inl h
   ·exact .inr (.inr h)
  ·rintro (h|h|h)
   ·exact .inl (.inr h)
   ·exact .inl (.inl h)
   ·exact .inr h
def HD(out:List Span)(x:Int):List Span:=addS out ⟨x,x⟩
def Km(l:List Int):List Span:=l.foldl HD []
theorem Ri(l:List Int):∀out:List Span,(l.foldl HD out).length<=out.length+l.length:=by
 induction l with
 |nil=>intro out;simp
 |cons x l ih =>
  intro out;have:=ih (HD out x);have h2:=zcj out ⟨x,x⟩;simp only[List.foldl_cons,List.length_cons,HD] at *;omega
theorem Xh(l:List Int)(hl:l.length<=1000000000)(hb:∀x∈l,-1099511627776<=x/\x<=1099511627776):PC Tryz.prog 175 [G3 l] (Bn (Km l)):=by
 have hP:A6 (l.map (AV.int .i64))=true:=AE .i64 l;refine BA Sx ?_;unfold L3;(with_reducible repeat'(first|simp (disch:=omega) only[push_cast,↓zz,seval]|apply Aa|refine sp_ ?_ ?_<;>intro hc<;>push_cast at hc|omega|intro _))
 refine AQ (AX (λ(k:Nat)=>k<=l.length) (λk=>l.length-k)
  (λk=>[(0,G3 l),(3,.ref 0 1 0 ((l.take k).foldl HD []).length),(4,.int .i64 k)]) (λk=>[⟨2,1,false,((l.take k).foldl HD []).map C8⟩]) (λenv _=>[Cf 2 (env 3)]) 0 (by simp) ?_ ?_)
 ·(with_reducible repeat'(first|simp (disch:=omega) only[push_cast,↓zz,seval,hP,List.foldl_nil,List.length_nil]|apply Aa|refine sp_ ?_ ?_<;>intro hc<;>push_cast at hc|omega|intro _))
 intro k hk;have hlen:=Ri (l.take k) [];simp only[List.length_nil,BR] at hlen;rcases Ah k l.length with hkl|hkl
 ·have hxb:=hb _ (AL hkl)
  have hst:(l.take (k+1)).foldl HD []=addS ((l.take k).foldl HD []) ⟨nth l k,nth l k⟩:=by rw[take_at hkl,Co];rfl
  generalize hxe:nth l k=x at *;generalize hoe:(l.take k).foldl HD []=out at *;have hwn:IntKind.i64.wrap (x-1)=x-1:=IntWalk.i64_in _ (by omega);rcases Fy out with rfl|⟨mm,z,hout⟩
  ·rw[He] at hst
   refine W_T ?_;(with_reducible repeat'(first|simp (disch:=omega) only[push_cast,↓zz,seval,hP,hxe,hwn]|apply Aa|refine sp_ ?_ ?_<;>intro hc<;>push_cast at hc|omega|intro _))
   all_goals
    refine⟨k+1,?_⟩;(with_reducible repeat'(first|simp (disch:=omega) only[push_cast,↓zz,seval,hst]|apply Aa|refine sp_ ?_ ?_<;>intro hc<;>push_cast at hc|omega|intro _))
  ·have l1:out.length=mm.length+1:=by rw[hout];simp
   have l2:nth out mm.length=z:=by rw[hout];exact SV
   have l3:IntKind.i64.wrap (mm.length:Int)=mm.length:=IntWalk.i64_in _ (by omega);have l4:(out.map C8).set mm.length (.agg [.int .i64 z.lo,.int .i64 x])=(mm++[(⟨z.lo,x⟩:Span)]).map C8:=by rw[hout];exact Js (f:=C8) (z:=⟨z.lo,x⟩)
   have hadd:addS out ⟨x,x⟩=if z.hi=x-1 then mm++[⟨z.lo,x⟩] else out++[⟨x,x⟩]:=by rw[hout,Iq]
   rw[hadd] at hst;clear hadd hout;refine W_T ?_;(with_reducible repeat'(first|simp (disch:=omega) only[push_cast,↓zz,seval,hP,hxe,hwn,l1,l2,l3,l4]|apply Aa|refine sp_ ?_ ?_<;>intro hc<;>push_cast at hc|omega|intro _))
   ·rw[Ae (by assumption)] at hst
    refine⟨k+1,?_⟩;(with_reducible repeat'(first|simp (disch:=omega) only[push_cast,↓zz,seval,hst]|apply Aa|refine sp_ ?_ ?_<;>intro hc<;>push_cast at hc|omega|intro _))
   ·rw[Ac (by assumption)] at hst
    refine⟨k+1,?_⟩;(with_reducible repeat'(first|simp (disch:=omega) only[push_cast,↓zz,seval,hst,l1]|apply Aa|refine sp_ ?_ ?_<;>intro hc<;>push_cast at hc|omega|intro _))
 ·have et:l.take k=l:=Al hkl
  have hke:k=l.length:=by omega
  rw[et] at hlen ⊢;have hsl:l.foldl HD []=Km l:=rfl;rw[hsl] at hlen ⊢;have hpp:=Dn (Km l);refine W_T ?_;(with_reducible repeat'(first|simp (disch:=omega) only[push_cast,↓zz,seval,hP,hke,hpp]|apply Aa|refine sp_ ?_ ?_<;>intro hc<;>push_cast at hc|omega|intro _))
  all_goals trace_state
def prs(a b:List Int):List Int:=a.flatMap λx=>b.map (x+·)
def bigB(v:Int):Bool:=decide (1114111<v)
def Pp(a b:List Int):Option (List Int):=if (prs a b).any bigB then none else some ((prs a b).foldl putI [])
abbrev optL(o:Option (List Int)):AV:=.tup [G3 (o.getD []),.bool o.isSome]
theorem Pq{a b:List Int}{v:Int}:v∈prs a b↔∃x∈a,∃y∈b,x+y=v:=by simp[prs]
theorem Zb{a b:List Int}{k:Nat}(h:k<a.length):prs (a.take (k+1)) b=prs (a.take k) b++b.map (nth a k+·):=by rw[prs,take_at h];simp[prs]
theorem zk2(a b:List Int):(prs a b).length=a.length * b.length:=by
 induction a with
 |nil=>simp[prs]
 |cons x a ih =>
  have:prs (x::a) b=b.map (x+·)++prs a b:=rfl
  rw[this,An,Bh,ih,List.length_cons,AO];omega
theorem Zc{a b:List Int}{i k:Nat}(hi:i<a.length)(hk:k<b.length)(h:1114111<nth a i+nth b k):Pp a b=none:=by
 rw[Pp,Ae];rw[B8];exact⟨_,Pq.2 ⟨_,AL hi,_,AL hk,rfl⟩,by simpa [bigB] using h⟩
theorem Zd{a b:List Int}(h:∀v∈prs a b,v<=1114111):Pp a b=some ((prs a b).foldl putI []):=by
 rw[Pp,Ac];simp only[B8,not_exists,not_and,bigB,Ad];intro v hv;have:=h v hv;omega
def G8(m:List Int)(k:Nat):List Int:=((List.range k).filter λ(t:Nat)=>decide ((t:Int)-1114111∈m)).map λ(t:Nat)=>(t:Int)-1114111
theorem Xi(m:List Int)(k:Nat):G8 m (k+1)=if (k:Int)-1114111∈m then G8 m k++[(k:Int)-1114111] else G8 m k:=by
 rw[G8,D1,Cg,Az];split
 ·rename_i h;simp[G8,h]
 ·rename_i h;simp[G8,h]
theorem z1e(m:List Int)(k:Nat):(G8 m k).length<=k:=by
 have:=Bz (λt:Nat=>decide ((t:Int)-1114111∈m)) (List.range k);simpa [G8] using this
theorem z1f{m:List Int}{k:Nat}{v:Int}:v∈G8 m k↔(-1114111<=v/\v<(k:Int)-1114111)/\v∈m:=by
 simp only[G8,Ar,AW,Bf,Ad];constructor
 ·rintro⟨t,⟨h1,h2⟩,rfl⟩
  exact⟨by omega,h2⟩
 ·rintro⟨h1,h2⟩
  exact⟨(v+1114111).toNat,⟨by omega,by rw[show (((v+1114111).toNat:Nat):Int)-1114111=v by omega];exact h2⟩,by omega⟩
theorem Tk(m:List Int)(k:Nat):C1 (G8 m k):=by
 rw[C1,G8,DG];exact ((List.pairwise_lt_range).filter _).imp λh=>by omega
theorem z1g(a b:List Int)(hla:a.length<=3000000)(hlb:b.length<=3000000)(ha:∀x∈a,-1114111<=x/\x<=1099511627776)(hb:∀x∈b,0<=x/\x<=1099511627776):
 PC Tryz.prog 174 [G3 a,G3 b] (optL (Pp a b)):=by
 have pa:A6 (a.map (AV.int .i64))=true:=AE .i64 a;have pb:A6 (b.map (AV.int .i64))=true:=AE .i64 b;have hmul:((a.length * b.length:Nat):Int)=(a.length:Int) * b.length:=by push_cast
 have hml:a.length * b.length<=3000000 * 3000000:=B6 hla hlb;have hw:IntKind.i64.wrap ((a.length:Int) * b.length)=(a.length:Int) * b.length:=IntWalk.i64_in _ (by omega);refine BA UU ?_;unfold Na;generalize hN:(2228223:Int)=N;(with_reducible repeat'(first|simp (disch:=omega) only[push_cast,↓zz,seval,hw]|apply Aa|refine sp_ ?_ ?_<;>intro hc<;>push_cast at hc|omega|intro _))
 ·have h4:a.length * b.length<=4000:=by
   rw[<-hmul] at hc;omega
  refine AQ (AX (λ(s:Nat × List Int)=>s.1<=a.length/\s.2=(prs (a.take s.1) b).foldl putI []/\∀v∈prs (a.take s.1) b,v<=1114111) (λs=>a.length-s.1)
   (λs=>[(0,G3 a),(1,G3 b),(6,.ref 0 1 0 s.2.length),(7,.int .i64 s.1)]) (λs=>[⟨1,1,false,s.2.map (AV.int .i64)⟩]) (λenv _=>[Cf 1 (env 6)]) (0,[]) ⟨by simp,rfl,by simp[prs]⟩ ?_ ?_)
  ·(with_reducible repeat'(first|simp (disch:=omega) only[push_cast,↓zz,seval,pa,pb]|apply Aa|refine sp_ ?_ ?_<;>intro hc<;>push_cast at hc|omega|intro _))
  rintro⟨i,out⟩ ⟨i1,i2,i3⟩;simp only at i1 i2 i3;rcases Ah i a.length with hi|hi
  ·have hx:=ha _ (AL hi)
   have hsn:=Zb (b:=b) hi;refine W_T ?_;(with_reducible repeat'(first|simp (disch:=omega) only[push_cast,↓zz,seval,pa,pb]|apply Aa|refine sp_ ?_ ?_<;>intro hc<;>push_cast at hc|omega|intro _))
   refine AQ (AX (λ(s:Nat × List Int)=>s.1<=b.length/\s.2=(prs (a.take i) b++(b.take s.1).map (nth a i+·)).foldl putI []/\∀v∈prs (a.take i) b++(b.take s.1).map (nth a i+·),v<=1114111) (λs=>b.length-s.1)
    (λs=>[(0,G3 a),(1,G3 b),(6,.ref 0 1 0 s.2.length),(7,.int .i64 i),(8,.int .i64 s.1)]) (λs=>[⟨1,1,false,s.2.map (AV.int .i64)⟩]) (λenv _=>[Cf 1 (env 6)]) (0,out) ⟨by simp,by simpa using i2,by simpa using i3⟩ ?_ ?_)
   ·(with_reducible repeat'(first|simp (disch:=omega) only[push_cast,↓zz,seval,pa,pb]|apply Aa|refine sp_ ?_ ?_<;>intro hc<;>push_cast at hc|omega|intro _))
   rintro⟨k,o⟩ ⟨k1,k2,k3⟩;simp only at k1 k2 k3;rcases Ah k b.length with hk|hk
   ·have hy:=hb _ (AL hk)
    have hno:=λh=>Zc hi hk h;have hst:(b.take (k+1)).map (nth a i+·)=(b.take k).map (nth a i+·)++[nth a i+nth b k]:=by rw[take_at hk];simp
    obtain⟨f1,f2,_⟩:=JR (prs (a.take i) b++(b.take k).map (nth a i+·)) [] (by simp[C1])
    rw[<-k2] at f1 f2
    have hol:o.length<=10000000000:=by
     have h1:=zk2 (a.take i) b;have h2:(a.take i).length * b.length<=a.length * b.length:=AR _ (by simp;omega);simp only[An,Bh,List.length_nil,BR] at f2 h1 h2;omega
    generalize hxe:nth a i=x at *;generalize hye:nth b k=y at *;have hws:IntKind.i64.wrap (x+y)=x+y:=IntWalk.i64_in _ (by omega);refine W_T ?_;(with_reducible repeat'(first|simp (disch:=omega) only[push_cast,↓zz,seval,pa,pb,hxe,hye,hws]|apply Aa|refine sp_ ?_ ?_<;>intro hc<;>push_cast at hc|omega|intro _))
    ·rw[hno (by assumption)]
     (repeat'(first|(simp(disch:=omega)only[push_cast,↓zz,seval,Dq])|omega|(with_reducible refine Aa ?_ ?_)))
    ·(refine GU [0] (Vz 1 o (x+y) f1 (by omega)) (by decide) (by simp) (by (simp(disch:=omega)only[push_cast,↓zz,seval])) (by (simp(disch:=omega)only[push_cast,↓zz,seval])) (by (simp(disch:=omega)only[push_cast,↓zz,seval])) (by (simp(disch:=omega)only[push_cast,↓zz,seval,Ai,As,AH,BD,Cy,BH])) ?_)
     rintro y' H' ⟨v',rfl,rfl⟩;refine⟨_,rfl,by simp,?_⟩;(with_reducible repeat'(first|simp (disch:=omega) only[push_cast,↓zz,seval]|apply Aa|refine sp_ ?_ ?_<;>intro hc<;>push_cast at hc|omega|intro _));have hm:prs (a.take i) b++((b.take k).map (x+·)++[x+y])=(prs (a.take i) b++(b.take k).map (x+·))++[x+y]:=by rw[Av]
     refine⟨(k+1,putI o (x+y)),⟨⟨rfl,by push_cast⟩,Bc _ _⟩,⟨by simp only;omega,?_,?_⟩,by simp only;omega⟩
     ·rw[hst,hm,Co,<-k2];rfl
     ·rw[hst,hm]
      intro v hv;rcases Am.1 hv with hv|hv
      ·exact k3 v hv
      ·simp only[Ao] at hv;omega
   ·have hkb:b.take k=b:=Al hk
    rw[hkb,<-hsn] at k2 k3;refine W_T ?_;(with_reducible repeat'(first|simp (disch:=omega) only[push_cast,↓zz,seval,pa,pb]|apply Aa|refine sp_ ?_ ?_<;>intro hc<;>push_cast at hc|omega|intro _))
    all_goals exact⟨(i+1,o),⟨⟨rfl,by push_cast⟩,Bc _ _⟩,⟨by simp only;omega,k2,k3⟩,by simp only;omega⟩
  ·have hia:a.take i=a:=Al hi
   rw[hia] at i2 i3;have hres:=Zd i3;rw[<-i2] at hres;rw[hres];refine W_T ?_;(with_reducible repeat'(first|simp (disch:=omega) only[push_cast,↓zz,seval,pa,pb]|apply Aa|refine sp_ ?_ ?_<;>intro hc<;>push_cast at hc|omega|intro _))
   all_goals (simp only[optL,Option.getD_some,Option.isSome_some];(repeat'(first|(simp(disch:=omega)only[push_cast,↓zz,seval,Dq])|omega|(with_reducible refine Aa ?_ ?_))))
 ·obtain⟨n,hn⟩:∃n:Nat,N=n:=⟨N.toNat,by omega⟩
  subst hn
  have pB:∀f,A6 (famB n f)=true:=λf=>BQ.2 λx hx=>by
   obtain⟨i,_,rfl⟩:=Ar.1 hx;rfl
  have lB:∀f,(famB n f).length=n:=λf=>by simp[famB]
  have aB:∀f i,i<n->(famB n f).getD i .any=.bool (f i):=λf i hi=>Cq hi;have rB:=Za n
  refine AQ (AX (λ(i:Nat)=>i<=a.length/\∀v∈prs (a.take i) b,v<=1114111) (λi=>a.length-i)
   (λi=>[(0,G3 a),(1,G3 b),(9,.ref 0 1 0 n),(10,.int .i64 i)]) (λi=>[⟨1,1,true,famB n λt=>decide ((t:Int)-1114111∈prs (a.take i) b)⟩]) (λenv _=>[Cf 1 (env 9)]) 0 ⟨by simp,by simp[prs]⟩ ?_ ?_)
  ·have e0:(famB n λt=>decide ((t:Int)-1114111∈prs [] b))=famB n λ_=>false:=Hf λt _=>by simp[prs]
   (with_reducible repeat'(first|simp (disch:=omega) only[push_cast,↓zz,seval,pa,pb,rB,pB,lB,e0,Int.toNat_natCast]|apply Aa|refine sp_ ?_ ?_<;>intro hc<;>push_cast at hc|omega|intro _))
   all_goals
    show leSL _ (famB n λ_=>false) (famB n λt=>decide ((t:Int)-1114111∈prs [] b));rw[e0];exact Bc _ _
  rintro i ⟨i1,i3⟩;rcases Ah i a.length with hi|hi
  ·have hx:=ha _ (AL hi)
   have hsn:=Zb (b:=b) hi;refine W_T ?_;(with_reducible repeat'(first|simp (disch:=omega) only[push_cast,↓zz,seval,pa,pb,pB,lB]|apply Aa|refine sp_ ?_ ?_<;>intro hc<;>push_cast at hc|omega|intro _))
   refine AQ (AX (λ(k:Nat)=>k<=b.length/\∀v∈prs (a.take i) b++(b.take k).map (nth a i+·),v<=1114111) (λk=>b.length-k)
    (λk=>[(0,G3 a),(1,G3 b),(9,.ref 0 1 0 n),(10,.int .i64 i),(11,.int .i64 k)]) (λk=>[⟨1,1,true,famB n λt=>decide ((t:Int)-1114111∈prs (a.take i) b++(b.take k).map (nth a i+·))⟩]) (λenv _=>[Cf 1 (env 9)]) 0 ⟨by simp,by simpa using i3⟩ ?_ ?_)
   ·have e0:(famB n λt=>decide ((t:Int)-1114111∈prs (a.take i) b++[]))=famB n λt=>decide ((t:Int)-1114111∈prs (a.take i) b):=by rw[A5]
    (with_reducible repeat'(first|simp (disch:=omega) only[push_cast,↓zz,seval,pa,pb,pB,lB,e0,List.take_zero,Bt]|apply Aa|refine sp_ ?_ ?_<;>intro hc<;>push_cast at hc|omega|intro _))
   rintro k ⟨k1,k3⟩;rcases Ah k b.length with hk|hk
   ·have hy:=hb _ (AL hk)
    have hno:=λh=>Zc hi hk h;have hst:(b.take (k+1)).map (nth a i+·)=(b.take k).map (nth a i+·)++[nth a i+nth b k]:=by rw[take_at hk];simp
    generalize hxe:nth a i=x at *;generalize hye:nth b k=y at *;have hws:IntKind.i64.wrap (x+y)=x+y:=IntWalk.i64_in _ (by omega);have hws2:IntKind.i64.wrap (x+y+1114111)=x+y+1114111:=IntWalk.i64_in _ (by omega);by_cases hbg:1114111<x+y
    ·rw[hno hbg]
     refine W_T ?_;(with_reducible repeat'(first|simp (disch:=omega) only[push_cast,↓zz,seval,pa,pb,pB,lB,hxe,hye,hws]|apply Aa|refine sp_ ?_ ?_<;>intro hc<;>push_cast at hc|omega|intro _))
     all_goals (repeat'(first|(simp(disch:=omega)only[push_cast,↓zz,seval,Dq])|omega|(with_reducible refine Aa ?_ ?_)))
    ·obtain⟨t,ht⟩:∃t:Nat,x+y+1114111=t:=⟨(x+y+1114111).toNat,by omega⟩
     have htn:t<n:=by omega
     have hset:=Tj (f:=λt=>decide ((t:Int)-1114111∈prs (a.take i) b++(b.take k).map (x+·))) (x:=true) htn
     have he:(famB n λj=>if j=t then true else decide ((j:Int)-1114111∈prs (a.take i) b++(b.take k).map (x+·)))=famB n λj=>decide ((j:Int)-1114111∈prs (a.take i) b++(b.take (k+1)).map (x+·)):=Hf λj _=>by
      rw[hst,<-Av];by_cases h:j=t
      ·subst h
       rw[Ae rfl,Gh,Ad,Am];exact .inr (by simp;omega)
      ·rw[Ac h,BC,Am (s:=prs (a.take i) b++(b.take k).map (x+·))]
       simp only[Ao];exact⟨.inl,λhh=>hh.elim id λhh=>absurd hh (by omega)⟩
     rw[he] at hset;refine W_T ?_;(with_reducible repeat'(first|simp (disch:=omega) only[push_cast,↓zz,seval,pa,pb,pB,lB,hxe,hye,hws,hws2,ht,hset]|apply Aa|refine sp_ ?_ ?_<;>intro hc<;>push_cast at hc|omega|intro _))
     all_goals
      refine⟨k+1,?_⟩;(with_reducible repeat'(first|simp (disch:=omega) only[push_cast,↓zz,seval]|apply Aa|refine sp_ ?_ ?_<;>intro hc<;>push_cast at hc|omega|intro _))
     all_goals
      rename_i v hv;rw[hst,<-Av] at hv;rcases Am.1 hv with hv|hv
      ·exact k3 v hv
      ·simp only[Ao] at hv;omega
   ·have hkb:b.take k=b:=Al hk
    rw[hkb,<-hsn] at k3;rw[hkb,<-hsn];refine W_T ?_;(with_reducible repeat'(first|simp (disch:=omega) only[push_cast,↓zz,seval,pa,pb,pB,lB]|apply Aa|refine sp_ ?_ ?_<;>intro hc<;>push_cast at hc|omega|intro _))
    all_goals
     refine⟨i+1,?_⟩;(with_reducible repeat'(first|simp (disch:=omega) only[push_cast,↓zz,seval]|apply Aa|refine sp_ ?_ ?_<;>intro hc<;>push_cast at hc|omega|intro _))
    all_goals exact k3
  ·have hia:a.take i=a:=Al hi
   rw[hia] at i3;have hres:=Zd i3
   have hmem:∀v,v∈prs a b->-1114111<=v/\v<=1114111:=λv hv=>by
    obtain⟨x,hx,y,hy,rfl⟩:=Pq.1 hv;have h1:=ha x hx;have h2:=hb y hy;have h3:=i3 _ hv;omega
   rw[hia];refine W_T ?_;(with_reducible repeat'(first|simp (disch:=omega) only[push_cast,↓zz,seval,pa,pb,pB,lB]|apply Aa|refine sp_ ?_ ?_<;>intro hc<;>push_cast at hc|omega|intro _));have lG:∀k,k<=n->(G8 (prs a b) k).length<=k:=λk _=>z1e _ k
   refine AQ (AX (λ(k:Nat)=>k<=n) (λk=>n-k)
    (λk=>[(9,.ref 0 1 0 n),(12,.ref 1 1 0 (G8 (prs a b) k).length),(13,.int .i64 k)]) (λk=>[⟨1,1,true,famB n λt=>decide ((t:Int)-1114111∈prs a b)⟩,⟨1,1,false,(G8 (prs a b) k).map (AV.int .i64)⟩]) (λenv _=>[Cf 1 (env 9),Cf 1 (env 12)]) 0 (by simp) ?_ ?_)
   ·have e0:G8 (prs a b) 0=[]:=rfl
    (with_reducible repeat'(first|simp (disch:=omega) only[push_cast,↓zz,seval,pB,lB,e0]|apply Aa|refine sp_ ?_ ?_<;>intro hc<;>push_cast at hc|omega|intro _))
   intro k hk;have hlk:=lG k hk;rcases Ah k n with hkn|hkn
   ·have aK:=aB (λt=>decide ((t:Int)-1114111∈prs a b)) k hkn
    have hst:=Xi (prs a b) k;have hwk:IntKind.i64.wrap ((k:Int)-1114111)=(k:Int)-1114111:=IntWalk.i64_in _ (by omega);by_cases hm:(k:Int)-1114111∈prs a b
    ·rw[Ae hm] at hst
     rw[A7 hm] at aK;refine W_T ?_;(with_reducible repeat'(first|simp (disch:=omega) only[push_cast,↓zz,seval,pB,lB,aK,hwk]|apply Aa|refine sp_ ?_ ?_<;>intro hc<;>push_cast at hc|omega|intro _))
     all_goals
      refine⟨k+1,?_⟩;(with_reducible repeat'(first|simp (disch:=omega) only[push_cast,↓zz,seval,hst]|apply Aa|refine sp_ ?_ ?_<;>intro hc<;>push_cast at hc|omega|intro _))
    ·rw[Ac hm] at hst
     rw[AM hm] at aK;refine W_T ?_;(with_reducible repeat'(first|simp (disch:=omega) only[push_cast,↓zz,seval,pB,lB,aK,hwk]|apply Aa|refine sp_ ?_ ?_<;>intro hc<;>push_cast at hc|omega|intro _))
     all_goals
      refine⟨k+1,?_⟩;(with_reducible repeat'(first|simp (disch:=omega) only[push_cast,↓zz,seval,hst]|apply Aa|refine sp_ ?_ ?_<;>intro hc<;>push_cast at hc|omega|intro _))
   ·have hke:k=n:=by omega
    subst hke
    have heq:G8 (prs a b) k=(prs a b).foldl putI []:=by
     obtain⟨f1,_,f3⟩:=JR (prs a b) [] (by simp[C1]);refine Rh (Tk _ _) f1 λv=>?_;rw[z1f,f3];simp only[As,Cp];constructor
     ·exact λh=>h.2
     ·intro h
      have:=hmem v h;exact⟨by omega,h⟩
    have hpo:A6 ((G8 (prs a b) k).map (AV.int .i64))=true:=AE .i64 _;rw[heq] at hpo hlk ⊢;rw[hres];refine W_T ?_;(with_reducible repeat'(first|simp (disch:=omega) only[push_cast,↓zz,seval,pB,lB,hpo]|apply Aa|refine sp_ ?_ ?_<;>intro hc<;>push_cast at hc|omega|intro _))
    all_goals (simp only[optL,Option.getD_some,Option.isSome_some];(repeat'(first|(simp(disch:=omega)only[push_cast,↓zz,seval,Dq])|omega|(with_reducible refine Aa ?_ ?_))))
theorem Nj(s:Int):PC Tryz.prog 130 [.int .i64 s] (Bn (domL s)):=by
 refine BA PW ?_;unfold Ki;(with_reducible repeat'(first|simp (disch:=omega) only[push_cast,↓zz,seval]|apply Aa|refine sp_ ?_ ?_<;>intro hc<;>push_cast at hc|omega|intro _))
 all_goals (simp only[domL, *];rfl)
theorem z1h(l:List Span)(d:Int)(hl:l.length<=10000000000):PC Tryz.prog 172 [Bn l,.int .i64 d] (Bn (Fz l d)):=by
 have hN:=JM l hl;have hz:(d < -2147483648\/2147483648<d)->Fz l d=[]:=λh=>by rw[Fz,Ae h]
 refine BA UT ?_;unfold MZ;by_cases hb:d < -2147483648\/2147483648<d
 ·rw[hz hb]
  (with_reducible repeat'(first|simp (disch:=omega) only[push_cast,↓zz,seval]|apply Aa|refine sp_ ?_ ?_<;>intro hc<;>push_cast at hc|omega|intro _))
  all_goals first
   |(exfalso;omega)
   |((repeat'(first|(simp(disch:=omega)only[push_cast,↓zz,seval,Dq])|omega|(with_reducible refine Aa ?_ ?_)));done)
 have hbd:=ED l;have hmv:Fz l d=Bq ((Bq l).map (F3 d)):=by rw[Fz,Ac hb]
 have hnl:(Bq l).length<=10000000000:=Bb (EY l) hl;have hM:=JM ((Bq l).map (F3 d)) (by simpa using hnl);rw[hmv];generalize Bq l=m at *;obtain⟨g,g0,gs,ge,gl⟩:=z71 ([]:List Span) m (F3 d);(with_reducible repeat'(first|simp (disch:=omega) only[push_cast,↓zz,seval]|apply Aa|refine sp_ ?_ ?_<;>intro hc<;>push_cast at hc|refine ee hN ?_|(refine cc hN ?_;(simp(disch:=omega)only[push_cast,↓zz,seval]);(fail_if_success change False))|omega|intro _));refine AQ (AX (λ(k:Nat)=>k<=m.length) (λk=>m.length-k) (λk=>[(1,.int .i64 d),(5,Bn m),(6,.ref 0 1 0 (g k).length),(7,.int .i64 k)]) (λk=>[⟨2,1,false,(g k).map C8⟩]) (λenv _=>[Cf 2 (env 6)]) 0 (by simp) ?_ ?_)
 ·(with_reducible repeat'(first|simp (disch:=omega) only[push_cast,↓zz,seval,g0]|apply Aa|refine sp_ ?_ ?_<;>intro hc<;>push_cast at hc|omega|intro _))
 intro k hk;have gk:=gl k;simp only[List.length_nil] at gk;have hgp:=Dn (g k);have hpm:=Dn m;rcases Ah k m.length with hkm|hkm
 ·have hx:=hbd _ (AL hkm)
  have e1:=gs k hkm;generalize hxe:nth m k=x at *;have w1:IntKind.i64.wrap (x.lo+d)=x.lo+d:=IntWalk.i64_in _ (by omega);have w2:IntKind.i64.wrap (x.hi+d)=x.hi+d:=IntWalk.i64_in _ (by omega);refine W_T ?_;(with_reducible repeat'(first|simp (disch:=omega) only[push_cast,↓zz,seval,hpm,hxe,w1,w2]|apply Aa|refine sp_ ?_ ?_<;>intro hc<;>push_cast at hc|omega|intro _))
  all_goals
   refine⟨k+1,?_⟩;(with_reducible repeat'(first|simp (disch:=omega) only[push_cast,↓zz,seval,e1,F3]|apply Aa|refine sp_ ?_ ?_<;>intro hc<;>push_cast at hc|omega|intro _))
 ·obtain rfl:k=m.length:=by omega
  have hge:g m.length=m.map (F3 d):=by rw[ge];simp
  rw[hge] at *;have et:List.take m.length (m.map (F3 d))=m.map (F3 d):=Al (by simp);refine W_T ?_;(with_reducible repeat'(first|simp (disch:=omega) only[push_cast,↓zz,seval,hpm,hgp,et]|apply Aa|refine sp_ ?_ ?_<;>intro hc<;>push_cast at hc|refine ee hM ?_|(refine cc hM ?_;(simp(disch:=omega)only[push_cast,↓zz,seval,hpm,hgp,et]);(fail_if_success change False))|omega|intro _))
def inG(g:List Span)(k:Nat):List Int:=((List.range k).filter λ(x:Nat)=>hasI g (x:Int)).map λ(x:Nat)=>(x:Int)
theorem Ze(g:List Span)(k:Nat):inG g (k+1)=if hasI g (k:Int) then inG g k++[(k:Int)] else inG g k:=by
 rw[inG,D1,Cg,Az];split
 ·rename_i h;simp[inG,h]
 ·rename_i h;simp[inG,h]
theorem zk3(g:List Span)(k:Nat):(inG g k).length<=k:=by
 have:=Bz (λ(x:Nat)=>hasI g (x:Int)) (List.range k);simpa [inG] using this
theorem z73{g:List Span}{k:Nat}{v:Int}:v∈inG g k↔(0<=v/\v<k)/\hasI g v=true:=by
 simp only[inG,Ar,AW,Bf];constructor
 ·rintro⟨t,⟨h1,h2⟩,rfl⟩
  exact⟨by omega,h2⟩
 ·rintro⟨h1,h2⟩
  exact⟨v.toNat,⟨by omega,by rw[show ((v.toNat:Nat):Int)=v by omega];exact h2⟩,by omega⟩
def ownL(ps:List Part)(a:Int)(g:List Span)(k:Nat):List Int:=((inG g k).map (totV (atL ps a))).foldl putI []
def Ka(ps:List Part)(a:Int)(g:List Span)(k:Nat):Bool:=decide (inG g k≠[])&&decide (atL ps a≠[])
def topI(i:Int):Nat:=if i=1 then 256 else 0
def nowR(t:Term)(i:Int):List (List Span)->Nat->List Int->Option (List Int)
 |[],_,now=>some now
 |g::gs,k,now=>if Ka t.parts k g (topI i) then (Pp now (ownL t.parts k g (topI i))).bind (nowR t i gs (k+1)) else nowR t i gs (k+1) now
def FP(t:Term)(i:Int)(gs:List (List Span)):List Span × Bool :=
 if i=2/\t.parts.length=1 then
  (Fz (Bq (nth gs (nth t.parts 0).at_.toNat)) t.sum,decide (0<=(nth (Fz (Bq (nth gs (nth t.parts 0).at_.toNat)) t.sum) 0).lo)&&decide ((nth (Fz (Bq (nth gs (nth t.parts 0).at_.toNat)) t.sum) ((Fz (Bq (nth gs (nth t.parts 0).at_.toNat)) t.sum).length-1)).hi<=1114111))
 else match nowR t i gs 0 [t.sum] with
  |none=>([],false)
  |some now=>(Km now,decide (0<=nth now 0)&&decide (nth now (now.length-1)<=1114111))
structure GOk(i:Int)(gs:List (List Span)):Prop where
 len:gs.length<=4
 short:∀g∈gs,g.length<=64
 some:∀g∈gs,∃v,memL g v
 dom:∀g∈gs,∀v,memL g v->Ga i v=true
theorem zda{ps:List Part}{a:Int}{k:Nat}(h:k<ps.length):atL (ps.take (k+1)) a=if (nth ps k).at_=a then atL (ps.take k) a++[nth ps k] else atL (ps.take k) a:=by
 rw[take_at h,atL,atL,Cg];split
 ·rename_i h;simp[h]
 ·rename_i h;simp[h]
theorem Rj:∀{l:List Int}{a b:Int},C1 l->(∀x∈l,a<=x/\x<=b)->a<=b+1->(l.length:Int)<=b-a+1
 |[],a,b,_,_,h=>by simp;omega
 |x::l,a,b,hr,hm,h=>by
  obtain⟨r1,r2⟩:=A9.1 hr;have hx:=hm x (by simp);have:=Rj (a:=x+1) (b:=b) r2 (λy hy=>by have:=r1 y hy;have:=hm y (by simp[hy]);omega) (by omega)
  push_cast [List.length_cons]
  omega
structure Xj(now:List Int):Prop where
 ris:C1 now
 bd:∀x∈now,-1114111<=x/\x<=1114111
 pos:0<now.length
theorem Xj.len{now:List Int}(h:Xj now):now.length<=2228223:=by
 have:=Rj h.ris h.bd (by omega);omega
theorem z74{a b m:List Int}(ha:Xj a)(hb:∀x∈b,0<=x)(hp:0<b.length)(h:Pp a b=some m):Xj m/\∀v,v∈m↔∃x∈a,∃y∈b,x+y=v:=by
 rw[Pp] at h;split at h
 ·cases h
 ·rename_i hn
  injection h with h
  subst h;obtain⟨f1,f2,f3⟩:=JR (prs a b) [] (by simp[C1]);have hmem:∀v,v∈(prs a b).foldl putI []↔∃x∈a,∃y∈b,x+y=v:=λv=>by rw[f3,<-Pq];simp
  refine⟨⟨f1,λv hv=>?_,?_⟩,hmem⟩
  ·obtain⟨x,hx,y,hy,rfl⟩:=(hmem v).1 hv
   have h1:=ha.bd x hx;have h2:=hb y hy;have h3:¬1114111<x+y:=λh=>hn (B8.2 ⟨x+y,Pq.2 ⟨x,hx,y,hy,rfl⟩,by simpa [bigB] using h⟩);omega
  ·refine Ca.2 λh0=>?_
   have h1:=(hmem (nth a 0+nth b 0)).2 ⟨_,AL ha.pos,_,AL hp,rfl⟩;rw[h0] at h1;cases h1
theorem z75{ps:List Part}{a:Int}{g:List Span}{k:Nat}(hk:k<=256)(hl:ps.length<=4)(hb:∀p∈ps,EK p=true):
 C1 (ownL ps a g k)/\(ownL ps a g k).length<=256/\(∀v,v∈ownL ps a g k↔∃x∈inG g k,totV (atL ps a) x=v)/\∀v∈ownL ps a g k,0<=v/\v<=264241152:=by
 obtain⟨f1,f2,f3⟩:=JR ((inG g k).map (totV (atL ps a))) [] (by simp[C1]);have hlen:=zk3 g k;simp only[List.length_nil,Bh] at f2;have hmem:∀v,v∈ownL ps a g k↔∃x∈inG g k,totV (atL ps a) x=v:=λv=>by rw[ownL,f3];simp
 refine⟨f1,by rw[ownL];omega,hmem,λv hv=>?_⟩;obtain⟨x,hx,rfl⟩:=(hmem v).1 hv;have hx2:=(z73.1 hx).1;have hal:(atL ps a).length<=4:=Bb (Bz _ _) hl;have:=Ju (x:=x) (by omega) (l:=atL ps a) (λp hp=>hb p (AW.1 hp).1);have h2:((atL ps a).length:Int) * 66060288<=4 * 66060288:=B7 (by omega) (by omega);omega
theorem z78{ps:List Part}{a:Int}{g:List Span}{k:Nat}(hs:Ka ps a g k=true):0<(ownL ps a g k).length:=by
 simp only[Ka,Ab,Ad] at hs;obtain⟨f1,f2,f3⟩:=JR ((inG g k).map (totV (atL ps a))) [] (by simp[C1]);obtain⟨x,hx⟩:=List.exists_mem_of_ne_nil _ hs.1;exact Dt ((f3 _).2 (.inr (List.mem_map_of_mem hx)))
theorem zdb{ps:List Part}{a:Int}{g:List Span}{k:Nat}:ownL ps a g (k+1)=if hasI g (k:Int) then putI (ownL ps a g k) (totV (atL ps a) k) else ownL ps a g k:=by
 rw[ownL,Ze];split
 ·rw[Az,Co];rfl
 ·rfl
theorem z79{ps:List Part}{a:Int}{g:List Span}{k:Nat}:Ka ps a g (k+1)=if hasI g (k:Int) then decide (atL ps a≠[]) else Ka ps a g k:=by
 rw[Ka,Ze];split
 ·simp
 ·rfl
set_option maxRecDepth 100000
theorem Xk(t:Term)(i o:Int)(gs:List (List Span))(hr:FY t i o gs.length=true)(hG:GOk i gs):
 PC Tryz.prog 151 [F5 t,.int .i64 i,Cv gs] (.tup [Bn (FP t i gs).1,.bool (FP t i gs).2]):=by
 have hP:=Bs gs;obtain⟨hn,hp⟩:=Gl hr;have hnum:=hn;simp only[CQ,Ab,Ad] at hnum;have hl4:=hnum.2.2;have hsm:=GK hnum.1.1.2;have hrp:∀p∈t.parts,EC p gs.length=true:=λp h=>AJ.1 hp p h;have hbp:∀p∈t.parts,EK p=true:=λp h=>by have:=hrp p h;simp only[EC,Ab] at this;exact this.2
 have hgl:=hG.len;refine BA Sv ?_;unfold Lz;by_cases hone:i=2/\t.parts.length=1
 ·have hpp:=hrp _ (AL (l:=t.parts) (i:=0) (by omega))
  have hpa:=HB hpp;have hI:FP t i gs=_:=Ae hone;generalize hpe:nth t.parts 0=p at *;obtain⟨a,ha⟩:∃a:Nat,p.at_=a:=⟨p.at_.toNat,by omega⟩;have hag:a<gs.length:=by omega
  rw[ha,Int.toNat_natCast] at hI;have hgm:=AL hag;have hN:=JM (nth gs a) (by have:=hG.short _ hgm;omega);have hM:=z1h (Bq (nth gs a)) t.sum (by have:=hG.short _ hgm;have:=EY (nth gs a);omega)
  have hpos:0<(Fz (Bq (nth gs a)) t.sum).length:=by
   obtain⟨v,hv⟩:=hG.some _ hgm;have hv2:=N6 (hG.dom _ hgm v hv);have h1:memL (Bq (nth gs a)) v:=((Bo (nth gs a)).2 v).2 ⟨hv,by omega⟩;have h2:memL (Fz (Bq (nth gs a)) t.sum) (v+t.sum):=(SZ (by omega)).2 ⟨⟨by rw[show v+t.sum-t.sum=v by omega];exact h1,by omega⟩,by omega⟩;exact Ca.2 (KF h2)
  have hle:(Fz (Bq (nth gs a)) t.sum).length<=2147483649:=by
   rw[Fz,Ac (by omega)];exact IG _
  rw[hI];generalize Fz (Bq (nth gs a)) t.sum=l at *;obtain⟨m,hm⟩:∃m,l.length=m+1:=⟨l.length-1,by omega⟩;have hw:IntKind.i64.wrap (m:Int)=m:=IntWalk.i64_in _ (by omega);obtain⟨h2,h1⟩:=hone;subst h2;clear hI;rw[hm,Nat.add_sub_cancel];(with_reducible repeat'(first|simp (disch:=omega) only[push_cast,↓zz,seval,hP,hpe,ha,h1,hm,hw]|apply Aa|refine sp_ ?_ ?_<;>intro hc<;>push_cast at hc|refine ee hN ?_|refine ee hM ?_|((first|refine cc hN ?_|refine cc hM ?_);(simp(disch:=omega)only[push_cast,↓zz,seval,hP,hpe,ha,h1,hm,hw]);(fail_if_success change False))|omega|intro _))
  all_goals first
   |(rw[A7 (p:=0<=(nth l 0).lo) (by assumption),AF];(repeat'(first|(simp(disch:=omega)only[push_cast,↓zz,seval,Dq])|omega|(with_reducible refine Aa ?_ ?_)));done)
   |(rw[AM (p:=0<=(nth l 0).lo) (by assumption),AI];(repeat'(first|(simp(disch:=omega)only[push_cast,↓zz,seval,Dq])|omega|(with_reducible refine Aa ?_ ?_)));done)
   |trace_state
 have hI:FP t i gs=match nowR t i gs 0 [t.sum] with
  |none=>([],false)
  |some now=>(Km now,decide (0<=nth now 0)&&decide (nth now (now.length-1)<=1114111)):=Ac hone
 have hst:Xj [t.sum]:=⟨by simp[C1],by simp;omega,by simp⟩;(with_reducible repeat'(first|simp (disch:=omega) only[push_cast,↓zz,seval,hP]|apply Aa|refine sp_ ?_ ?_<;>intro hc<;>push_cast at hc|omega|intro _))
 all_goals first
  |(exfalso;omega)
  |skip
 all_goals
  refine AQ (AX (λ(s:Nat × List Int)=>s.1<=gs.length/\Xj s.2/\nowR t i gs 0 [t.sum]=nowR t i (gs.drop s.1) s.1 s.2) (λs=>gs.length-s.1)
   (λs=>[(1,.int .i64 i),(2,Cv gs),(3,.ptr 0 1 0 0),(9,G3 s.2),(10,.int .i64 s.1)]) (λs=>[⟨6,1,true,[F5 t]⟩]) (λenv _=>[Cf 1 (env 3)]) (0,[t.sum]) ⟨by simp,hst,rfl⟩ ?_ ?_)
  ·(with_reducible repeat'(first|simp (disch:=omega) only[push_cast,↓zz,seval,hP]|apply Aa|refine sp_ ?_ ?_<;>intro hc<;>push_cast at hc|omega|intro _))
  rintro⟨k,now⟩ ⟨k1,kn,k2⟩;simp only at k1 kn k2;have hnl:=kn.len;have pN:A6 (now.map (AV.int .i64))=true:=AE .i64 now;rcases Ah k gs.length with hk|hk
  ·rw[drop_at hk,nowR] at k2
   have hgs:=hG.short _ (AL hk);generalize hge:nth gs k=g at *;refine W_T ?_;(with_reducible repeat'(first|simp (disch:=omega) only[push_cast,↓zz,seval,hP,hge]|apply Aa|refine sp_ ?_ ?_<;>intro hc<;>push_cast at hc|omega|intro _))
   refine AQ (AX (λ(x:Nat)=>x<=topI i) (λx=>topI i-x)
    (λx=>[(1,.int .i64 i),(2,Cv gs),(3,.ptr 0 1 0 0),(9,G3 now),(10,.int .i64 k),(11,.ref 1 1 0 (ownL t.parts k g x).length),(12,.bool (Ka t.parts k g x)),(13,.int .i64 x)])
    (λx=>[⟨6,1,true,[F5 t]⟩,⟨1,1,false,(ownL t.parts k g x).map (AV.int .i64)⟩]) (λenv _=>[Cf 1 (env 3),Cf 1 (env 11)]) 0 (by simp) ?_ ?_)
   ·have e0:ownL t.parts k g 0=[]:=rfl
    have s0:Ka t.parts k g 0=false:=rfl;(with_reducible repeat'(first|simp (disch:=omega) only[push_cast,↓zz,seval,hP,pN,e0,s0]|apply Aa|refine sp_ ?_ ?_<;>intro hc<;>push_cast at hc|omega|intro _))
   intro x hx;rcases Ah x (topI i) with hxt|hxt
   ·have hi:i=1/\x<256:=by
     unfold topI at hxt;split at hxt
     ·exact⟨by assumption,hxt⟩
     ·omega
    have hie:(i=1)=True:=Cr hi.1;have hH:=LD g x (by omega);have hos:=zdb (ps:=t.parts) (a:=k) (g:=g) (k:=x);have hss:=z79 (ps:=t.parts) (a:=k) (g:=g) (k:=x);obtain⟨o1,o2,_,o4⟩:=z75 (a:=(k:Int)) (g:=g) (k:=x) (by omega) hl4 hbp;have hsa:Ka t.parts k g x=true->decide (atL t.parts k≠[])=true:=λh=>by rw[Ka,Ab] at h;exact h.2
    generalize ownL t.parts k g x=own at *;generalize Ka t.parts k g x=sm at *;cases hh:hasI g (x:Int) with
    |false =>
     rw[hh] at hH;rw[hh,Ac (by simp)] at hos hss;refine W_T ?_;(with_reducible repeat'(first|simp (disch:=omega) only[push_cast,↓zz,seval,hP,hge,hie]|apply Aa|refine sp_ ?_ ?_<;>intro hc<;>push_cast at hc|refine ee hH ?_|(refine cc hH ?_;(simp(disch:=omega)only[push_cast,↓zz,seval,hP,hge,hie]);(fail_if_success change False))|omega|intro _))
     all_goals
      refine⟨x+1,?_⟩;(with_reducible repeat'(first|simp (disch:=omega) only[push_cast,↓zz,seval,hos,hss]|apply Aa|refine sp_ ?_ ?_<;>intro hc<;>push_cast at hc|omega|intro _))
    |true =>
     rw[hh] at hH;rw[hh,Ae rfl] at hos hss;refine W_T ?_;(with_reducible repeat'(first|simp (disch:=omega) only[push_cast,↓zz,seval,hP,hge,hie]|apply Aa|refine sp_ ?_ ?_<;>intro hc<;>push_cast at hc|refine ee hH ?_|(refine cc hH ?_;(simp(disch:=omega)only[push_cast,↓zz,seval,hP,hge,hie]);(fail_if_success change False))|omega|intro _))
     all_goals
      refine AQ (AX (λ(j:Nat)=>j<=t.parts.length) (λj=>t.parts.length-j)
       (λj=>[(1,.int .i64 i),(2,Cv gs),(3,.ptr 0 1 0 0),(9,G3 now),(10,.int .i64 k),(11,.ref 1 1 0 own.length),(12,.bool (sm||decide (atL (t.parts.take j) k≠[]))),(13,.int .i64 x),(14,.int .i64 (totV (atL (t.parts.take j) k) x)),(15,.int .i64 j)])
       (λj=>[⟨6,1,true,[F5 t]⟩,⟨1,1,false,own.map (AV.int .i64)⟩]) (λenv _=>[Cf 1 (env 3),Cf 1 (env 11)]) 0 (by simp) ?_ ?_)
      ·have e0:atL [] (k:Int)=[]:=rfl
       (with_reducible repeat'(first|simp (disch:=omega) only[push_cast,↓zz,seval,hP,pN,e0,Ta,ne_eq,not_true_eq_false,Cl,Dz]|apply Aa|refine sp_ ?_ ?_<;>intro hc<;>push_cast at hc|omega|intro _))
      intro j hj;have hbj:=Ju (x:=(x:Int)) (by omega) (l:=atL (t.parts.take j) k) (λp hp=>hbp p (By (AW.1 hp).1));have hlj:(atL (t.parts.take j) k).length<=4:=Bb (Bz _ _) (by simp;omega);have hmj:((atL (t.parts.take j) k).length:Int) * 66060288<=4 * 66060288:=B7 (by omega) (by omega);rcases Ah j t.parts.length with hjp|hjp
      ·have hat:=zda (a:=(k:Int)) hjp
       have hpb:=hbp _ (AL hjp);have hV:=Ht (nth t.parts j) x;have hvs:=Gn hpb (x:=(x:Int)) (by omega);rw[WK hpb (by omega)] at hV;have hpp:=GF t.parts;generalize hpe:nth t.parts j=p at *;generalize atL (t.parts.take j) k=A at *;have hT:=Vt A p x;have hw:IntKind.i64.wrap (totV A x+valP p x)=totV A x+valP p x:=IntWalk.i64_in _ (by omega);by_cases ha:p.at_=k
       ·rw[Ae ha] at hat
        have hne:decide (¬(A++[p]=[]))=true:=by simp
        refine W_T ?_;(with_reducible repeat'(first|simp (disch:=omega) only[push_cast,↓zz,seval,hP,hpp,hpe,ha,hw]|apply Aa|refine sp_ ?_ ?_<;>intro hc<;>push_cast at hc|refine ee hV ?_|(refine cc hV ?_;(simp(disch:=omega)only[push_cast,↓zz,seval,hP,hpp,hpe,ha,hw]);(fail_if_success change False))|omega|intro _))
        all_goals
         refine⟨j+1,?_⟩;(with_reducible repeat'(first|simp (disch:=omega) only[push_cast,↓zz,seval,hat,hT,hne,Bool.or_true]|apply Aa|refine sp_ ?_ ?_<;>intro hc<;>push_cast at hc|omega|intro _))
       ·rw[Ac ha] at hat
        refine W_T ?_;(with_reducible repeat'(first|simp (disch:=omega) only[push_cast,↓zz,seval,hP,hpp,hpe]|apply Aa|refine sp_ ?_ ?_<;>intro hc<;>push_cast at hc|omega|intro _))
        all_goals
         refine⟨j+1,?_⟩;(with_reducible repeat'(first|simp (disch:=omega) only[push_cast,↓zz,seval,hat]|apply Aa|refine sp_ ?_ ?_<;>intro hc<;>push_cast at hc|omega|intro _))
      ·have hjt:t.parts.take j=t.parts:=Al hjp
       rw[hjt] at *
       have hsm2:(sm||decide (atL t.parts k≠[]))=Ka t.parts k g (x+1):=by
        rw[hss];cases sm with
        |false=>rfl
        |true=>rw[hsa rfl];rfl
       refine W_T ?_;(with_reducible repeat'(first|simp (disch:=omega) only[push_cast,↓zz,seval,hP]|apply Aa|refine sp_ ?_ ?_<;>intro hc<;>push_cast at hc|omega|intro _))
       (refine GU [1] (Vz 1 own (totV (atL t.parts k) x) o1 (by omega)) (by decide) (by simp) (by (simp(disch:=omega)only[push_cast,↓zz,seval])) (by (simp(disch:=omega)only[push_cast,↓zz,seval])) (by (simp(disch:=omega)only[push_cast,↓zz,seval])) (by (simp(disch:=omega)only[push_cast,↓zz,seval,Ai,As,AH,BD,Cy,BH])) ?_)
       rintro y' H' ⟨v',rfl,rfl⟩;refine⟨_,rfl,by simp,?_⟩;(with_reducible repeat'(first|simp (disch:=omega) only[push_cast,↓zz,seval]|apply Aa|refine sp_ ?_ ?_<;>intro hc<;>push_cast at hc|omega|intro _));refine⟨x+1,?_⟩;(with_reducible repeat'(first|simp (disch:=omega) only[push_cast,↓zz,seval,hos,hss,hsm2]|apply Aa|refine sp_ ?_ ?_<;>intro hc<;>push_cast at hc|omega|intro _))
   ·have hxe:x=topI i:=by omega
    subst hxe
    have ht:((i=1)=True/\((topI i:Int)<256)=False)\/((i=1)=False/\((topI i:Int)<256)=True):=by
     unfold topI;split
     ·exact .inl ⟨Cr (by assumption),by simp⟩
     ·exact .inr ⟨eq_false (by assumption),by simp⟩
    obtain⟨o1,o2,_,o4⟩:=z75 (a:=(k:Int)) (g:=g) (k:=topI i) (by unfold topI;split<;>omega) hl4 hbp;have op:=z78 (ps:=t.parts) (a:=k) (g:=g) (k:=topI i);generalize ownL t.parts k g (topI i)=own at *;generalize Ka t.parts k g (topI i)=sm at *;generalize topI i=n at *;have hS:=z1g now own (by omega) (by omega) (λx hx=>by have:=kn.bd x hx;omega) (λx hx=>by have:=o4 x hx;omega);have pO:A6 (own.map (AV.int .i64))=true:=AE .i64 own;have eO:List.take own.length (own.map (AV.int .i64))=own.map (AV.int .i64):=Al (by simp);refine W_T ?_;cases sm with
    |false =>
     rw[Ac (by simp)] at k2;rcases ht with⟨hi,hn2⟩|⟨hi,hn2⟩
     all_goals
      (with_reducible repeat'(first|simp (disch:=omega) only[push_cast,↓zz,seval,hP,hge,hi,hn2]|apply Aa|refine sp_ ?_ ?_<;>intro hc<;>push_cast at hc|omega|intro _))
     all_goals
      refine⟨(k+1,now),⟨rfl,by push_cast⟩,⟨by simp only;omega,kn,k2⟩,by simp only;omega⟩
    |true =>
     rw[Ae rfl] at k2;have hop:=op rfl;cases hv:Pp now own with
     |none =>
      rw[hv] at hS k2;rw[hI,k2];rcases ht with⟨hi,hn2⟩|⟨hi,hn2⟩
      all_goals
       (with_reducible repeat'(first|simp (disch:=omega) only[push_cast,↓zz,seval,hP,hge,hi,hn2,pN,pO,eO,Option.bind_none]|apply Aa|refine sp_ ?_ ?_<;>intro hc<;>push_cast at hc|refine ee hS ?_|(refine cc hS ?_;(simp(disch:=omega)only[push_cast,↓zz,seval,hP,hge,hi,hn2,pN,pO,eO,Option.bind_none]);(fail_if_success change False))|omega|intro _))
      all_goals (repeat'(first|(simp(disch:=omega)only[push_cast,↓zz,seval,Dq])|omega|(with_reducible refine Aa ?_ ?_)))
     |some m =>
      rw[hv,Option.bind_some] at k2;rw[hv] at hS;obtain⟨m1,_⟩:=z74 kn (λy hy=>(o4 y hy).1) hop hv;have pM:A6 (m.map (AV.int .i64))=true:=AE .i64 m;simp only[optL,Option.getD_some,Option.isSome_some] at hS;rcases ht with⟨hi,hn2⟩|⟨hi,hn2⟩
      all_goals
       (with_reducible repeat'(first|simp (disch:=omega) only[push_cast,↓zz,seval,hP,hge,hi,hn2,pN,pO,eO,pM]|apply Aa|refine sp_ ?_ ?_<;>intro hc<;>push_cast at hc|refine ee hS ?_|(refine cc hS ?_;(simp(disch:=omega)only[push_cast,↓zz,seval,hP,hge,hi,hn2,pN,pO,eO,pM]);(fail_if_success change False))|omega|intro _))
      all_goals
       refine⟨(k+1,m),⟨rfl,by push_cast⟩,⟨by simp only;omega,m1,k2⟩,by simp only;omega⟩
  ·rw[Aj hk,nowR] at k2
   rw[hI,k2];have hS:=Xh now (by omega) (λx hx=>by have:=kn.bd x hx;omega);obtain⟨m,hm⟩:∃m,now.length=m+1:=⟨now.length-1,by have:=kn.pos;omega⟩;have hw:IntKind.i64.wrap (m:Int)=m:=IntWalk.i64_in _ (by omega);simp only;rw[hm,Nat.add_sub_cancel];refine W_T ?_;(with_reducible repeat'(first|simp (disch:=omega) only[push_cast,↓zz,seval,hP,pN,hm,hw]|apply Aa|refine sp_ ?_ ?_<;>intro hc<;>push_cast at hc|refine ee hS ?_|(refine cc hS ?_;(simp(disch:=omega)only[push_cast,↓zz,seval,hP,pN,hm,hw]);(fail_if_success change False))|omega|intro _))
   all_goals first
    |(rw[A7 (p:=0<=nth now 0) (by assumption),AF];(repeat'(first|(simp(disch:=omega)only[push_cast,↓zz,seval,Dq])|omega|(with_reducible refine Aa ?_ ?_)));done)
    |(rw[AM (p:=0<=nth now 0) (by assumption),AI];(repeat'(first|(simp(disch:=omega)only[push_cast,↓zz,seval,Dq])|omega|(with_reducible refine Aa ?_ ?_)));done)
    |trace_state
theorem V0{l:List Int}(h:C1 l){i j:Nat}(hij:i<=j)(hj:j<l.length):nth l i<=nth l j:=by
 rcases Ah i j with hlt|hge
 ·have:=BW.1 h i j (by omega) hj hlt
  simp only[nth,Ap,Ak hj,Ak (show i<l.length by omega),Option.getD_some];omega
 ·rw[show i=j by omega];exact Bg _
theorem zfn{α:Type}[Inhabited α]{l:List α}{x:α}(h:x∈l):∃i,i<l.length/\nth l i=x:=by
 obtain⟨i,hi,rfl⟩:=Bm h;exact⟨i,hi,by simp[nth,hi]⟩
theorem z1i{l:List Int}(h:C1 l)(hp:0<l.length){m M:Int}:(m<=nth l 0/\nth l (l.length-1)<=M)↔∀v∈l,m<=v/\v<=M:=by
 constructor
 ·rintro⟨h1,h2⟩ v hv
  obtain⟨i,hi,rfl⟩:=zfn hv;have a1:=V0 h (Aw i) hi;have a2:=V0 h (show i<=l.length-1 by omega) (by omega);omega
 ·intro ha
  have a1:=ha _ (AL hp);have a2:=ha _ (AL (show l.length-1<l.length by omega));exact⟨a1.1,a2.2⟩
theorem Zf{l:List Span}(h:Plain l){i j:Nat}(hij:i<=j)(hj:j<l.length):(nth l i).lo<=(nth l j).lo/\(nth l i).hi<=(nth l j).hi:=by
 rcases Ah i j with hlt|hge
 ·have h1:=BW.1 h.2 i j (by omega) hj hlt
  have h2:=h.1 _ (AL hj);have h3:=h.1 _ (AL (show i<l.length by omega));simp only[nth,Ap,Ak hj,Ak (show i<l.length by omega),Option.getD_some] at h2 h3 ⊢;omega
 ·rw[show i=j by omega];exact⟨Bg _,Bg _⟩
theorem z7a{l:List Span}(h:Plain l)(hp:0<l.length){m M:Int}:(m<=(nth l 0).lo/\(nth l (l.length-1)).hi<=M)↔∀v,memL l v->m<=v/\v<=M:=by
 constructor
 ·rintro⟨h1,h2⟩ v ⟨s,hs,hv⟩
  obtain⟨i,hi,rfl⟩:=zfn hs;have a1:=Zf h (Aw i) hi;have a2:=Zf h (show i<=l.length-1 by omega) (by omega);omega
 ·intro ha
  have l1:=h.1 _ (AL hp);have l2:=h.1 _ (AL (show l.length-1<l.length by omega));have a1:=ha (nth l 0).lo ⟨_,AL hp,Bg _,l1⟩;have a2:=ha (nth l (l.length-1)).hi ⟨_,AL (by omega),l2,Bg _⟩;exact⟨a1.1,a2.2⟩
theorem Rk:∀(l:List Int)(out:List Span),C1 l->Plain out->(∀x∈l,WS out x)->Plain (l.foldl HD out)/\∀v,memL (l.foldl HD out) v↔memL out v\/v∈l
 |[],out,_,h,_=>⟨h,λv=>by simp⟩
 |x::l,out,hr,h,ha=>by
  obtain⟨r1,r2⟩:=A9.1 hr;obtain⟨p1,p2,p3⟩:=QT h (x:=⟨x,x⟩) (Bg _) (ha x (by simp));obtain⟨i1,i2⟩:=Rk l (HD out x) r2 p1 λy hy=>QU p2 (by have:=r1 y hy;simp only;omega);refine⟨i1,λv=>?_⟩;rw[List.foldl_cons,i2,Ai];have:=p3 v;simp only at this;rw[HD,this];constructor
  ·rintro ((h|h)|h)
   ·exact .inl h
   ·exact .inr (.inl (by omega))
   ·exact .inr (.inr h)
  ·rintro (h|rfl|h)
   ·exact .inl (.inl h)
   ·exact .inl (.inr ⟨Bg _,Bg _⟩)
   ·exact .inr h
theorem Xl{l:List Int}(h:C1 l):Plain (Km l)/\∀v,memL (Km l) v↔v∈l:=by
 obtain⟨h1,h2⟩:=Rk l [] h ⟨by simp,by simp⟩ (λx _ s hs=>by cases hs);exact⟨h1,λv=>by rw[Km,h2];simp[memL]⟩
def begW(l:List Part)(k:Nat)(w:List Int):Int:=Mz l ((List.range k).map λ(a:Nat)=>(a:Int)) w
theorem Iw(l:List Part)(k:Nat)(w:List Int):begW l (k+1) w=begW l k w+totV (atL l k) (nth w k):=by
 simp[begW,Mz,D1,Az,List.sum_append]
theorem z7b(l:List Part)(w:List Int):begW l 0 w=0:=rfl
theorem Zg{l:List Part}{n:Nat}{w:List Int}(h:∀p∈l,0<=p.at_/\p.at_<n):begW l n w=totW w l:=by
 refine JQ w l _ ?_ λp hp=>?_
 ·exact DG.2 (Dk.imp λh e=>h (by omega))
 ·have:=h p hp
  exact Ar.2 ⟨p.at_.toNat,by simp;omega,by omega⟩
theorem Zh{l:List Part}{w:List Int}{k:Nat}{x:Int}(hk:k<w.length):∀{j:Nat},j<=k->begW l j (w.set k x)=begW l j w
 |0,_=>rfl
 |j+1,h=>by
  rw[Iw,Iw,Zh hk (j:=j) (by omega),M0 hk,Ac (by omega)]
theorem zk4{l:List Part}{x:Int}(hx:0<=x/\x<=2097151)(hb:∀p∈l,EK p=true)(a:Int):0<=totV (atL l a) x:=(Ju hx (l:=atL l a) λp hp=>hb p (AW.1 hp).1).1
theorem V1{l:List Part}{w:List Int}{k n:Nat}(hb:∀p∈l,EK p=true)(hw:∀a,a<n->0<=nth w a/\nth w a<=1114111):∀d,k+d<=n->begW l k w<=begW l (k+d) w
 |0,_=>Bg _
 |d+1,h=>by
  have h1:=V1 hb hw d (k:=k) (by omega);have h2:=hw (k+d) (by omega);have h3:=zk4 (x:=nth w (k+d)) (by omega) hb ((k+d:Nat):Int);have h4:begW l (k+(d+1)) w=begW l (k+d) w+totV (atL l ((k+d:Nat):Int)) (nth w (k+d)):=Iw l (k+d) w;omega
theorem LL{g:List Span}{v:Int}{i:Int}(hd:∀v,memL g v->Ga i v=true):memL (symI g) v↔memL g v:=by
 rw[(Jt g).2 v];constructor
 ·exact λh=>h.2
 ·exact λh=>⟨N6 (hd v h),h⟩
structure TOk(t:Term)(i:Int)(gs:List (List Span)):Prop where
 parts:∀p∈t.parts,EC p gs.length=true
 four:t.parts.length<=4
 sm:-1114111<=t.sum/\t.sum<=1114111
 sort:i=1\/(i=2/\t.parts.length<=1/\∀p∈t.parts,GX p=true)
theorem TOk.bits{t:Term}{i:Int}{gs:List (List Span)}(h:TOk t i gs):∀p∈t.parts,EK p=true:=λp hp=>by
 have:=h.parts p hp;simp only[EC,Ab] at this;exact this.2
theorem TOk.at{t:Term}{i:Int}{gs:List (List Span)}(h:TOk t i gs):∀p∈t.parts,0<=p.at_/\p.at_<gs.length:=λp hp=>HB (h.parts p hp)
theorem zfo{t:Term}{i o:Int}{gs:List (List Span)}(hr:FY t i o gs.length=true):TOk t i gs:=by
 obtain⟨hn,hp⟩:=Gl hr;simp only[CQ,Ab,Ad] at hn;refine⟨λp h=>AJ.1 hp p h,hn.2.2,GK hn.1.1.2,?_⟩;simp only[FY,Ey,Vb,Ab,CV,Ad,AJ] at hr;obtain⟨⟨⟨⟨⟨h1,_⟩,_⟩,h2⟩,h3⟩,_⟩:=hr;rcases h1 with h1|h1
 ·exact .inl h1
 ·refine .inr ⟨h1,?_,λp hp=>?_⟩
  ·rcases h3 with h3|h3
   ·exact absurd h1 h3
   ·exact h3
  ·rcases (h2 p hp).2 with h|h
   ·exact absurd h1 h
   ·exact h
def PS(t:Term)(gs:List (List Span))(k:Nat)(now:List Int):Prop:=Xj now/\∀v,v∈now↔∃w,Win (gs.map symI) w/\t.sum+begW t.parts k w=v
theorem z7c{gs:List (List Span)}{w:List Int}(h:Win (gs.map symI) w):w.length=gs.length:=by have:=h.1;simpa using this
theorem z7d{gs:List (List Span)}{w:List Int}{k:Nat}(h:Win (gs.map symI) w)(hk:k<gs.length):memL (symI (nth gs k)) (nth w k):=by
 have:=h.2 k (by simpa using hk);have e:nth (gs.map symI) k=symI (nth gs k):=by simp[nth,hk]
 rwa [e] at this
theorem z7e{gs:List (List Span)}{w:List Int}(h:Win (gs.map symI) w){k:Nat}(hk:k<gs.length):0<=nth w k/\nth w k<=1114111:=(((Jt _).2 _).1 (z7d h hk)).1
theorem z7f{gs:List (List Span)}{w:List Int}{k:Nat}{x:Int}(h:Win (gs.map symI) w)(hk:k<gs.length)(hx:memL (symI (nth gs k)) x):Win (gs.map symI) (w.set k x) :=
 z6x h (by simpa using hk) (by have e:nth (gs.map symI) k=symI (nth gs k):=(by simp[nth,hk]);rwa [e])
theorem zof{i:Int}{gs:List (List Span)}(hG:GOk i gs):∃w,Win (gs.map symI) w:=by
 refine YY.1 (AJ.2 λg hg=>?_);rw[A3] at hg;obtain⟨v,hv⟩:=hG.some g hg;have h1:=(LL (hG.dom g hg)).2 hv;have:=Ca.2 (KF h1);rw[Ad];omega
theorem Pr{t:Term}{i:Int}{gs:List (List Span)}(hT:TOk t i gs)(hG:GOk i gs)(h1:¬(i=2/\t.parts.length=1)):∀(rest:List (List Span))(k:Nat)(now:List Int),gs.drop k=rest->k<=gs.length->PS t gs k now ->
 (match nowR t i rest k now with
 |none=>∃w,Win (gs.map symI) w/\1114111<t.sum+totW w t.parts
 |some m=>PS t gs gs.length m)
 |[],k,now,hd,hk,hp=>by
  have:k=gs.length:=by
   have:=DJ List.length hd;simp at this;omega
  subst this;exact hp
 |g::rest,k,now,hd,hk,hp=>by
  have hkl:k<gs.length:=by
   rcases Ah k gs.length with h|h
   ·exact h
   ·rw[Aj h] at hd;cases hd
  rw[drop_at hkl] at hd;injection hd with hg hd
  subst hg;have hgm:=AL hkl
  have hin:i=1->∀x,x∈inG (nth gs k) 256↔memL (symI (nth gs k)) x:=λhi x=>by
   rw[z73,LL (hG.dom _ hgm)];constructor
   ·rintro⟨hx,hh⟩
    exact (z6z (by omega)).1 hh
   ·intro hm
    have hb:=hG.dom _ hgm x hm;rw[hi] at hb;simp only[Ga,Ad] at hb;exact⟨by omega,(z6z (by omega)).2 hm⟩
  rw[nowR];cases hs:Ka t.parts k (nth gs k) (topI i) with
  |false =>
   rw[Ac (by simp)]
   have hnil:atL t.parts k=[]:=by
    rcases hT.sort with hi|⟨hi,hl,_⟩
    ·rw[hi] at hs
     simp only[Ka,Bool.and_eq_false_iff,B3,Decidable.not_not] at hs;rcases hs with hs|hs
     ·exfalso
      obtain⟨v,hv⟩:=hG.some _ hgm;have:=(hin hi v).2 ((LL (hG.dom _ hgm)).2 hv);rw[show topI 1=256 from rfl] at hs;rw[hs] at this;cases this
     ·exact hs
    ·have:t.parts=[]:=Ay (by omega)
     rw[this];rfl
   refine Pr hT hG h1 rest (k+1) now hd (by omega) ⟨hp.1,λv=>?_⟩;rw[hp.2];have e:∀w,begW t.parts (k+1) w=begW t.parts k w:=λw=>by rw[Iw,hnil,Ta,E1]
   simp only[e]
  |true =>
   rw[Ae rfl]
   have hi:i=1:=by
    rcases hT.sort with hi|⟨hi,_,_⟩
    ·exact hi
    ·exfalso
     subst hi;simp[Ka,topI,inG] at hs
   have e256:topI i=256:=by rw[hi];rfl
   rw[e256] at hs ⊢;have hop:=z78 hs;obtain⟨o1,o2,o3,o4⟩:=z75 (a:=(k:Int)) (g:=nth gs k) (k:=256) (Af _) hT.four hT.bits
   have hstep:∀w,Win (gs.map symI) w->∀y,y∈ownL t.parts k (nth gs k) 256->∃w',Win (gs.map symI) w'/\begW t.parts (k+1) w'=begW t.parts k w+y:=λw hw y hy=>by
    obtain⟨x,hx,rfl⟩:=(o3 y).1 hy;refine⟨w.set k x,z7f hw hkl ((hin hi x).1 hx),?_⟩;have hlw:=z7c hw;rw[Iw,Zh (by omega) (Af k),M0 (by omega),Ae rfl]
   cases hv:Pp now (ownL t.parts k (nth gs k) 256) with
   |none =>
    simp only[Option.bind_none];rw[Pp] at hv;split at hv
    ·rename_i hb
     obtain⟨v,hv1,hv2⟩:=B8.1 hb;obtain⟨x,hx,y,hy,rfl⟩:=Pq.1 hv1;obtain⟨w,hw,rfl⟩:=(hp.2 x).1 hx;obtain⟨w',hw',e'⟩:=hstep w hw y hy;refine⟨w',hw',?_⟩;have hm:=V1 (k:=k+1) hT.bits (λa ha=>z7e hw' ha) (gs.length-(k+1)) (by omega);rw[show k+1+(gs.length-(k+1))=gs.length by omega,Zg hT.at] at hm;simp only[bigB,Ad] at hv2;omega
    ·cases hv
   |some m =>
    simp only[Option.bind_some];obtain⟨m1,m2⟩:=z74 hp.1 (λy hy=>(o4 y hy).1) hop hv;refine Pr hT hG h1 rest (k+1) m hd (by omega) ⟨m1,λv=>?_⟩;rw[m2];constructor
    ·rintro⟨x,hx,y,hy,rfl⟩
     obtain⟨w,hw,rfl⟩:=(hp.2 x).1 hx;obtain⟨w',hw',e'⟩:=hstep w hw y hy;exact⟨w',hw',by omega⟩
    ·rintro⟨w,hw,rfl⟩
     exact⟨_,(hp.2 _).2 ⟨w,hw,rfl⟩,_,(o3 _).2 ⟨nth w k,(hin hi _).2 (z7d hw hkl),rfl⟩,by rw[Iw];omega⟩
theorem Rl{t:Term}{i:Int}{gs:List (List Span)}(hT:TOk t i gs)(hG:GOk i gs):
 ((FP t i gs).2=true↔∀w,Win (gs.map symI) w->0<=t.sum+totW w t.parts/\t.sum+totW w t.parts<=1114111) /\
 ((FP t i gs).2=true->Plain (FP t i gs).1/\(FP t i gs).1.length<=2147483649/\∀v,memL (FP t i gs).1 v↔∃w,Win (gs.map symI) w/\t.sum+totW w t.parts=v):=by
 have hall:∀w,begW t.parts gs.length w=totW w t.parts:=λw=>Zg hT.at;obtain⟨w0,hw0⟩:=zof hG;have hsm:=hT.sm;by_cases h1:i=2/\t.parts.length=1
 ·obtain⟨p,hp⟩:∃p,t.parts=[p]:=List.length_eq_one_iff.1 h1.2
  have hpm:p∈t.parts:=by rw[hp];simp
  have hpa:=hT.at p hpm
  have hpw:GX p=true:=by
   rcases hT.sort with h|h
   ·omega
   ·exact h.2.2 p hpm
  obtain⟨a,ha⟩:∃a:Nat,p.at_=a:=⟨p.at_.toNat,by omega⟩;have hag:a<gs.length:=by omega
  have hgm:=AL hag
  have hI:FP t i gs=(Fz (Bq (nth gs a)) t.sum,decide (0<=(nth (Fz (Bq (nth gs a)) t.sum) 0).lo)&&decide ((nth (Fz (Bq (nth gs a)) t.sum) ((Fz (Bq (nth gs a)) t.sum).length-1)).hi<=1114111)):=by
   rw[FP,Ae h1,show (nth t.parts 0)=p by rw[hp];rfl,ha,Int.toNat_natCast]
  have htot:∀w,Win (gs.map symI) w->totW w t.parts=nth w a:=λw hw=>by
   have hx:=z7e hw hag;rw[hp];simp only[totW,Bj,Bt,List.sum_cons,List.sum_nil,E1,ha,Int.toNat_natCast];simp only[GX,Ad] at hpw;rw[valP,hpw.1,hpw.2.1,hpw.2.2];simp;omega
  have hmem:∀v,memL (Fz (Bq (nth gs a)) t.sum) v↔∃w,Win (gs.map symI) w/\t.sum+totW w t.parts=v:=λv=>by
   rw[SZ (by omega),(Bo (nth gs a)).2];constructor
   ·rintro⟨⟨⟨h,_⟩,_⟩,_⟩
    have hs:=(LL (hG.dom _ hgm)).2 h;have hw:=z7f hw0 hag hs;refine⟨_,hw,?_⟩;rw[htot _ hw,M0 (by rw[z7c hw0];exact hag),Ae rfl];omega
   ·rintro⟨w,hw,rfl⟩
    rw[htot w hw];have hx:=z7e hw hag;have hs:=(LL (hG.dom _ hgm)).1 (z7d hw hag);exact⟨⟨⟨by rw[show t.sum+nth w a-t.sum=nth w a by omega];exact hs,by omega⟩,by omega⟩,by omega⟩
  have hpl:Plain (Fz (Bq (nth gs a)) t.sum):=by
   rw[Fz,Ac (by omega)];exact (Bo _).1
  have hle:(Fz (Bq (nth gs a)) t.sum).length<=2147483649:=by
   rw[Fz,Ac (by omega)];exact IG _
  have hpos:0<(Fz (Bq (nth gs a)) t.sum).length:=Ca.2 (KF ((hmem _).2 ⟨w0,hw0,rfl⟩));rw[hI];generalize Fz (Bq (nth gs a)) t.sum=l at *;refine⟨?_,λ_=>⟨hpl,hle,hmem⟩⟩;simp only;rw[Ab,Ad,Ad,z7a hpl hpos];constructor
  ·exact λh w hw=>h _ ((hmem _).2 ⟨w,hw,rfl⟩)
  ·intro h v hv
   obtain⟨w,hw,rfl⟩:=(hmem v).1 hv;exact h w hw
 ·have hst:PS t gs 0 [t.sum]:=⟨⟨by simp[C1],by simp;omega,by simp⟩,λv=>by
   simp only[z7b,E1,Ao]
   exact⟨λh=>⟨w0,hw0,h.symm⟩,λ⟨_,_,h⟩=>h.symm⟩⟩
  have hN:=Pr hT hG h1 gs 0 [t.sum] rfl (by omega) hst
  have hI:FP t i gs=match nowR t i gs 0 [t.sum] with
   |none=>([],false)
   |some now=>(Km now,decide (0<=nth now 0)&&decide (nth now (now.length-1)<=1114111)):=Ac h1
  cases hv:nowR t i gs 0 [t.sum] with
  |none =>
   rw[hv] at hN hI;simp only at hN hI;rw[hI];obtain⟨w,hw,hb⟩:=hN;refine⟨⟨λh=>(by cases h),λh=>?_⟩,λh=>(by cases h)⟩;have:=h w hw;omega
  |some now =>
   rw[hv] at hN hI;simp only at hN hI;rw[hI];obtain⟨n1,n2⟩:=hN;obtain⟨s1,s2⟩:=Xl n1.ris;have hsl:=Ri now [];have hnl:=n1.len;simp only[List.length_nil] at hsl;refine⟨?_,λ_=>⟨s1,by simp only[Km];omega,λv=>?_⟩⟩
   ·simp only
    rw[Ab,Ad,Ad,z1i n1.ris n1.pos];constructor
    ·intro h w hw
     have:=h _ ((n2 _).2 ⟨w,hw,rfl⟩);rw[hall] at this;exact this
    ·intro h v hv
     obtain⟨w,hw,rfl⟩:=(n2 v).1 hv;rw[hall];exact h w hw
   ·rw[s2,n2]
    simp only[hall]
def okQ(t:Term)(q:Int):Bool:=decide (0<=t.base+q % 2 ^ t.take.toNat * 2 ^ t.up.toNat/\t.base+q % 2 ^ t.take.toNat * 2 ^ t.up.toNat<=255)
def rowQ(t:Term)(a:Int)(n:Nat):Bool:=(List.range n).all λk=>okQ t (a+(k:Nat))
def Tl(t:Term)(s:Span):Bool:=rowQ t (s.lo / 2 ^ t.drop.toNat) (s.hi / 2 ^ t.drop.toNat-s.lo / 2 ^ t.drop.toNat+1).toNat
def z7g(t:Term)(i o:Int)(gs:List (List Span)):Bool :=
 FY t i o gs.length&&((FP t i gs).2&&(if o=2 then decide (FZ (FP t i gs).1 (domL o)=[]) else (FP t i gs).1.all (Tl t)))
theorem Ps{t:Term}{a:Int}{n:Nat}:rowQ t a n=true↔∀k:Nat,k<n->okQ t (a+k)=true:=by
 simp[rowQ,AJ]
theorem z1j{t:Term}{a:Int}{n k:Nat}(h:k<n)(hb:okQ t (a+k)=false):rowQ t a n=false:=by
 rw[rowQ,List.all_eq_false];exact⟨k,by simpa using h,by simp[hb]⟩
theorem z7h{t:Term}{a:Int}{n m:Nat}(hm:(m:Int)=2 ^ t.take.toNat)(h:∀k:Nat,k<m->okQ t (a+k)=true):rowQ t a n=true:=by
 refine Ps.2 λk _=>?_
 have hp:0<m:=by
  have:(0:Int)<2 ^ t.take.toNat:=Db (by decide);omega
 have h1:=h (k % m) (Nat.mod_lt _ hp)
 have e:(a+(k:Nat)) % 2 ^ t.take.toNat=(a+((k % m:Nat):Nat)) % 2 ^ t.take.toNat:=by
  rw[<-hm];have:=Ff k m;rw[show (a+(k:Int))=a+((k % m:Nat):Int)+(m:Int) * ((k / m:Nat):Int) by rw[<-Int.natCast_mul];omega,Int.add_mul_emod_self_left]
 rw[okQ,e]
 rwa [okQ] at h1
theorem zk5{t:Term}{a:Int}{m:Nat}(hm:(m:Int)=2 ^ t.take.toNat)(hb:300<m)(hup:t.up=0\/t.take<=6)(ht:1<=t.take/\t.take<=21)(h1:okQ t a=true)(h2:okQ t (a+256)=true):False:=by
 have hu:t.up=0:=by
  rcases hup with h|h
  ·exact h
  ·exfalso
   have:(2:Nat) ^ t.take.toNat<=2 ^ 6:=BK (by decide) (by omega);have e:((2 ^ t.take.toNat:Nat):Int)=2 ^ t.take.toNat:=by simp
   omega
 have h9:512<=m:=by
  rcases Ah t.take.toNat 9 with h|h
  ·have:(2:Nat) ^ t.take.toNat<=2 ^ 8:=BK (by decide) (by omega)
   have e:((2 ^ t.take.toNat:Nat):Int)=2 ^ t.take.toNat:=by simp
   omega
  ·have:(2:Nat) ^ 9<=2 ^ t.take.toNat:=BK (by decide) h
   have e:((2 ^ t.take.toNat:Nat):Int)=2 ^ t.take.toNat:=by simp
   omega
 simp only[okQ,Ad,hu,<-hm] at h1 h2;simp only[show (0:Int).toNat=0 from rfl,Int.pow_zero,Gu] at h1 h2;have b1:=B1 a (show (m:Int)≠0 by omega);have b2:=Bu a (show (0:Int)<m by omega);have b3:=B1 (a+256) (show (m:Int)≠0 by omega);have e1:=Int.emod_add_mul_ediv a m;have e2:=Int.emod_add_mul_ediv (a+256) m;generalize a % (m:Int)=r1 at *;generalize (a+256) % (m:Int)=r2 at *;generalize a / (m:Int)=q1 at *;generalize (a+256) / (m:Int)=q2 at *;have e3:r2-r1-256=(m:Int) * (q1-q2):=by rw[Int.mul_sub];omega
 rcases Int.lt_trichotomy (q1-q2) 0 with h|h|h
 ·have:=Cn (show q1-q2 <= -1 by omega) (show (0:Int)<=m by omega)
  omega
 ·rw[h] at e3;omega
 ·have:=Cn (show 1<=q1-q2 by omega) (show (0:Int)<=m by omega)
  omega
theorem zdc{t:Term}{l:List Span}{k:Nat}(h:k<l.length):(l.drop k).all (Tl t)=(Tl t (nth l k)&&(l.drop (k+1)).all (Tl t)):=by rw[drop_at h,List.all_cons]
set_option maxHeartbeats 4000000 in
theorem z1k(t:Term)(i o:Int)(gs:List (List Span))(ht:t.parts.length<1000000000000)(hG:GOk i gs):
 PC Tryz.prog 131 [F5 t,.int .i64 i,.int .i64 o,Cv gs] (.bool (z7g t i o gs)):=by
 have hP:=Bs gs;have hR:=z5h t i o gs.length ht;refine BA UJ ?_;unfold MO;cases hr:FY t i o gs.length with
 |false =>
  rw[hr] at hR;rw[z7g,hr,AI];(with_reducible repeat'(first|simp (disch:=omega) only[push_cast,↓zz,seval,hP]|apply Aa|refine sp_ ?_ ?_<;>intro hc<;>push_cast at hc|refine ee hR ?_|(refine cc hR ?_;(simp(disch:=omega)only[push_cast,↓zz,seval,hP]);(fail_if_success change False))|omega|intro _))
 |true =>
 rw[hr] at hR;have hI:=Xk t i o gs hr hG;obtain⟨s1,s2⟩:=Rl (zfo hr) hG
 have hout:EK t.outer=true:=by
  have hn:=(Gl hr).1;simp only[CQ,Ab] at hn;exact hn.1.2
 have hbase:Hu t.base=true:=by
  have hn:=(Gl hr).1;simp only[CQ,Ab] at hn;exact hn.1.1.1
 have hbm:=GK hbase;rw[Ft] at hout;simp only at hout;rw[z7g,hr,AF];cases hok:(FP t i gs).2 with
 |false =>
  rw[hok] at hI;rw[AI];(with_reducible repeat'(first|simp (disch:=omega) only[push_cast,↓zz,seval,hP]|apply Aa|refine sp_ ?_ ?_<;>intro hc<;>push_cast at hc|refine ee hR ?_|refine ee hI ?_|((first|refine cc hR ?_|refine cc hI ?_);(simp(disch:=omega)only[push_cast,↓zz,seval,hP]);(fail_if_success change False))|omega|intro _))
 |true =>
 obtain⟨p1,p2,p3⟩:=s2 hok
 have hrng:∀v,memL (FP t i gs).1 v->0<=v/\v<=1114111:=λv hv=>by
  obtain⟨w,hw,rfl⟩:=(p3 v).1 hv;exact s1.1 hok w hw
 rw[hok] at hI;rw[AF];clear s1 s2 p3;generalize (FP t i gs).1=l at *;have hpl:=Dn l;by_cases ho:o=2
 ·subst ho
  have hD:=Nj 2;have hM:=Mx l (domL 2) 2 (by omega) (by have:=Te 2;omega);rw[QV] at hM;rw[Ae rfl]
  have hlen:decide (((FZ l (domL 2)).length:Int)=0)=decide (FZ l (domL 2)=[]):=by
   rw[BC];constructor
   ·exact λh=>Ay (by omega)
   ·intro h;rw[h];rfl
  (with_reducible repeat'(first|simp (disch:=omega) only[push_cast,↓zz,seval,hP,hpl]|apply Aa|refine sp_ ?_ ?_<;>intro hc<;>push_cast at hc|refine ee hR ?_|refine ee hI ?_|refine ee hD ?_|refine ee hM ?_|((first|refine cc hR ?_|refine cc hI ?_|refine cc hD ?_|refine cc hM ?_);(simp(disch:=omega)only[push_cast,↓zz,seval,hP,hpl]);(fail_if_success change False))|omega|intro _))
 ·rw[Ac ho]
  have hT1:=ID t.drop (by omega);have hT2:=ID t.take (by omega);have hT3:=ID t.up (by omega);have pd:=Il t.drop.toNat (by omega);have pt:=Il t.take.toNat (by omega);have pu:=Il t.up.toNat (by omega);have hoq:∀q,okQ t q=decide (0<=t.base+q % 2 ^ t.take.toNat * 2 ^ t.up.toNat/\t.base+q % 2 ^ t.take.toNat * 2 ^ t.up.toNat<=255):=λ_=>rfl;have hsq:∀s,Tl t s=rowQ t (s.lo / 2 ^ t.drop.toNat) (s.hi / 2 ^ t.drop.toNat-s.lo / 2 ^ t.drop.toNat+1).toNat:=λ_=>rfl;obtain⟨m,hm⟩:∃m:Nat,(m:Int)=2 ^ t.take.toNat:=⟨2 ^ t.take.toNat,by simp⟩;have hround:=λa n=>z7h (t:=t) (a:=a) (n:=n) hm;have hfar:=λa hb=>zk5 (t:=t) (a:=a) hm hb (by omega) (by omega);generalize (2:Int) ^ t.take.toNat=P at *;subst hm;generalize (2:Int) ^ t.drop.toNat=D at *;generalize (2:Int) ^ t.up.toNat=U at *;(with_reducible repeat'(first|simp (disch:=omega) only[push_cast,↓zz,seval,hP,hpl]|apply Aa|refine sp_ ?_ ?_<;>intro hc<;>push_cast at hc|refine ee hR ?_|refine ee hI ?_|refine ee hT1 ?_|refine ee hT2 ?_|refine ee hT3 ?_|((first|refine cc hR ?_|refine cc hI ?_|refine cc hT1 ?_|refine cc hT2 ?_|refine cc hT3 ?_);(simp(disch:=omega)only[push_cast,↓zz,seval,hP,hpl]);(fail_if_success change False))|omega|intro _))
  refine AQ (AX (λ(k:Nat)=>k<=l.length/\l.all (Tl t)=(l.drop k).all (Tl t)) (λk=>l.length-k)
   (λk=>[(4,.ptr 0 1 0 0),(9,Bn l),(11,.int .i64 D),(12,.int .i64 m),(13,.int .i64 U),(14,.int .i64 k)]) (λk=>[⟨6,1,true,[F5 t]⟩]) (λenv _=>[Cf 1 (env 4)]) 0 ⟨by simp,rfl⟩ ?_ ?_)
  ·(with_reducible repeat'(first|simp (disch:=omega) only[push_cast,↓zz,seval,hP,hpl]|apply Aa|refine sp_ ?_ ?_<;>intro hc<;>push_cast at hc|omega|intro _))
  rintro k ⟨k1,k2⟩;rcases Ah k l.length with hk|hk
  ·rw[zdc hk] at k2
   have hs1:=p1.1 _ (AL hk);have hs2:=hrng (nth l k).lo ⟨_,AL hk,Bg _,hs1⟩;have hs3:=hrng (nth l k).hi ⟨_,AL hk,hs1,Bg _⟩;generalize hse:nth l k=s at *;rw[hsq] at k2;have q1:s.lo.tdiv D=s.lo / D:=Int.tdiv_eq_ediv_of_nonneg hs2.1;have q2:s.hi.tdiv D=s.hi / D:=Int.tdiv_eq_ediv_of_nonneg hs3.1;have b1:0<=s.lo / D:=Ej hs2.1 (by omega);have b2:s.hi / D<=s.hi:=Int.ediv_le_self _ hs3.1;have b3:s.lo / D<=s.hi / D:=BY (by omega) hs1;have w1:IntKind.i64.wrap (s.lo / D)=s.lo / D:=IntWalk.i64_in _ (by omega);have w2:IntKind.i64.wrap (s.hi / D)=s.hi / D:=IntWalk.i64_in _ (by omega);generalize s.lo / D=a at *;generalize s.hi / D=b at *;refine W_T ?_;(with_reducible repeat'(first|simp (disch:=omega) only[push_cast,↓zz,seval,hP,hpl,hse,q1,q2,w1,w2]|apply Aa|refine sp_ ?_ ?_<;>intro hc<;>push_cast at hc|omega|intro _))
   refine AQ (AX (λ(n:Nat)=>n<=(b-a+1).toNat/\∀j:Nat,j<n->okQ t (a+j)=true) (λn=>(b-a+1).toNat-n)
    (λn=>[(4,.ptr 0 1 0 0),(9,Bn l),(11,.int .i64 D),(12,.int .i64 m),(13,.int .i64 U),(14,.int .i64 k),(15,.int .i64 a),(16,.int .i64 b),(17,.int .i64 (a+n))]) (λn=>[⟨6,1,true,[F5 t]⟩]) (λenv _=>[Cf 1 (env 4)]) 0 ⟨by simp,λj hj=>by omega⟩ ?_ ?_)
   ·(with_reducible repeat'(first|simp (disch:=omega) only[push_cast,↓zz,seval,hP,hpl]|apply Aa|refine sp_ ?_ ?_<;>intro hc<;>push_cast at hc|omega|intro _))
   rintro n ⟨n1,n2⟩;rcases Ah n (b-a+1).toNat with hn|hn
   ·have r0:0<=(a+n) % (m:Int):=B1 _ (by omega)
    have r1:(a+n) % (m:Int)<m:=Bu _ (by omega);have hrm:(a+n).tmod m=(a+n) % (m:Int):=Int.tmod_eq_emod_of_nonneg (by omega);have hoqn:=hoq (a+n);generalize (a+(n:Int)) % (m:Int)=r at *;have v0:0<=r * U:=DO r0 (by omega);have v1:r * U<=2097152 * 2097152:=E4 (by omega) (by omega) (by omega) (by omega);have w3:IntKind.i64.wrap r=r:=IntWalk.i64_in _ (by omega);have w4:IntKind.i64.wrap (r * U)=r * U:=IntWalk.i64_in _ (by omega);obtain⟨v,hv⟩:∃v,r * U=v:=⟨_,rfl⟩;rw[hv] at v0 v1 w4 hoqn;have w5:IntKind.i64.wrap (t.base+v)=t.base+v:=IntWalk.i64_in _ (by omega);by_cases hf:300<n/\300<m
    ·have f1:=n2 0 (by omega)
     have f2:=n2 256 (by omega);exact absurd (hfar a hf.2 (by simpa using f1) (by simpa using f2)) (by simp)
    refine W_T ?_;by_cases hbr:m<n
    ·have hrow:=hround a (b-a+1).toNat λj hj=>n2 j (by omega)
     rw[hrow,AF] at k2;(with_reducible repeat'(first|simp (disch:=omega) only[push_cast,↓zz,seval,hP,hpl]|apply Aa|refine sp_ ?_ ?_<;>intro hc<;>push_cast at hc|omega|intro _))
     all_goals first
      |exact⟨k+1,by push_cast,⟨by omega,k2⟩,by omega⟩
      |trace_state
    ·cases hb:okQ t (a+n) with
     |false =>
      rw[hb] at hoqn;have hno:=of_decide_eq_false hoqn.symm;rw[z1j hn hb,AI] at k2;(with_reducible repeat'(first|simp (disch:=omega) only[push_cast,↓zz,seval,hP,hpl,hrm,hv,w3,w4,w5,k2]|apply Aa|refine sp_ ?_ ?_<;>intro hc<;>push_cast at hc|omega|intro _))
     |true =>
      rw[hb] at hoqn;have hyes:=of_decide_eq_true hoqn.symm
      have nx:∀j:Nat,j<n+1->okQ t (a+j)=true:=λj hj=>by
       rcases Ah j n with h|h
       ·exact n2 j h
       ·rw[show j=n by omega];exact hb
      (with_reducible repeat'(first|simp (disch:=omega) only[push_cast,↓zz,seval,hP,hpl,hrm,hv,w3,w4,w5]|apply Aa|refine sp_ ?_ ?_<;>intro hc<;>push_cast at hc|omega|intro _))
      all_goals first
       |exact⟨n+1,by push_cast;omega,⟨by omega,nx⟩,by omega⟩
       |trace_state
   ·have hrow:rowQ t a (b-a+1).toNat=true:=Ps.2 λj hj=>n2 j (by omega)
    rw[hrow,AF] at k2;refine W_T ?_;(with_reducible repeat'(first|simp (disch:=omega) only[push_cast,↓zz,seval,hP,hpl]|apply Aa|refine sp_ ?_ ?_<;>intro hc<;>push_cast at hc|omega|intro _))
    all_goals first
     |exact⟨k+1,by push_cast,⟨by omega,k2⟩,by omega⟩
     |trace_state
  ·rw[Aj hk,List.all_nil] at k2
   refine W_T ?_;(with_reducible repeat'(first|simp (disch:=omega) only[push_cast,↓zz,seval,hP,hpl,k2]|apply Aa|refine sp_ ?_ ?_<;>intro hc<;>push_cast at hc|omega|intro _))
   all_goals trace_state
theorem Rm{t:Term}{s:Span}(hs:s.lo<=s.hi):Tl t s=true↔∀v,s.lo<=v->v<=s.hi->okQ t (v / 2 ^ t.drop.toNat)=true:=by
 have hD:(0:Int)<2 ^ t.drop.toNat:=Db (by decide);rw[Tl,Ps];generalize (2:Int) ^ t.drop.toNat=D at *;have hq:=λq=>z6t (lo:=s.lo) (hi:=s.hi) (q:=q) hD hs;have hle:s.lo / D<=s.hi / D:=BY hD hs;constructor
 ·intro h v h1 h2
  have b1:s.lo / D<=v / D:=BY hD h1;have b2:v / D<=s.hi / D:=BY hD h2;have:=h (v / D-s.lo / D).toNat (by omega)
  rwa [show s.lo / D+(((v / D-s.lo / D).toNat:Nat):Int)=v / D by omega] at this
 ·intro h k hk
  obtain⟨x,x1,x2,x3⟩:=(hq (s.lo / D+k)).2 ⟨by omega,by omega⟩;rw[<-x3];exact h x x1 x2
theorem Zi{t:Term}{i o:Int}{n:Int}{w:List Int}{x:Int}(hr:FY t i o n=true)(hx:0<=x/\x<=1114111)(hv:Ei t w=some (t.base+valP t.outer x)):
 fitW t o w=true↔(if o=2 then Ga o x else okQ t (x / 2 ^ t.drop.toNat))=true:=by
 rw[fitW,hv];simp only;simp only[FY,Vb,Ni,Ab,CV,Ad] at hr;obtain⟨⟨⟨⟨⟨_,h1⟩,_⟩,_⟩,_⟩,h2⟩:=hr;by_cases ho:o=2
 ·rw[Ae ho]
  obtain⟨b1,b2,b3,b4⟩:t.base=0/\t.drop=0/\t.take=21/\t.up=0:=by
   rcases h2 with h2|h2
   ·exact absurd ho h2
   ·exact h2
  have e:t.base+valP t.outer x=x:=by
   simp only[valP,Term.outer,b1,b2,b3,b4];simp;omega
  rw[e,Ab,Ad];exact⟨λh=>h.2,λh=>⟨hx,h⟩⟩
 ·rw[Ac ho]
  have ho1:o=1:=by omega
  have e:okQ t (x / 2 ^ t.drop.toNat)=decide (0<=t.base+valP t.outer x/\t.base+valP t.outer x<=255):=rfl;rw[e,ho1,Ab,Ad,Ad,Ga,Ad];omega
theorem z7i{t:Term}{i o:Int}{gs:List (List Span)}(hG:GOk i gs):z7g t i o gs=Nr t i o gs:=by
 rw[BN,Vy hG.len,z7g,Ab,Ab];refine and_congr_right λhr=>?_;obtain⟨hn,hp⟩:=Gl hr;have hS:=JN hp hG.len;have hT:=zfo hr;obtain⟨s1,s2⟩:=Rl hT hG;have hval:=λw hw=>It (w:=w) hS hn hw;constructor
 ·rintro⟨hok,hres⟩ w hw
  have hrng:=s1.1 hok w hw;obtain⟨p1,p2,p3⟩:=s2 hok;have hm:=(p3 _).2 ⟨w,hw,rfl⟩;rw[Zi hr hrng (by rw[hval w hw,Ae hrng])];generalize (FP t i gs).1=l at *
  have hbl:∀v,memL l v->-1073741824<=v/\v<=1073741824:=λv hv=>by
   obtain⟨w,hw,rfl⟩:=(p3 v).1 hv;have:=s1.1 hok w hw;omega
  by_cases ho:o=2
  ·rw[Ae ho] at hres ⊢
   rw[Ad] at hres;exact Jz.1 ((Iu hbl p1.1).1 hres _ hm)
  ·rw[Ac ho] at hres ⊢
   obtain⟨s,hs,hs2⟩:=hm;exact (Rm (p1.1 s hs)).1 (AJ.1 hres s hs) _ hs2.1 hs2.2
 ·intro h
  have hok:(FP t i gs).2=true:=s1.2 λw hw=>by
   have:=h w hw;rw[fitW,hval w hw] at this;split at this
   ·rename_i v hv
    split at hv
    ·assumption
    ·cases hv
   ·cases this
  refine⟨hok,?_⟩;obtain⟨p1,p2,p3⟩:=s2 hok
  have hfw:∀v,memL (FP t i gs).1 v->(if o=2 then Ga o v else okQ t (v / 2 ^ t.drop.toNat))=true:=λv hv=>by
   obtain⟨w,hw,rfl⟩:=(p3 v).1 hv;have hrng:=s1.1 hok w hw;exact (Zi hr hrng (by rw[hval w hw,Ae hrng])).1 (h w hw)
  have hbl:∀v,memL (FP t i gs).1 v->-1073741824<=v/\v<=1073741824:=λv hv=>by
   obtain⟨w,hw,rfl⟩:=(p3 v).1 hv;have:=s1.1 hok w hw;omega
  by_cases ho:o=2
  ·rw[Ae ho,Ad,Iu hbl p1.1]
   intro v hv;have:=hfw v hv;rw[Ae ho] at this;exact Jz.2 this
  ·rw[Ac ho,AJ]
   intro s hs;rw[Rm (p1.1 s hs)];intro v h1 h2;have:=hfw v ⟨s,hs,h1,h2⟩
   rwa [Ac ho] at this
theorem Rn:∀{l:List Span}{last:Int},Kl last l=true↔(∀s∈l,s.lo<=s.hi/\-1073741824<=s.lo/\s.hi<=1073741824/\last+1<s.lo)/\l.Pairwise λs t=>s.hi+1<t.lo
 |[],last=>by simp[Kl]
 |s::l,last=>by
  rw[Kl,Ab,Ad,Rn (l:=l),A9];constructor
  ·rintro⟨h1,h2,h3⟩
   refine⟨λt ht=>?_,λt ht=>(h2 t ht).2.2.2,h3⟩;rcases Ai.1 ht with rfl|ht
   ·exact h1
   ·have:=h2 t ht
    omega
  ·rintro⟨h1,h2,h3⟩
   exact⟨h1 s (by simp),λt ht=>⟨(h1 t (by simp[ht])).1,(h1 t (by simp[ht])).2.1,(h1 t (by simp[ht])).2.2.1,h2 t ht⟩,h3⟩
theorem z1l{g:List Span}:Pg g=true↔g=Bq g:=by
 rw[Pg,Rn];constructor
 ·rintro⟨h1,h2⟩
  exact (LI ⟨λs hs=>(h1 s hs).1,h2⟩ λs hs=>⟨(h1 s hs).2.1,(h1 s hs).2.2.1⟩).symm
 ·intro h
  have hp:=(Bo g).1;have hb:=ED g;rw[<-h] at hp hb;exact⟨λs hs=>by have:=hb s hs;omega,hp.2⟩
def Zj(i:Int)(g:List Span):Bool:=decide (g.length≠0)&&(decide (g.length<=64)&&(decide (g=Bq g)&&decide (FZ g (domL i)=[])))
theorem Ro(i:Int)(g:List Span):Zj i g=Jw i g:=by
 have hc:decide (g=Bq g)=Pg g:=by rw[BN,Ad,z1l]
 have h1:decide (g.length≠0)=!decide ((g.length:Int)=0):=by
  rw[BN,Cb,Ad,B3];omega
 have h2:decide (g.length<=64)=decide ((g.length:Int)<=64):=by rw[BC];omega
 rw[Zj,Jw,hc,h1,h2]
theorem Pt{i:Int}{gs:List (List Span)}(h:Ez i gs=true):GOk i gs:=by
 obtain⟨h1,h2⟩:=GP h;simp only[Ez,Ab,AJ] at h
 have hg:∀g∈gs,g.length≠0/\g=Bq g/\FZ g (domL i)=[]:=λg hm=>by
  have:=h.2 g hm;rw[<-Ro] at this;simp only[Zj,Ab,Ad] at this;exact⟨this.1,this.2.2.1,this.2.2.2⟩
 refine⟨h1,h2,λg hm=>?_,λg hm v hv=>?_⟩
 ·obtain⟨g1,g2,g3⟩:=hg g hm
  obtain⟨s,hs⟩:=List.exists_mem_of_length_pos (show 0<g.length by omega);have hf:=(Bo g).1.1;rw[<-g2] at hf;exact⟨s.lo,s,hs,Bg _,hf s hs⟩
 ·obtain⟨g1,g2,g3⟩:=hg g hm
  have hb:=ED g;have hf:=(Bo g).1.1;rw[<-g2] at hb hf;have hbl:∀v,memL g v->-1073741824<=v/\v<=1073741824:=λv ⟨s,hs,hv⟩=>by have:=hb s hs;omega
  exact Jz.1 ((Iu hbl hf).1 g3 v hv)
theorem zk6{α:Type}[Inhabited α]{p:α->Bool}{l:List α}{k:Nat}(h:k<l.length):(l.drop k).all p=(p (nth l k)&&(l.drop (k+1)).all p):=by rw[drop_at h,List.all_cons]
theorem Nk(i:Int)(gs:List (List Span))(hl:gs.length<=9223372036854775807):PC Tryz.prog 91 [.int .i64 i,Cv gs] (.bool (Ez i gs)):=by
 have hP:=Bs gs;have hD:=Nj i;refine BA PU ?_;unfold Kg;(with_reducible repeat'(first|simp (disch:=omega) only[push_cast,↓zz,seval]|apply Aa|refine sp_ ?_ ?_<;>intro hc<;>push_cast at hc|omega|intro _))
 refine AQ (AX (λ(k:Nat)=>k<=gs.length/\gs.all (Jw i)=(gs.drop k).all (Jw i)) (λk=>gs.length-k)
  (λk=>[(0,.int .i64 i),(1,Cv gs),(5,.int .i64 k)]) (λk=>[]) (λ_ _=>[]) 0 ⟨by simp,rfl⟩ ?_ ?_)
 ·(with_reducible repeat'(first|simp (disch:=omega) only[push_cast,↓zz,seval,hP]|apply Aa|refine sp_ ?_ ?_<;>intro hc<;>push_cast at hc|omega|intro _))
 rintro k ⟨k1,k2⟩;rcases Ah k gs.length with hk|hk
 ·rw[zk6 hk,<-Ro,Zj] at k2
  generalize hge:nth gs k=g at *;have hpg:=Dn g;have hno:Ez i gs=(decide ((gs.length:Int)<=4)&&gs.all (Jw i)):=rfl;rw[hno];refine W_T ?_;by_cases g1:g.length≠0/\g.length<=64
  ·rw[A7 g1.1,A7 g1.2,AF,AF] at k2
   have hN:=JM g (by omega);have hS:=z0p g (Bq g) (by omega);have hM:=Mx g (domL i) 2 (by omega) (by have:=Te i;omega);rw[QV] at hM;have hlen:(FZ g (domL i)).length<=9223372036854775807\/True:=.inr trivial;by_cases h2:g=Bq g
   ·rw[A7 h2] at hS
    rw[A7 h2,AF] at k2;by_cases h3:FZ g (domL i)=[]
    ·rw[h3] at hM
     rw[A7 h3,AF] at k2;(with_reducible repeat'(first|simp (disch:=omega) only[push_cast,↓zz,seval,hP,hge,hpg]|apply Aa|refine sp_ ?_ ?_<;>intro hc<;>push_cast at hc|refine ee hN ?_|refine ee hS ?_|refine ee hD ?_|refine ee hM ?_|((first|refine cc hN ?_|refine cc hS ?_|refine cc hD ?_|refine cc hM ?_);(simp(disch:=omega)only[push_cast,↓zz,seval,hP,hge,hpg]);(fail_if_success change False))|omega|intro _))
     all_goals first
      |exact⟨k+1,by push_cast,⟨by omega,k2⟩,by omega⟩
      |trace_state
    ·have hpos:=Ca.2 h3
     rw[AM h3,AI] at k2;rw[k2,Cm];generalize FZ g (domL i)=m at *;(with_reducible repeat'(first|simp (disch:=omega) only[push_cast,↓zz,seval,hP,hge,hpg]|apply Aa|refine sp_ ?_ ?_<;>intro hc<;>push_cast at hc|refine ee hN ?_|refine ee hS ?_|refine ee hD ?_|refine ee hM ?_|((first|refine cc hN ?_|refine cc hS ?_|refine cc hD ?_|refine cc hM ?_);(simp(disch:=omega)only[push_cast,↓zz,seval,hP,hge,hpg]);(fail_if_success change False))|omega|intro _))
   ·rw[AM h2] at hS
    rw[AM h2,AI,AI] at k2;rw[k2,Cm];(with_reducible repeat'(first|simp (disch:=omega) only[push_cast,↓zz,seval,hP,hge,hpg]|apply Aa|refine sp_ ?_ ?_<;>intro hc<;>push_cast at hc|refine ee hN ?_|refine ee hS ?_|((first|refine cc hN ?_|refine cc hS ?_);(simp(disch:=omega)only[push_cast,↓zz,seval,hP,hge,hpg]);(fail_if_success change False))|omega|intro _))
  ·have:(decide (g.length≠0)&&(decide (g.length<=64)&&(decide (g=Bq g)&&decide (FZ g (domL i)=[]))))=false:=by
    by_cases h:g.length≠0
    ·rw[AM (p:=g.length<=64) (by omega),AI,Cm]
    ·rw[AM h,AI]
   rw[this,AI] at k2;rw[k2,Cm];(with_reducible repeat'(first|simp (disch:=omega) only[push_cast,↓zz,seval,hP,hge,hpg]|apply Aa|refine sp_ ?_ ?_<;>intro hc<;>push_cast at hc|omega|intro _))
 ·rw[Aj hk,List.all_nil] at k2
  have hno:Ez i gs=decide ((gs.length:Int)<=4):=by rw[Ez,k2,Dx]
  rw[hno];refine W_T ?_;(with_reducible repeat'(first|simp (disch:=omega) only[push_cast,↓zz,seval,hP]|apply Aa|refine sp_ ?_ ?_<;>intro hc<;>push_cast at hc|omega|intro _))
  all_goals trace_state
theorem J0(d:Desc)(out:List Term)(gs:List (List Span))(ho:∀t∈out,t.parts.length<1000000000000)(hG:GOk d.in_ gs):
 PC Tryz.prog 92 [Cu d,FU out,Cv gs] (.bool (EZ d out gs)):=by
 have hP:=Bs gs;have hT:=BP out;refine BA PV ?_;unfold Kh;by_cases h4:64<out.length
 ·rw[EZ,AM (by omega),AI]
  (with_reducible repeat'(first|simp (disch:=omega) only[push_cast,↓zz,seval]|apply Aa|refine sp_ ?_ ?_<;>intro hc<;>push_cast at hc|omega|intro _))
  refine AQ (AX (λ(k:Nat)=>k=0) (λk=>0)
   (λk=>[(1,FU out),(2,Cv gs),(3,.ptr 0 1 0 0),(7,.int .i64 k)]) (λs=>[⟨6,1,true,[Cu d]⟩]) (λenv _=>[Cf 1 (env 3)]) 0 rfl ?_ ?_)
  ·(with_reducible repeat'(first|simp (disch:=omega) only[push_cast,↓zz,seval,hP,hT]|apply Aa|refine sp_ ?_ ?_<;>intro hc<;>push_cast at hc|omega|intro _))
  rintro k rfl;refine W_T ?_;(with_reducible repeat'(first|simp (disch:=omega) only[push_cast,↓zz,seval,hP,hT]|apply Aa|refine sp_ ?_ ?_<;>intro hc<;>push_cast at hc|omega|intro _))
 rw[EZ,A7 (by omega),AF];(with_reducible repeat'(first|simp (disch:=omega) only[push_cast,↓zz,seval]|apply Aa|refine sp_ ?_ ?_<;>intro hc<;>push_cast at hc|omega|intro _))
 refine AQ (AX (λ(k:Nat)=>k<=out.length/\(out.all λt=>Nr t d.in_ d.out gs)=(out.drop k).all λt=>Nr t d.in_ d.out gs) (λk=>out.length-k)
  (λk=>[(1,FU out),(2,Cv gs),(3,.ptr 0 1 0 0),(7,.int .i64 k)]) (λs=>[⟨6,1,true,[Cu d]⟩]) (λenv _=>[Cf 1 (env 3)]) 0 ⟨by simp,rfl⟩ ?_ ?_)
 ·(with_reducible repeat'(first|simp (disch:=omega) only[push_cast,↓zz,seval,hP,hT]|apply Aa|refine sp_ ?_ ?_<;>intro hc<;>push_cast at hc|omega|intro _))
 rintro k ⟨h1,h2⟩;rcases Ah k out.length with hk|hk
 ·rw[drop_at hk,List.all_cons] at h2
  have hF:=z1k (nth out k) d.in_ d.out gs (ho _ (AL hk)) hG;rw[z7i hG] at hF;refine W_T ?_;(with_reducible repeat'(first|simp (disch:=omega) only[push_cast,↓zz,seval,hP,hT]|apply Aa|refine sp_ ?_ ?_<;>intro hc<;>push_cast at hc|refine ee hF ?_|(refine cc hF ?_;(simp(disch:=omega)only[push_cast,↓zz,seval,hP,hT]);(fail_if_success change False))|omega|intro _))
  all_goals first
   |(rw[h2];simp[*];done)
   |exact⟨k+1,by push_cast,⟨by omega,by rw[h2];simp[*]⟩,by omega⟩
 ·rw[Aj hk,List.all_nil] at h2
  refine W_T ?_;(with_reducible repeat'(first|simp (disch:=omega) only[push_cast,↓zz,seval,hP,hT,h2]|apply Aa|refine sp_ ?_ ?_<;>intro hc<;>push_cast at hc|omega|intro _))
  all_goals trace_state
def sumT{α:Type}(f:α->Int)(l:List α):Int:=(l.map f).sum
theorem Tm{α:Type}[Inhabited α]{f:α->Int}{l:List α}{k:Nat}(h:k<l.length):sumT f (l.take (k+1))=sumT f (l.take k)+f (nth l k):=by rw[take_at h];simp[sumT]
theorem GW{α:Type}{f:α->Int}{B:Int}(hf:∀x,0<=f x/\f x<=B):∀l:List α,0<=sumT f l/\sumT f l<=l.length * B
 |[]=>by simp[sumT]
 |x::l=>by
  have h1:=GW hf l;have h2:=hf x;have e:sumT f (x::l)=f x+sumT f l:=by simp[sumT]
  have e2:((x::l).length:Int) * B=l.length * B+B:=by push_cast [List.length_cons];rw[Int.add_mul,Int.one_mul]
  omega
theorem JS{α:Type}{f:α->Int}(hf:∀x,0<=f x):∀{l:List α}{x:α},x∈l->f x<=sumT f l
 |y::l,x,h=>by
  have e:sumT f (y::l)=f y+sumT f l:=by simp[sumT]
  have hn:∀m:List α,0<=sumT f m:=λm=>by
   induction m with
   |nil=>simp[sumT]
   |cons z m ih =>
    have e:sumT f (z::m)=f z+sumT f m:=by simp[sumT]
    have:=hf z;omega
  have h1:=hf y;have h2:=hn l;rcases Ai.1 h with rfl|h
  ·omega
  ·have:=JS hf h
   omega
def szG(g:List Span):Int:=min (g.length:Int) 4000
def szT(t:Term):Int:=1+min (t.parts.length:Int) 4000
theorem Zk(g:List Span):0<=szG g/\szG g<=4000:=by unfold szG;omega
theorem Zl(t:Term):0<=szT t/\szT t<=4001:=by unfold szT;omega
def IV(gs:List (List Span))(out:List Term):Int:=if 100<gs.length\/200<out.length then 4000 else 1+sumT szG gs+sumT szT out
theorem Rp(gs:List (List Span))(out:List Term):PC Tryz.prog 43 [Cv gs,FU out] (.int .i64 (IV gs out)):=by
 have hP:=Bs gs;have hT:=BP out;refine BA U7 ?_;unfold MC;by_cases hb:100<gs.length\/200<out.length
 ·rw[IV,Ae hb]
  (with_reducible repeat'(first|simp (disch:=omega) only[push_cast,↓zz,seval,hP,hT]|apply Aa|refine sp_ ?_ ?_<;>intro hc<;>push_cast at hc|omega|intro _))
 rw[IV,Ac hb];(with_reducible repeat'(first|simp (disch:=omega) only[push_cast,↓zz,seval,hP,hT]|apply Aa|refine sp_ ?_ ?_<;>intro hc<;>push_cast at hc|omega|intro _))
 refine AQ (AX (λ(k:Nat)=>k<=gs.length) (λk=>gs.length-k)
  (λk=>[(0,Cv gs),(1,FU out),(5,.int .i64 (1+sumT szG (gs.take k))),(6,.int .i64 k)]) (λk=>[]) (λ_ _=>[]) 0 (by simp) ?_ ?_)
 ·have e0:sumT szG ([]:List (List Span))=0:=rfl
  (with_reducible repeat'(first|simp (disch:=omega) only[push_cast,↓zz,seval,hP,hT,e0]|apply Aa|refine sp_ ?_ ?_<;>intro hc<;>push_cast at hc|omega|intro _))
 intro k hk;have hb1:=GW Zk (gs.take k);have hb2:((gs.take k).length:Int) * 4000<=100 * 4000:=B7 (by simp;omega) (by omega);rcases Ah k gs.length with hkl|hkl
 ·have hst:=Tm (f:=szG) hkl
  have hx:=Zk (nth gs k);have hsz:min ((nth gs k).length:Int) 4000=szG (nth gs k):=rfl;generalize hge:nth gs k=g at *;generalize sumT szG (gs.take k)=n at *;have hw:IntKind.i64.wrap (1+n+szG g)=1+n+szG g:=IntWalk.i64_in _ (by omega);refine W_T ?_;(with_reducible repeat'(first|simp (disch:=omega) only[push_cast,↓zz,seval,hP,hT,hge,hsz,hw]|apply Aa|refine sp_ ?_ ?_<;>intro hc<;>push_cast at hc|omega|intro _))
  all_goals
   refine⟨k+1,?_⟩;(with_reducible repeat'(first|simp (disch:=omega) only[push_cast,↓zz,seval,hst]|apply Aa|refine sp_ ?_ ?_<;>intro hc<;>push_cast at hc|omega|intro _))
  all_goals first
   |omega
   |trace_state
 ·have hkt:gs.take k=gs:=Al hkl
  rw[hkt] at hb1 hb2 ⊢;generalize sumT szG gs=n at *;refine W_T ?_;(with_reducible repeat'(first|simp (disch:=omega) only[push_cast,↓zz,seval,hP,hT]|apply Aa|refine sp_ ?_ ?_<;>intro hc<;>push_cast at hc|omega|intro _))
  refine AQ (AX (λ(k:Nat)=>k<=out.length) (λk=>out.length-k)
   (λk=>[(1,FU out),(5,.int .i64 (1+n+sumT szT (out.take k))),(7,.int .i64 k)]) (λk=>[]) (λ_ _=>[]) 0 (by simp) ?_ ?_)
  ·have e0:sumT szT ([]:List Term)=0:=rfl
   (with_reducible repeat'(first|simp (disch:=omega) only[push_cast,↓zz,seval,hP,hT,e0,E1]|apply Aa|refine sp_ ?_ ?_<;>intro hc<;>push_cast at hc|omega|intro _))
  intro j hj;have hb3:=GW Zl (out.take j);have hb4:((out.take j).length:Int) * 4001<=200 * 4001:=B7 (by simp;omega) (by omega);rcases Ah j out.length with hjl|hjl
  ·have hst:=Tm (f:=szT) hjl
   have hx:=Zl (nth out j);have hsz:szT (nth out j)=1+min ((nth out j).parts.length:Int) 4000:=rfl;generalize hge:nth out j=t at *;generalize sumT szT (out.take j)=m at *;generalize hze:min (t.parts.length:Int) 4000=z at *;have hw:IntKind.i64.wrap (1+n+m+1)=1+n+m+1:=IntWalk.i64_in _ (by omega);have hw2:IntKind.i64.wrap (1+n+m+1+z)=1+n+m+1+z:=IntWalk.i64_in _ (by omega);refine W_T ?_;(with_reducible repeat'(first|simp (disch:=omega) only[push_cast,↓zz,seval,hP,hT,hge,hze,hw,hw2]|apply Aa|refine sp_ ?_ ?_<;>intro hc<;>push_cast at hc|omega|intro _))
   all_goals
    refine⟨j+1,?_⟩;(with_reducible repeat'(first|simp (disch:=omega) only[push_cast,↓zz,seval,hst]|apply Aa|refine sp_ ?_ ?_<;>intro hc<;>push_cast at hc|omega|intro _))
   all_goals first
    |omega
    |trace_state
  ·have hjt:out.take j=out:=Al hjl
   rw[hjt];refine W_T ?_;(with_reducible repeat'(first|simp (disch:=omega) only[push_cast,↓zz,seval,hP,hT]|apply Aa|refine sp_ ?_ ?_<;>intro hc<;>push_cast at hc|omega|intro _))
   all_goals trace_state
theorem M1(gs:List (List Span))(out:List Term):0<=IV gs out/\IV gs out<=2000000:=by
 unfold IV;have h1:=GW Zk gs;have h2:=GW Zl out;split
 ·omega
 ·omega
def szR(r:Rule):Int:=IV r.guards r.out
def szF(f:FS):Int:=IV f.guards f.out
def Gq(d:Desc):Bool:=decide (d.rules.length<=80/\d.finals.length<=80)&&decide (sumT szR d.rules+sumT szF d.finals<=1500)
theorem Xm(d:Desc):PC Tryz.prog 15 [Cu d] (.bool (Gq d)):=by
 have hPr:=BF d.rules;have hPf:=B9 d.finals;have sR:∀r,0<=szR r/\szR r<=2000000:=λr=>M1 _ _;have sF:∀f,0<=szF f/\szF f<=2000000:=λr=>M1 _ _;refine BA Sa ?_;unfold Ld;by_cases hb:d.rules.length<=80/\d.finals.length<=80
 ·rw[Gq,A7 hb,AF]
  (with_reducible repeat'(first|simp (disch:=omega) only[push_cast,↓zz,seval]|apply Aa|refine sp_ ?_ ?_<;>intro hc<;>push_cast at hc|omega|intro _))
  refine AQ (AX (λ(k:Nat)=>k<=d.rules.length) (λk=>d.rules.length-k)
   (λk=>[(1,.ptr 0 1 0 0),(3,.int .i64 (sumT szR (d.rules.take k))),(4,.int .i64 k)]) (λk=>[⟨6,1,true,[Cu d]⟩]) (λenv _=>[Cf 1 (env 1)]) 0 (by simp) ?_ ?_)
  ·have e0:sumT szR ([]:List Rule)=0:=rfl
   (with_reducible repeat'(first|simp (disch:=omega) only[push_cast,↓zz,seval,hPr,hPf,e0]|apply Aa|refine sp_ ?_ ?_<;>intro hc<;>push_cast at hc|omega|intro _))
  intro k hk;have hb1:=GW sR (d.rules.take k);have hb2:((d.rules.take k).length:Int) * 2000000<=80 * 2000000:=B7 (by simp;omega) (by omega);rcases Ah k d.rules.length with hkl|hkl
  ·have hst:=Tm (f:=szR) hkl
   have hx:=sR (nth d.rules k);have hS:=Rp (nth d.rules k).guards (nth d.rules k).out;have hsz:IV (nth d.rules k).guards (nth d.rules k).out=szR (nth d.rules k):=rfl;rw[hsz] at hS;generalize hge:nth d.rules k=r at *;generalize sumT szR (d.rules.take k)=n at *;have hw:IntKind.i64.wrap (n+szR r)=n+szR r:=IntWalk.i64_in _ (by omega);have hpg:=Bs r.guards;have hpt:=BP r.out;refine W_T ?_;(with_reducible repeat'(first|simp (disch:=omega) only[push_cast,↓zz,seval,hPr,hPf,hge,hw,hpg,hpt]|apply Aa|refine sp_ ?_ ?_<;>intro hc<;>push_cast at hc|refine ee hS ?_|(refine cc hS ?_;(simp(disch:=omega)only[push_cast,↓zz,seval,hPr,hPf,hge,hw,hpg,hpt]);(fail_if_success change False))|omega|intro _))
   all_goals
    refine⟨k+1,?_⟩;(with_reducible repeat'(first|simp (disch:=omega) only[push_cast,↓zz,seval,hst]|apply Aa|refine sp_ ?_ ?_<;>intro hc<;>push_cast at hc|omega|intro _))
  ·have hkt:d.rules.take k=d.rules:=Al hkl
   rw[hkt] at hb1 hb2 ⊢;generalize sumT szR d.rules=n at *;refine W_T ?_;(with_reducible repeat'(first|simp (disch:=omega) only[push_cast,↓zz,seval,hPr,hPf]|apply Aa|refine sp_ ?_ ?_<;>intro hc<;>push_cast at hc|omega|intro _))
   refine AQ (AX (λ(k:Nat)=>k<=d.finals.length) (λk=>d.finals.length-k)
    (λk=>[(1,.ptr 0 1 0 0),(3,.int .i64 (n+sumT szF (d.finals.take k))),(5,.int .i64 k)]) (λk=>[⟨6,1,true,[Cu d]⟩]) (λenv _=>[Cf 1 (env 1)]) 0 (by simp) ?_ ?_)
   ·have e0:sumT szF ([]:List FS)=0:=rfl
    (with_reducible repeat'(first|simp (disch:=omega) only[push_cast,↓zz,seval,hPr,hPf,e0,E1]|apply Aa|refine sp_ ?_ ?_<;>intro hc<;>push_cast at hc|omega|intro _))
   intro j hj;have hb3:=GW sF (d.finals.take j);have hb4:((d.finals.take j).length:Int) * 2000000<=80 * 2000000:=B7 (by simp;omega) (by omega);rcases Ah j d.finals.length with hjl|hjl
   ·have hst:=Tm (f:=szF) hjl
    have hx:=sF (nth d.finals j);have hS:=Rp (nth d.finals j).guards (nth d.finals j).out;have hsz:IV (nth d.finals j).guards (nth d.finals j).out=szF (nth d.finals j):=rfl;rw[hsz] at hS;generalize hge:nth d.finals j=f at *;generalize sumT szF (d.finals.take j)=m at *;have hw:IntKind.i64.wrap (n+m+szF f)=n+m+szF f:=IntWalk.i64_in _ (by omega);have hpg:=Bs f.guards;have hpt:=BP f.out;refine W_T ?_;(with_reducible repeat'(first|simp (disch:=omega) only[push_cast,↓zz,seval,hPr,hPf,hge,hw,hpg,hpt]|apply Aa|refine sp_ ?_ ?_<;>intro hc<;>push_cast at hc|refine ee hS ?_|(refine cc hS ?_;(simp(disch:=omega)only[push_cast,↓zz,seval,hPr,hPf,hge,hw,hpg,hpt]);(fail_if_success change False))|omega|intro _))
    all_goals
     refine⟨j+1,?_⟩;(with_reducible repeat'(first|simp (disch:=omega) only[push_cast,↓zz,seval,hst]|apply Aa|refine sp_ ?_ ?_<;>intro hc<;>push_cast at hc|omega|intro _))
    all_goals first
     |omega
     |trace_state
   ·have hjt:d.finals.take j=d.finals:=Al hjl
    rw[hjt];refine W_T ?_;(with_reducible repeat'(first|simp (disch:=omega) only[push_cast,↓zz,seval,hPr,hPf]|apply Aa|refine sp_ ?_ ?_<;>intro hc<;>push_cast at hc|omega|intro _))
 ·rw[Gq,AM hb,AI]
  (with_reducible repeat'(first|simp (disch:=omega) only[push_cast,↓zz,seval]|apply Aa|refine sp_ ?_ ?_<;>intro hc<;>push_cast at hc|omega|intro _))
  all_goals trace_state
theorem Rq{gs:List (List Span)}{out:List Term}(h:IV gs out<=1500):∀t∈out,t.parts.length<4000:=by
 unfold IV at h;split at h
 ·omega
 ·intro t ht
  have h1:=JS (λt=>(Zl t).1) ht;have h2:=(GW Zk gs).1;have h3:szT t=1+min (t.parts.length:Int) 4000:=rfl;omega
theorem z7j{d:Desc}(h:Gq d=true):IH d:=by
 simp only[Gq,Ab,Ad] at h;have sR:∀r,0<=szR r/\szR r<=2000000:=λr=>M1 _ _;have sF:∀f,0<=szF f/\szF f<=2000000:=λr=>M1 _ _;have a1:=(GW sR d.rules).1;have a2:=(GW sF d.finals).1;refine⟨λr hr t ht=>?_,λf hf t ht=>?_⟩
 ·have h1:=JS (λr=>(sR r).1) hr
  have h2:szR r=IV r.guards r.out:=rfl;have:=Rq (gs:=r.guards) (out:=r.out) (by omega) t ht;omega
 ·have h1:=JS (λr=>(sF r).1) hf
  have h2:szF f=IV f.guards f.out:=rfl;have:=Rq (gs:=f.guards) (out:=f.out) (by omega) t ht;omega
theorem zk7{s:Int}:0<((domL s).length:Int)↔(s=1\/s=2):=by
 unfold domL;split
 ·simp[*]
 ·split
  ·simp[*]
  ·simp[*]
theorem zdd{d:Desc}:Pi d=true↔(d.in_=1\/d.in_=2)/\(d.out=1\/d.out=2)/\(1<=d.states/\d.states<=1024)/\(0<=d.start/\d.start<d.states)/\d.rules.length<=4096/\d.finals.length<=4096:=by
 simp only[Pi,IR,Ab,Ad,zk7];omega
def Pu(d:Desc)(r:Rule):Prop:=(0<=r.from_/\r.from_<d.states)/\(0<=r.to_/\r.to_<d.states)/\((r.guards.length:Int)=0/\r.eat=0\/1<=r.eat/\r.eat<=r.guards.length)
theorem zde{d:Desc}{r:Rule}:Gt d r=true↔Pu d r/\Ez d.in_ r.guards=true/\EZ d r.out r.guards=true:=by
 simp only[Gt,IR,eatB,Pu,Ab,Cb,Ad,B3];constructor
 ·rintro⟨h1,h2,h3,h4,h5⟩
  exact⟨⟨h1,h2,by omega⟩,h3,h5⟩
 ·rintro⟨⟨h1,h2,h4⟩,h3,h5⟩
  exact⟨h1,h2,h3,by omega,h5⟩
theorem z7k{d:Desc}{f:FS}:Fc d f=true↔(0<=f.from_/\f.from_<d.states)/\Ez d.in_ f.guards=true/\EZ d f.out f.guards=true:=by
 simp only[Fc,IR,Ab,Ad]
structure LM(d:Desc):Prop where
 fin:IH d
 rg:∀r∈d.rules,r.guards.length<=9223372036854775807
 fg:∀f∈d.finals,f.guards.length<=9223372036854775807
structure Hold(p:Prop):Prop where
 get:p
theorem share{P Q:Prop}(main:Hold P->Q)(k:Hold P):Q:=main k
set_option maxHeartbeats 4000000 in
set_option maxRecDepth 8000 in
theorem Xn(d:Desc)(hs:LM d):PC Tryz.prog 45 [Cu d] (.tup [.int .i64 (FD d).1,.int .i64 (FD d).2]):=by
 have hPr:=BF d.rules;have hPf:=B9 d.finals;have hhi:=@zdd d;refine BA Sf ?_;unfold Lj;cases hh:Pi d with
 |false =>
  rw[FD,Ae hh];have hno:¬((d.in_=1\/d.in_=2)/\(d.out=1\/d.out=2)/\(1<=d.states/\d.states<=1024)/\(0<=d.start/\d.start<d.states)/\d.rules.length<=4096/\d.finals.length<=4096):=λh=>by rw[hhi.2 h] at hh;cases hh
  clear hhi;(with_reducible repeat'(first|simp (disch:=omega) only[push_cast,↓zz,seval]|apply Aa|refine sp_ ?_ ?_<;>intro hc<;>push_cast at hc|omega|intro _))
  all_goals first
   |(exfalso;omega)
   |((repeat'(first|(simp(disch:=omega)only[push_cast,↓zz,seval,Dq])|omega|(with_reducible refine Aa ?_ ?_)));done)
   |trace_state
 |true =>
 obtain⟨i1,i2,i3,i4,i5,i6⟩:=hhi.1 hh;clear hhi
 have hW:FD d=match G6 (Gt d) d.rules 0 with
  |some i=>(2,(i:Int))
  |none=>match G6 (Fc d) d.finals 0 with
   |some i=>(3,(i:Int))
   |none=>if (@decide (cycP d.rules d.states.toNat) (Classical.propDecidable _))=true then (4,0) else (0,0):=by
  rw[FD,Ac (by simp[hh])];cases G6 (Gt d) d.rules 0 with
  |some i=>rfl
  |none =>
   cases G6 (Fc d) d.finals 0 with
   |some i=>rfl
   |none =>
    by_cases hc:cycP d.rules d.states.toNat
    ·simp only[Ae hc,@A7 _ (Classical.propDecidable _) hc,AY]
    ·simp only[Ac hc,@AM _ (Classical.propDecidable _) hc,Au,AZ]
 apply share
 ·intro key
  (with_reducible repeat'(first|simp (disch:=omega) only[push_cast,↓zz,seval]|apply Aa|refine sp_ ?_ ?_<;>intro hc<;>push_cast at hc|omega|intro _))
  all_goals first
   |(exfalso;omega)
   |skip
  all_goals
   refine AQ (AX (λ(k:Nat)=>k<=d.rules.length/\G6 (Gt d) d.rules 0=G6 (Gt d) (d.rules.drop k) k) (λk=>d.rules.length-k)
    (λk=>[(1,.ptr 0 1 0 0),(4,.int .i64 k)]) (λk=>[⟨6,1,true,[Cu d]⟩]) (λenv _=>[Cf 1 (env 1)]) 0 ⟨by simp,rfl⟩ ?_ ?_)
   ·(with_reducible repeat'(first|simp (disch:=omega) only[push_cast,↓zz,seval,hPr,hPf]|apply Aa|refine sp_ ?_ ?_<;>intro hc<;>push_cast at hc|omega|intro _))
   exact key.get
 refine⟨?_⟩;rintro k ⟨k1,k2⟩;rcases Ah k d.rules.length with hk|hk
 ·have hrm:=AL hk
  have hrf:=hs.fin.1 _ hrm;have hrg:=hs.rg _ hrm;rw[N4 hk] at k2;have hiff:=@zde d (nth d.rules k);have hG:=Nk d.in_ (nth d.rules k).guards hrg;generalize hre:nth d.rules k=r at *;have hpg:=Bs r.guards;have hpt:=BP r.out
  have hbad:¬Pu d r->FD d=(2,(k:Int)):=λhA=>by
   have hb:Gt d r=false:=by
    cases h:Gt d r with
    |false=>rfl
    |true=>exact absurd (hiff.1 h).1 hA
   rw[hb] at k2;simp only[Au,AZ] at k2;rw[hW,k2]
  refine W_T ?_;by_cases f1:r.from_<0
  ·rw[hbad λhA=>by unfold Pu at hA;omega]
   have g1:=Cr f1;clear hiff hbad hW;(with_reducible repeat'(first|simp (disch:=omega) only[push_cast,↓zz,seval,hPr,hPf,hre,hpg,hpt,g1]|apply Aa|refine sp_ ?_ ?_<;>intro hc<;>push_cast at hc|omega|intro _))
  by_cases f2:d.states<=r.from_
  ·rw[hbad λhA=>by unfold Pu at hA;omega]
   have g1:=eq_false f1;have g2:=Cr f2;clear hiff hbad hW;(with_reducible repeat'(first|simp (disch:=omega) only[push_cast,↓zz,seval,hPr,hPf,hre,hpg,hpt,g1,g2]|apply Aa|refine sp_ ?_ ?_<;>intro hc<;>push_cast at hc|omega|intro _))
  by_cases f3:r.to_<0
  ·rw[hbad λhA=>by unfold Pu at hA;omega]
   have g1:=eq_false f1;have g2:=eq_false f2;have g3:=Cr f3;clear hiff hbad hW;(with_reducible repeat'(first|simp (disch:=omega) only[push_cast,↓zz,seval,hPr,hPf,hre,hpg,hpt,g1,g2,g3]|apply Aa|refine sp_ ?_ ?_<;>intro hc<;>push_cast at hc|omega|intro _))
  by_cases f4:d.states<=r.to_
  ·rw[hbad λhA=>by unfold Pu at hA;omega]
   have g1:=eq_false f1;have g2:=eq_false f2;have g3:=eq_false f3;have g4:=Cr f4;clear hiff hbad hW;(with_reducible repeat'(first|simp (disch:=omega) only[push_cast,↓zz,seval,hPr,hPf,hre,hpg,hpt,g1,g2,g3,g4]|apply Aa|refine sp_ ?_ ?_<;>intro hc<;>push_cast at hc|omega|intro _))
  have g1:=eq_false f1;have g2:=eq_false f2;have g3:=eq_false f3;have g4:=eq_false f4
  have hE:(((r.guards.length:Int)=0)=True/\(r.eat=0)=True/\(1<=r.eat)=False)\/(((r.guards.length:Int)=0)=False/\(1<=r.eat)=True/\(r.eat<=(r.guards.length:Int))=True) \/
   ¬Pu d r/\(((r.guards.length:Int)=0)=True/\(r.eat=0)=False/\(1<=r.eat)=False\/((r.guards.length:Int)=0)=True/\(r.eat=0)=False/\(1<=r.eat)=True/\(r.eat<=(r.guards.length:Int))=False \/
    ((r.guards.length:Int)=0)=False/\(1<=r.eat)=False\/((r.guards.length:Int)=0)=False/\(1<=r.eat)=True/\(r.eat<=(r.guards.length:Int))=False):=by
   simp only[eq_iff_iff,iff_true,iff_false,Pu];omega
  have hgood:((((r.guards.length:Int)=0)=True/\(r.eat=0)=True/\(1<=r.eat)=False)\/(((r.guards.length:Int)=0)=False/\(1<=r.eat)=True/\(r.eat<=(r.guards.length:Int))=True))->Pu d r:=by
   simp only[eq_iff_iff,iff_true,iff_false,Pu];omega
  rcases hE with hE|hE|⟨hA,hE⟩
  ·have hA:=hgood (.inl hE)
   obtain⟨e1,e2,e3⟩:=hE;clear hbad hgood;cases hg:Ez d.in_ r.guards with
   |false =>
    rw[hg] at hG
    have hb:Gt d r=false:=by
     cases h:Gt d r with
     |false=>rfl
     |true=>have:=(hiff.1 h).2.1;rw[hg] at this;cases this
    rw[hb] at k2;simp only[Au,AZ] at k2;rw[hW,k2];clear hiff hW hA;(with_reducible repeat'(first|simp (disch:=omega) only[push_cast,↓zz,seval,hPr,hPf,hre,hpg,hpt,g1,g2,g3,g4,e1,e2,e3]|apply Aa|refine sp_ ?_ ?_<;>intro hc<;>push_cast at hc|refine ee hG ?_|(refine cc hG ?_;(simp(disch:=omega)only[push_cast,↓zz,seval,hPr,hPf,hre,hpg,hpt,g1,g2,g3,g4,e1,e2,e3]);(fail_if_success change False))|omega|intro _))
   |true =>
    rw[hg] at hG;have hWr:=J0 d r.out r.guards hrf (Pt hg)
    have hb:Gt d r=EZ d r.out r.guards:=by
     rw[BN,hiff];exact⟨λh=>h.2.2,λh=>⟨hA,hg,h⟩⟩
    rw[hb] at k2;cases hw:EZ d r.out r.guards with
    |false =>
     rw[hw] at hWr k2;simp only[Au,AZ] at k2;rw[hW,k2];clear hiff hW hA;(with_reducible repeat'(first|simp (disch:=omega) only[push_cast,↓zz,seval,hPr,hPf,hre,hpg,hpt,g1,g2,g3,g4,e1,e2,e3]|apply Aa|refine sp_ ?_ ?_<;>intro hc<;>push_cast at hc|refine ee hG ?_|refine ee hWr ?_|((first|refine cc hG ?_|refine cc hWr ?_);(simp(disch:=omega)only[push_cast,↓zz,seval,hPr,hPf,hre,hpg,hpt,g1,g2,g3,g4,e1,e2,e3]);(fail_if_success change False))|omega|intro _))
    |true =>
     rw[hw] at hWr k2;simp only[AY] at k2;clear hiff hA;(with_reducible repeat'(first|simp (disch:=omega) only[push_cast,↓zz,seval,hPr,hPf,hre,hpg,hpt,g1,g2,g3,g4,e1,e2,e3]|apply Aa|refine sp_ ?_ ?_<;>intro hc<;>push_cast at hc|refine ee hG ?_|refine ee hWr ?_|((first|refine cc hG ?_|refine cc hWr ?_);(simp(disch:=omega)only[push_cast,↓zz,seval,hPr,hPf,hre,hpg,hpt,g1,g2,g3,g4,e1,e2,e3]);(fail_if_success change False))|omega|intro _))
     all_goals first
      |exact⟨k+1,by push_cast,⟨by omega,k2⟩,by omega⟩
      |trace_state
  ·have hA:=hgood (.inr hE)
   obtain⟨e1,e2,e3⟩:=hE;clear hbad hgood;cases hg:Ez d.in_ r.guards with
   |false =>
    rw[hg] at hG
    have hb:Gt d r=false:=by
     cases h:Gt d r with
     |false=>rfl
     |true=>have:=(hiff.1 h).2.1;rw[hg] at this;cases this
    rw[hb] at k2;simp only[Au,AZ] at k2;rw[hW,k2];clear hiff hW hA;(with_reducible repeat'(first|simp (disch:=omega) only[push_cast,↓zz,seval,hPr,hPf,hre,hpg,hpt,g1,g2,g3,g4,e1,e2,e3]|apply Aa|refine sp_ ?_ ?_<;>intro hc<;>push_cast at hc|refine ee hG ?_|(refine cc hG ?_;(simp(disch:=omega)only[push_cast,↓zz,seval,hPr,hPf,hre,hpg,hpt,g1,g2,g3,g4,e1,e2,e3]);(fail_if_success change False))|omega|intro _))
   |true =>
    rw[hg] at hG;have hWr:=J0 d r.out r.guards hrf (Pt hg)
    have hb:Gt d r=EZ d r.out r.guards:=by
     rw[BN,hiff];exact⟨λh=>h.2.2,λh=>⟨hA,hg,h⟩⟩
    rw[hb] at k2;cases hw:EZ d r.out r.guards with
    |false =>
     rw[hw] at hWr k2;simp only[Au,AZ] at k2;rw[hW,k2];clear hiff hW hA;(with_reducible repeat'(first|simp (disch:=omega) only[push_cast,↓zz,seval,hPr,hPf,hre,hpg,hpt,g1,g2,g3,g4,e1,e2,e3]|apply Aa|refine sp_ ?_ ?_<;>intro hc<;>push_cast at hc|refine ee hG ?_|refine ee hWr ?_|((first|refine cc hG ?_|refine cc hWr ?_);(simp(disch:=omega)only[push_cast,↓zz,seval,hPr,hPf,hre,hpg,hpt,g1,g2,g3,g4,e1,e2,e3]);(fail_if_success change False))|omega|intro _))
    |true =>
     rw[hw] at hWr k2;simp only[AY] at k2;clear hiff hA;(with_reducible repeat'(first|simp (disch:=omega) only[push_cast,↓zz,seval,hPr,hPf,hre,hpg,hpt,g1,g2,g3,g4,e1,e2,e3]|apply Aa|refine sp_ ?_ ?_<;>intro hc<;>push_cast at hc|refine ee hG ?_|refine ee hWr ?_|((first|refine cc hG ?_|refine cc hWr ?_);(simp(disch:=omega)only[push_cast,↓zz,seval,hPr,hPf,hre,hpg,hpt,g1,g2,g3,g4,e1,e2,e3]);(fail_if_success change False))|omega|intro _))
     all_goals first
      |exact⟨k+1,by push_cast,⟨by omega,k2⟩,by omega⟩
      |trace_state
  ·rw[hbad hA]
   clear hiff hW hA hbad hgood;rcases hE with⟨e1,e2,e3⟩|⟨e1,e2,e3,e4⟩|⟨e1,e2⟩|⟨e1,e2,e3⟩
   ·(with_reducible repeat'(first|simp (disch:=omega) only[push_cast,↓zz,seval,hPr,hPf,hre,hpg,hpt,g1,g2,g3,g4,e1,e2,e3]|apply Aa|refine sp_ ?_ ?_<;>intro hc<;>push_cast at hc|omega|intro _))
   ·(with_reducible repeat'(first|simp (disch:=omega) only[push_cast,↓zz,seval,hPr,hPf,hre,hpg,hpt,g1,g2,g3,g4,e1,e2,e3,e4]|apply Aa|refine sp_ ?_ ?_<;>intro hc<;>push_cast at hc|omega|intro _))
   ·(with_reducible repeat'(first|simp (disch:=omega) only[push_cast,↓zz,seval,hPr,hPf,hre,hpg,hpt,g1,g2,g3,g4,e1,e2]|apply Aa|refine sp_ ?_ ?_<;>intro hc<;>push_cast at hc|omega|intro _))
   ·(with_reducible repeat'(first|simp (disch:=omega) only[push_cast,↓zz,seval,hPr,hPf,hre,hpg,hpt,g1,g2,g3,g4,e1,e2,e3]|apply Aa|refine sp_ ?_ ?_<;>intro hc<;>push_cast at hc|omega|intro _))
 ·rw[Aj hk,G6] at k2
  have hall:=Ir k2;have hC:=Xg d ⟨i3,i5,λr hr=>Tg (hall r hr)⟩
  have hcs:=YD (l:=d.rules) (n:=d.states.toNat) λr hr=>by
   have:=Tg (hall r hr);omega
  rw[k2] at hW;simp only at hW;refine W_T ?_;(with_reducible repeat'(first|simp (disch:=omega) only[push_cast,↓zz,seval,hPr,hPf]|apply Aa|refine sp_ ?_ ?_<;>intro hc<;>push_cast at hc|omega|intro _))
  refine AQ (AX (λ(k:Nat)=>k<=d.finals.length/\G6 (Fc d) d.finals 0=G6 (Fc d) (d.finals.drop k) k) (λk=>d.finals.length-k)
   (λk=>[(1,.ptr 0 1 0 0),(8,.int .i64 k)]) (λk=>[⟨6,1,true,[Cu d]⟩]) (λenv _=>[Cf 1 (env 1)]) 0 ⟨by simp,rfl⟩ ?_ ?_)
  ·(with_reducible repeat'(first|simp (disch:=omega) only[push_cast,↓zz,seval,hPr,hPf]|apply Aa|refine sp_ ?_ ?_<;>intro hc<;>push_cast at hc|omega|intro _))
  rintro j ⟨j1,j2⟩;rcases Ah j d.finals.length with hj|hj
  ·have hfm:=AL hj
   have hff:=hs.fin.2 _ hfm;have hfg:=hs.fg _ hfm;rw[N4 hj] at j2;have hiff:=@z7k d (nth d.finals j);have hG:=Nk d.in_ (nth d.finals j).guards hfg;generalize hfe:nth d.finals j=f at *;have hpg:=Bs f.guards;have hpt:=BP f.out
   have hbad:Fc d f=false->FD d=(3,(j:Int)):=λhb=>by
    rw[hb] at j2;simp only[Au,AZ] at j2;rw[hW,j2]
   have hno:¬(0<=f.from_/\f.from_<d.states)->Fc d f=false:=λhA=>by
    cases h:Fc d f with
    |false=>rfl
    |true=>exact absurd (hiff.1 h).1 hA
   refine W_T ?_;by_cases f1:f.from_<0
   ·rw[hbad (hno (by omega))]
    have g1:=Cr f1;clear hiff hbad hW hno;(with_reducible repeat'(first|simp (disch:=omega) only[push_cast,↓zz,seval,hPr,hPf,hfe,hpg,hpt,g1]|apply Aa|refine sp_ ?_ ?_<;>intro hc<;>push_cast at hc|omega|intro _))
   by_cases f2:d.states<=f.from_
   ·rw[hbad (hno (by omega))]
    have g1:=eq_false f1;have g2:=Cr f2;clear hiff hbad hW hno;(with_reducible repeat'(first|simp (disch:=omega) only[push_cast,↓zz,seval,hPr,hPf,hfe,hpg,hpt,g1,g2]|apply Aa|refine sp_ ?_ ?_<;>intro hc<;>push_cast at hc|omega|intro _))
   have g1:=eq_false f1;have g2:=eq_false f2;cases hg:Ez d.in_ f.guards with
   |false =>
    rw[hg] at hG
    have hb:Fc d f=false:=by
     cases h:Fc d f with
     |false=>rfl
     |true=>have:=(hiff.1 h).2.1;rw[hg] at this;cases this
    rw[hbad hb];clear hiff hbad hW hno;(with_reducible repeat'(first|simp (disch:=omega) only[push_cast,↓zz,seval,hPr,hPf,hfe,hpg,hpt,g1,g2]|apply Aa|refine sp_ ?_ ?_<;>intro hc<;>push_cast at hc|refine ee hG ?_|(refine cc hG ?_;(simp(disch:=omega)only[push_cast,↓zz,seval,hPr,hPf,hfe,hpg,hpt,g1,g2]);(fail_if_success change False))|omega|intro _))
   |true =>
    rw[hg] at hG;have hWr:=J0 d f.out f.guards hff (Pt hg)
    have hb:Fc d f=EZ d f.out f.guards:=by
     rw[BN,hiff];exact⟨λh=>h.2.2,λh=>⟨by omega,hg,h⟩⟩
    rw[hb] at j2 hbad;cases hw:EZ d f.out f.guards with
    |false =>
     rw[hw] at hWr;rw[hbad hw];clear hiff hbad hW hno;(with_reducible repeat'(first|simp (disch:=omega) only[push_cast,↓zz,seval,hPr,hPf,hfe,hpg,hpt,g1,g2]|apply Aa|refine sp_ ?_ ?_<;>intro hc<;>push_cast at hc|refine ee hG ?_|refine ee hWr ?_|((first|refine cc hG ?_|refine cc hWr ?_);(simp(disch:=omega)only[push_cast,↓zz,seval,hPr,hPf,hfe,hpg,hpt,g1,g2]);(fail_if_success change False))|omega|intro _))
    |true =>
     rw[hw] at hWr j2;simp only[AY] at j2;clear hiff hbad hno;(with_reducible repeat'(first|simp (disch:=omega) only[push_cast,↓zz,seval,hPr,hPf,hfe,hpg,hpt,g1,g2]|apply Aa|refine sp_ ?_ ?_<;>intro hc<;>push_cast at hc|refine ee hG ?_|refine ee hWr ?_|((first|refine cc hG ?_|refine cc hWr ?_);(simp(disch:=omega)only[push_cast,↓zz,seval,hPr,hPf,hfe,hpg,hpt,g1,g2]);(fail_if_success change False))|omega|intro _))
     all_goals first
      |exact⟨j+1,by push_cast,⟨by omega,j2⟩,by omega⟩
      |trace_state
  ·rw[Aj hj,G6] at j2
   rw[j2] at hW;simp only at hW
   have hdc:@decide (cycP d.rules d.states.toNat) (Classical.propDecidable _)=cycR d.rules d.states.toNat:=by
    rw[BN,hcs];exact @decide_eq_true_iff _ (Classical.propDecidable _)
   rw[hdc] at hW;clear hcs hdc;generalize cycR d.rules d.states.toNat=c at *;refine W_T ?_;rw[hW];cases c
   ·(with_reducible repeat'(first|simp (disch:=omega) only[push_cast,↓zz,seval,hPr,hPf]|apply Aa|refine sp_ ?_ ?_<;>intro hc<;>push_cast at hc|refine ee hC ?_|(refine cc hC ?_;(simp(disch:=omega)only[push_cast,↓zz,seval,hPr,hPf]);(fail_if_success change False))|omega|intro _))
   ·(with_reducible repeat'(first|simp (disch:=omega) only[push_cast,↓zz,seval,hPr,hPf]|apply Aa|refine sp_ ?_ ?_<;>intro hc<;>push_cast at hc|refine ee hC ?_|(refine cc hC ?_;(simp(disch:=omega)only[push_cast,↓zz,seval,hPr,hPf]);(fail_if_success change False))|omega|intro _))
    all_goals trace_state
theorem Ix{α:Type}[DecidableEq α][Inhabited α]{l m:List α}{k:Nat}(h1:k<l.length)(h2:k<m.length):decide (l.drop k=m.drop k)=(decide (nth l k=nth m k)&&decide (l.drop (k+1)=m.drop (k+1))):=by
 rw[drop_at h1,drop_at h2];simp
structure zfp(gs:List (List Span))(out:List Term):Prop where
 g:gs.length<=1000000000000
 gl:∀l∈gs,l.length<=1000000000000
 o:out.length<=1000000000000
 ol:∀t∈out,t.parts.length<=1000000000000
structure zor(d:Desc):Prop where
 r:d.rules.length<=1000000000000
 rs:∀r∈d.rules,zfp r.guards r.out
 f:d.finals.length<=1000000000000
 fs:∀f∈d.finals,zfp f.guards f.out
theorem Pv{gs:List (List Span)}{out:List Term}(h:IV gs out<=1500):gs.length<=100:=by
 unfold IV at h;split at h
 ·omega
 ·omega
theorem KG{d:Desc}(h:Gq d=true):LM d:=by
 refine⟨z7j h,?_,?_⟩
 all_goals
  simp only[Gq,Ab,Ad] at h;have sR:∀r,0<=szR r/\szR r<=2000000:=λr=>M1 _ _;have sF:∀f,0<=szF f/\szF f<=2000000:=λr=>M1 _ _;have a1:=(GW sR d.rules).1;have a2:=(GW sF d.finals).1
 ·intro r hr
  have h1:=JS (λr=>(sR r).1) hr;have h2:szR r=IV r.guards r.out:=rfl;have:=Pv (gs:=r.guards) (out:=r.out) (by omega);omega
 ·intro f hf
  have h1:=JS (λr=>(sF r).1) hf;have h2:szF f=IV f.guards f.out:=rfl;have:=Pv (gs:=f.guards) (out:=f.out) (by omega);omega
theorem Xo(c:Desc)(hc:LM c):PC Tryz.prog 18 [Cu c] (.bool (decide (FO c=0))):=by
 have hW:=Xn c hc
 have e:decide (FO c=0)=decide ((FD c).1=0):=by
  unfold FO;split
  ·simp[*]
  ·simp[*]
 rw[e];generalize FD c=w at *;refine BA Sb ?_;unfold Le;(with_reducible repeat'(first|simp (disch:=omega) only[push_cast,↓zz,seval]|apply Aa|refine sp_ ?_ ?_<;>intro hc<;>push_cast at hc|refine ee hW ?_|(refine cc hW ?_;(simp(disch:=omega)only[push_cast,↓zz,seval]);(fail_if_success change False))|omega|intro _))
 all_goals trace_state
theorem zk8(s x:Int)(hx:-2147483648<=x/\x<=2147483647):PC Tryz.prog 133 [.int .i64 s,.int .i32 x] (.bool (Ga s x)):=by
 refine BA z5e ?_;unfold UK;(with_reducible repeat'(first|simp (disch:=omega) only[push_cast,↓zz,seval]|apply Aa|refine sp_ ?_ ?_<;>intro hc<;>push_cast at hc|omega|intro _))
 all_goals first
  |(unfold Ga;first|(refine NS ?_;omega)|(refine NT ?_;omega)|(refine Ja ?_;omega))
  |(rw[Gh];(unfold Ga;first|(refine NS ?_;omega)|(refine NT ?_;omega)|(refine Ja ?_;omega)))
  |trace_state
theorem z7l(s:Int)(l:List Int)(hl:l.length<=1000000000000)(h32:∀x∈l,-2147483648<=x/\x<=2147483647):PC Tryz.prog 100 [.int .i64 s,A4 l] (.bool (l.all (Ga s))):=by
 have pI:A6 (l.map (AV.int .i32))=true:=AE .i32 _;refine BA Wy ?_;unfold O0;(with_reducible repeat'(first|simp (disch:=omega) only[push_cast,↓zz,seval,pI]|apply Aa|refine sp_ ?_ ?_<;>intro hc<;>push_cast at hc|omega|intro _))
 refine AQ (AX (λ(k:Nat)=>k<=l.length/\l.all (Ga s)=(l.drop k).all (Ga s)) (λk=>l.length-k)
  (λk=>[(0,.int .i64 s),(7,A4 l),(8,.int .i64 l.length),(9,.int .i64 k)]) (λ_=>[]) (λ_ _=>[]) 0 (by simp) ?_ ?_)
 ·(with_reducible repeat'(first|simp (disch:=omega) only[push_cast,↓zz,seval,pI]|apply Aa|refine sp_ ?_ ?_<;>intro hc<;>push_cast at hc|omega|intro _))
 rintro k ⟨hk,hr⟩;rcases Ah k l.length with hkl|hkl
 ·have hI:=zk8 s (nth l k) (h32 _ (AL hkl))
  rw[drop_at hkl,List.all_cons] at hr;generalize Ga s (nth l k)=b at *;cases b with
  |true =>
   refine W_T ?_;(with_reducible repeat'(first|simp (disch:=omega) only[push_cast,↓zz,seval,pI]|apply Aa|refine sp_ ?_ ?_<;>intro hc<;>push_cast at hc|refine ee hI ?_|(refine cc hI ?_;(simp(disch:=omega)only[push_cast,↓zz,seval,pI]);(fail_if_success change False))|omega|intro _))
   all_goals
    refine⟨k+1,?_⟩;(with_reducible repeat'(first|simp (disch:=omega) only[push_cast,↓zz,seval]|apply Aa|refine sp_ ?_ ?_<;>intro hc<;>push_cast at hc|omega|intro _));simpa using hr
  |false =>
   refine W_T ?_;(with_reducible repeat'(first|simp (disch:=omega) only[push_cast,↓zz,seval,pI]|apply Aa|refine sp_ ?_ ?_<;>intro hc<;>push_cast at hc|refine ee hI ?_|(refine cc hI ?_;(simp(disch:=omega)only[push_cast,↓zz,seval,pI]);(fail_if_success change False))|omega|intro _))
   all_goals (rw[hr];rfl)
 ·rw[Aj hkl] at hr
  refine W_T ?_;(with_reducible repeat'(first|simp (disch:=omega) only[push_cast,↓zz,seval,pI]|apply Aa|refine sp_ ?_ ?_<;>intro hc<;>push_cast at hc|omega|intro _))
  all_goals (rw[hr];rfl)
theorem Iy(a b:List Int)(hl:a.length<=1000000000000):PC Tryz.prog 32 [A4 a,A4 b] (.bool (decide (a=b))):=by
 refine BA U5 ?_;unfold MA;(with_reducible repeat'(first|simp (disch:=omega) only[push_cast,↓zz,seval]|apply Aa|refine sp_ ?_ ?_<;>intro hc<;>push_cast at hc|omega|intro _))
 ·have:a≠b:=by intro h;subst h;first|omega|simp_all
  simp[this]
 refine AQ (AX (λ(k:Nat)=>k<=a.length/\decide (a=b)=decide (a.drop k=b.drop k)) (λk=>a.length-k)
  (λk=>[(0,A4 a),(1,A4 b),(5,.int .i64 k)]) (λs=>[]) (λenv _=>[]) 0 (by simp) ?_ ?_)
 ·(with_reducible repeat'(first|simp (disch:=omega) only[push_cast,↓zz,seval]|apply Aa|refine sp_ ?_ ?_<;>intro hc<;>push_cast at hc|omega|intro _))
 rintro k ⟨hk,hr⟩;refine W_T ?_;(with_reducible repeat'(first|simp (disch:=omega) only[push_cast,↓zz,seval]|apply Aa|refine sp_ ?_ ?_<;>intro hc<;>push_cast at hc|omega|intro _))
 all_goals first
  |(rw[hr,Aj (by omega),Aj (by omega)];simp;done)
  |(rw[hr,Ix (by omega) (by omega)];simp_all;done)
  |(refine⟨k+1,?_⟩
    (with_reducible repeat'(first|simp (disch:=omega) only[push_cast,↓zz,seval]|apply Aa|refine sp_ ?_ ?_<;>intro hc<;>push_cast at hc|omega|intro _))
    rw[hr,Ix (by omega) (by omega)];simp_all;done)
  |trace_state
theorem Pw(a b:List (List Int))(hl:a.length<=1000000000000)(ha:∀l∈a,l.length<=1000000000000):PC Tryz.prog 28 [EW a,EW b] (.bool (decide (a=b))):=by
 refine BA Mk ?_;unfold HZ;(with_reducible repeat'(first|simp (disch:=omega) only[push_cast,↓zz,seval]|apply Aa|refine sp_ ?_ ?_<;>intro hc<;>push_cast at hc|omega|intro _))
 ·have:a≠b:=by intro h;subst h;first|omega|simp_all
  simp[this]
 refine AQ (AX (λ(k:Nat)=>k<=a.length/\decide (a=b)=decide (a.drop k=b.drop k)) (λk=>a.length-k)
  (λk=>[(0,EW a),(1,EW b),(5,.int .i64 k)]) (λs=>[]) (λenv _=>[]) 0 (by simp) ?_ ?_)
 ·(with_reducible repeat'(first|simp (disch:=omega) only[push_cast,↓zz,seval]|apply Aa|refine sp_ ?_ ?_<;>intro hc<;>push_cast at hc|omega|intro _))
 rintro k ⟨hk,hr⟩;refine W_T ?_;(with_reducible repeat'(first|simp (disch:=omega) only[push_cast,↓zz,seval]|apply Aa|refine sp_ ?_ ?_<;>intro hc<;>push_cast at hc|(have q_:=Iy (nth a k) (nth b k) (ha _ (AL (by omega)));refine ee q_ ?_;clear q_)|(have q_:=Iy (nth a k) (nth b k) (ha _ (AL (by omega)));refine cc q_ ?_;clear q_;(simp(disch:=omega)only[push_cast,↓zz,seval]);(fail_if_success change False))|omega|intro _))
 all_goals first
  |(rw[hr,Aj (by omega),Aj (by omega)];simp;done)
  |(rw[hr,Ix (by omega) (by omega)];simp_all;done)
  |(refine⟨k+1,?_⟩
    (with_reducible repeat'(first|simp (disch:=omega) only[push_cast,↓zz,seval]|apply Aa|refine sp_ ?_ ?_<;>intro hc<;>push_cast at hc|omega|intro _))
    rw[hr,Ix (by omega) (by omega)];simp_all;done)
  |trace_state
noncomputable def askV (d:Desc) (x:List Int):Int:=if FO d≠0 then 2 else if 1024<x.length then 4 else if x.all (Ga d.in_)=true then 0 else 1
theorem Px(d:Desc)(x:List Int)(hf:IH d)(hl:x.length<=9223372036854775807)(h32:∀v∈x,-2147483648<=v/\v<=2147483647):PC Tryz.prog 59 [Cu d,A4 x] (.int .i64 (askV d x)):=by
 have hC:=z1a d hf;have hF:=λ(h:¬1024<x.length)=>z7l d.in_ x (by omega) h32;have pR:=BF d.rules;have pF:=B9 d.finals;have pI:A6 (x.map (AV.int .i32))=true:=AE .i32 _;refine BA Wu ?_;unfold Ot askV;generalize FO d=k at *;generalize x.all (Ga d.in_)=b at *;by_cases hk:k=0
 ·subst hk
  rw[Ac (by simp)];by_cases hx:1024<x.length
  ·rw[Ae hx]
   (with_reducible repeat'(first|simp (disch:=omega) only[push_cast,↓zz,seval,pR,pF,pI]|apply Aa|refine sp_ ?_ ?_<;>intro hc<;>push_cast at hc|refine ee hC ?_|(refine cc hC ?_;(simp(disch:=omega)only[push_cast,↓zz,seval,pR,pF,pI]);(fail_if_success change False))|omega|intro _))
  ·rw[Ac hx]
   have hF:=hF hx;cases b with
   |true =>
    rw[Ae rfl];(with_reducible repeat'(first|simp (disch:=omega) only[push_cast,↓zz,seval,pR,pF,pI]|apply Aa|refine sp_ ?_ ?_<;>intro hc<;>push_cast at hc|refine ee hC ?_|refine ee hF ?_|((first|refine cc hC ?_|refine cc hF ?_);(simp(disch:=omega)only[push_cast,↓zz,seval,pR,pF,pI]);(fail_if_success change False))|omega|intro _))
   |false =>
    rw[Ac (by simp)];(with_reducible repeat'(first|simp (disch:=omega) only[push_cast,↓zz,seval,pR,pF,pI]|apply Aa|refine sp_ ?_ ?_<;>intro hc<;>push_cast at hc|refine ee hC ?_|refine ee hF ?_|((first|refine cc hC ?_|refine cc hF ?_);(simp(disch:=omega)only[push_cast,↓zz,seval,pR,pF,pI]);(fail_if_success change False))|omega|intro _))
 ·rw[Ae hk]
  (with_reducible repeat'(first|simp (disch:=omega) only[push_cast,↓zz,seval,pR,pF,pI,hk]|apply Aa|refine sp_ ?_ ?_<;>intro hc<;>push_cast at hc|refine ee hC ?_|(refine cc hC ?_;(simp(disch:=omega)only[push_cast,↓zz,seval,pR,pF,pI,hk]);(fail_if_success change False))|omega|intro _))
  all_goals trace_state
abbrev Ct(d:Desc)(x:List Int)(ru fi od li:AV):AV:=.cptr (.agg [.int .i64 d.in_,.int .i64 d.out,.int .i64 d.states,.int .i64 d.start,FV d.rules,GE d.finals,A4 x,ru,fi,od,li])
def goB(x:List Int)(gs:List (List Span))(at_:Nat):Bool:=decide (gs.length+at_<=x.length)&&(List.range gs.length).all λk=>hasI (nth gs k) (nth x (at_+k))
theorem Kn{p:Nat->Bool}{k n:Nat}(h:k<n)(hp:∀j,j<k->p j=true):(p k=false->(List.range n).all p=false):=λhk=>by
 rw[List.all_eq_false];exact⟨k,by simpa using h,by simp[hk]⟩
theorem LN(d:Desc)(x:List Int)(ru fi od li:AV)(gs:List (List Span))(at_:Nat)(hr:ru.pure=true)(hfi:fi.pure=true)(ho:od.pure=true)(hli:li.pure=true)(hx:x.length<=1000000)(h32:∀v∈x,-2147483648<=v/\v<=2147483647)(hg:∀g∈gs,g.length<=1000000)(hgl:gs.length<=1000000)(ha:at_<=1000000):
 PC Tryz.prog 65 [Ct d x ru fi od li,Cv gs,.int .i64 at_] (.bool (goB x gs at_)):=by
 have pR:=BF d.rules;have pF:=B9 d.finals;have pX:A6 (x.map (AV.int .i32))=true:=AE .i32 _;have pG:=Bs gs;refine BA Mn ?_;unfold Ic;(with_reducible repeat'(first|simp (disch:=omega) only[push_cast,↓zz,seval,pR,pF,pX,pG,hr,hfi,ho,hli]|apply Aa|refine sp_ ?_ ?_<;>intro hc<;>push_cast at hc|omega|intro _))
 ·have:¬gs.length+at_<=x.length:=by omega
  simp[goB,this]
 have hfit:gs.length+at_<=x.length:=by omega
 have hgo:goB x gs at_=(List.range gs.length).all λk=>hasI (nth gs k) (nth x (at_+k)):=by simp[goB,hfit]
 rw[hgo]
 refine AQ (AX (λ(k:Nat)=>k<=gs.length/\Hold (∀j,j<k->hasI (nth gs j) (nth x (at_+j))=true)) (λk=>gs.length-k)
  (λk=>[(0,Ct d x ru fi od li),(2,.int .i64 at_),(19,Cv gs),(20,.int .i64 gs.length),(21,.int .i64 k)]) (λ_=>[]) (λ_ _=>[]) 0 ⟨by simp,⟨λj hj=>by omega⟩⟩ ?_ ?_)
 ·(with_reducible repeat'(first|simp (disch:=omega) only[push_cast,↓zz,seval,pR,pF,pX,pG,hr,hfi,ho,hli]|apply Aa|refine sp_ ?_ ?_<;>intro hc<;>push_cast at hc|omega|intro _))
 rintro k ⟨hk,⟨hall⟩⟩;rcases Ah k gs.length with hkl|hkl
 ·have hHas:=zcf (nth gs k) (nth x (at_+k)) (by have:=hg _ (AL hkl);omega)
  have hb:=h32 _ (AL (show at_+k<x.length by omega));have hcast:((at_:Int)+k).toNat=at_+k:=by omega
  generalize hge:nth gs k=g at *;have pg:=Dn g;cases hh:hasI g (nth x (at_+k)) with
  |true =>
   rw[hh] at hHas
   have hnx:Hold (∀j,j<k+1->hasI (nth gs j) (nth x (at_+j))=true):=⟨λj hj=>by
    by_cases e:j=k
    ·subst e;rw[hge];exact hh
    ·exact hall j (by omega)⟩
   clear hall;refine W_T ?_;(with_reducible repeat'(first|simp (disch:=omega) only[push_cast,↓zz,seval,pR,pF,pX,pG,hr,hfi,ho,hli,hge,pg,hcast]|apply Aa|refine sp_ ?_ ?_<;>intro hc<;>push_cast at hc|refine ee hHas ?_|(refine cc hHas ?_;(simp(disch:=omega)only[push_cast,↓zz,seval,pR,pF,pX,pG,hr,hfi,ho,hli,hge,pg,hcast]);(fail_if_success change False))|omega|intro _))
   all_goals first
    |(refine⟨k+1,?_⟩
      (with_reducible repeat'(first|simp (disch:=omega) only[push_cast,↓zz,seval,pR,pF,pX,pG,hr,hfi,ho,hli]|apply Aa|refine sp_ ?_ ?_<;>intro hc<;>push_cast at hc|omega|intro _))
      all_goals first|assumption|trace_state)
    |trace_state
  |false =>
   rw[hh] at hHas;have hno:(List.range gs.length).all (λk=>hasI (nth gs k) (nth x (at_+k)))=false:=Kn hkl hall (by rw[hge];exact hh);rw[hno];clear hall hno;refine W_T ?_;(with_reducible repeat'(first|simp (disch:=omega) only[push_cast,↓zz,seval,pR,pF,pX,pG,hr,hfi,ho,hli,hge,pg,hcast]|apply Aa|refine sp_ ?_ ?_<;>intro hc<;>push_cast at hc|refine ee hHas ?_|(refine cc hHas ?_;(simp(disch:=omega)only[push_cast,↓zz,seval,pR,pF,pX,pG,hr,hfi,ho,hli,hge,pg,hcast]);(fail_if_success change False))|omega|intro _))
 ·obtain rfl:k=gs.length:=by omega
  have hyes:(List.range gs.length).all (λk=>hasI (nth gs k) (nth x (at_+k)))=true:=AJ.2 λj hj=>hall j (by simpa using hj);rw[hyes];clear hall hyes;refine W_T ?_;(with_reducible repeat'(first|simp (disch:=omega) only[push_cast,↓zz,seval,pR,pF,pX,pG,hr,hfi,ho,hli]|apply Aa|refine sp_ ?_ ?_<;>intro hc<;>push_cast at hc|omega|intro _))
  all_goals trace_state
theorem Tn(d:Desc)(x:List Int)(ru fi od li:AV)(f:FS)(at_:Nat)(hr:ru.pure=true)(hfi:fi.pure=true)(ho:od.pure=true)(hli:li.pure=true)(hx:x.length<=1000000)(h32:∀v∈x,-2147483648<=v/\v<=2147483647)(hg:∀g∈f.guards,g.length<=1000000)(hgl:f.guards.length<=1000000)(ha:at_<=1000000):
 PC Tryz.prog 63 [Ct d x ru fi od li,QA f,.int .i64 at_] (.bool (decide (f.guards.length+at_=x.length)&&goB x f.guards at_)):=by
 have pR:=BF d.rules;have pF:=B9 d.finals;have pX:A6 (x.map (AV.int .i32))=true:=AE .i32 _;have pG:=Bs f.guards;have pT:=BP f.out;have hF:=LN d x ru fi od li f.guards at_ hr hfi ho hli hx h32 hg hgl ha;refine BA Mm ?_;unfold Ib;generalize goB x f.guards at_=b at *;by_cases he:f.guards.length+at_=x.length
 ·rw[A7 he,AF]
  have he2:(f.guards.length:Int)=(x.length:Int)-at_:=by omega
  (with_reducible repeat'(first|simp (disch:=omega) only[push_cast,↓zz,seval,pR,pF,pX,pG,pT,hr,hfi,ho,hli,he2]|apply Aa|refine sp_ ?_ ?_<;>intro hc<;>push_cast at hc|refine ee hF ?_|(refine cc hF ?_;(simp(disch:=omega)only[push_cast,↓zz,seval,pR,pF,pX,pG,pT,hr,hfi,ho,hli,he2]);(fail_if_success change False))|omega|intro _))
  all_goals first|omega|trace_state
 ·rw[AM he,AI]
  have he2:¬(f.guards.length:Int)=(x.length:Int)-at_:=by omega
  (with_reducible repeat'(first|simp (disch:=omega) only[push_cast,↓zz,seval,pR,pF,pX,pG,pT,hr,hfi,ho,hli,he2]|apply Aa|refine sp_ ?_ ?_<;>intro hc<;>push_cast at hc|refine ee hF ?_|(refine cc hF ?_;(simp(disch:=omega)only[push_cast,↓zz,seval,pR,pF,pX,pG,pT,hr,hfi,ho,hli,he2]);(fail_if_success change False))|omega|intro _))
  all_goals first|omega|trace_state
def C4(out:List Term)(w:List Int):List Int:=out.map λt=>IntKind.i32.wrap ((Ei t w).getD 0)
theorem Hi(d:Desc)(x:List Int)(ru fi od li:AV)(out:List Term)(at_ n:Nat)(hr:ru.pure=true)(hfi:fi.pure=true)(ho:od.pure=true)(hli:li.pure=true)(hx:x.length<=1000000)(h32:∀v∈x,-2147483648<=v/\v<=2147483647)(hol:out.length<=1000000)(hop:∀t∈out,t.parts.length<=1000000)(ha:at_+n<=x.length):
 PC Tryz.prog 64 [Ct d x ru fi od li,FU out,.int .i64 at_,.int .i64 n] (A4 (C4 out ((x.drop at_).take n))):=by
 have pR:=BF d.rules;have pF:=B9 d.finals;have pX:A6 (x.map (AV.int .i32))=true:=AE .i32 _;have pT:=BP out;have hwl:((x.drop at_).take n).length<=1000000:=by simp;omega
 have hw32:∀v∈(x.drop at_).take n,-2147483648<=v/\v<=2147483647:=λv hv=>h32 v (BJ (By hv));have hV:=λt (ht:t∈out)=>z0g t ((x.drop at_).take n) (by have:=hop t ht;omega) (by omega) hw32;have hmw:List.take n (List.drop at_ (x.map (AV.int .i32)))=((x.drop at_).take n).map (AV.int .i32):=by rw[List.map_take,List.map_drop]
 have hcat:((at_:Int)+n).toNat=at_+n:=by omega
 have pW:A6 (((x.drop at_).take n).map (AV.int .i32))=true:=AE .i32 _;have hdt:List.drop at_ (List.take (at_+n) x)=(x.drop at_).take n:=by rw[List.drop_take];simp
 have e0:∀w,C4 [] w=[]:=λ_=>rfl;have wl:∀w,(C4 out w).length=out.length:=λw=>by simp[C4]
 have wt:∀w,List.take out.length (C4 out w)=C4 out w:=λw=>Al (by rw[wl];exact Af _);refine BA K7 ?_;unfold Hq;(with_reducible repeat'(first|simp (disch:=omega) only[push_cast,↓zz,seval,pR,pF,pX,pT,hr,hfi,ho,hli]|apply Aa|refine sp_ ?_ ?_<;>intro hc<;>push_cast at hc|omega|intro _))
 refine AQ (AX (λ(k:Nat)=>k<=out.length) (λk=>out.length-k)
  (λk=>[(0,Ct d x ru fi od li),(2,.int .i64 at_),(3,.int .i64 n),(9,.ref 0 1 0 k),(14,FU out),(15,.int .i64 out.length),(16,.int .i64 k)]) (λk=>[⟨1,1,false,(C4 (out.take k) ((x.drop at_).take n)).map (AV.int .i32)⟩]) (λenv _=>[Cf 1 (env 9)]) 0 (by simp) ?_ ?_)
 ·(with_reducible repeat'(first|simp (disch:=omega) only[push_cast,↓zz,seval,pR,pF,pX,pT,hr,hfi,ho,hli,e0]|apply Aa|refine sp_ ?_ ?_<;>intro hc<;>push_cast at hc|omega|intro _))
 intro k hk;have hlk:(C4 (out.take k) ((x.drop at_).take n)).length=k:=by simp[C4];omega
 have pL:A6 ((C4 (out.take k) ((x.drop at_).take n)).map (AV.int .i32))=true:=AE .i32 _;rcases Ah k out.length with hkl|hkl
 ·have hVk:=hV _ (AL hkl)
  have e1:C4 (out.take (k+1)) ((x.drop at_).take n)=C4 (out.take k) ((x.drop at_).take n)++[IntKind.i32.wrap ((Ei (nth out k) ((x.drop at_).take n)).getD 0)]:=by rw[C4,take_at hkl,Az];rfl
  generalize hte:nth out k=t at *;have pP:=GF t.parts;generalize C4 (out.take k) ((x.drop at_).take n)=L at *;refine W_T ?_;(with_reducible repeat'(first|simp (disch:=omega) only[push_cast,↓zz,seval,pR,pF,pX,pT,hr,hfi,ho,hli,hte,pP,hmw,hcat,pW,hdt]|apply Aa|refine sp_ ?_ ?_<;>intro hc<;>push_cast at hc|refine ee hVk ?_|(refine cc hVk ?_;(simp(disch:=omega)only[push_cast,↓zz,seval,pR,pF,pX,pT,hr,hfi,ho,hli,hte,pP,hmw,hcat,pW,hdt]);(fail_if_success change False))|omega|intro _))
  all_goals
   refine⟨k+1,?_⟩;(with_reducible repeat'(first|simp (disch:=omega) only[push_cast,↓zz,seval,e1,pL,pR,pF,pX,pT,hr,hfi,ho,hli]|apply Aa|refine sp_ ?_ ?_<;>intro hc<;>push_cast at hc|omega|intro _))
 ·obtain rfl:k=out.length:=by omega
  have et:out.take out.length=out:=Al (by omega);rw[et] at hlk pL ⊢;refine W_T ?_;(with_reducible repeat'(first|simp (disch:=omega) only[push_cast,↓zz,seval,pR,pF,pX,pT,hr,hfi,ho,hli,pL,et,wl,wt]|apply Aa|refine sp_ ?_ ?_<;>intro hc<;>push_cast at hc|omega|intro _))
  all_goals trace_state
def ltW:List Int->List Int->Bool
 |[],[]=>false
 |[],_::_=>true
 |_::_,[]=>false
 |a::l,b::m=>if a<b then true else if b<a then false else ltW l m
theorem Fa:∀a,ltW a a=false
 |[]=>rfl
 |a::l=>by simp[ltW,Fa l]
theorem Gb:∀a b c,ltW a b=true->ltW b c=true->ltW a c=true
 |[],[],_,h,_=>by simp[ltW] at h
 |[],b::m,[],_,h=>by simp[ltW] at h
 |[],_::_,_::_,_,_=>rfl
 |_::_,[],_,h,_=>by simp[ltW] at h
 |_::_,_::_,[],_,h=>by simp[ltW] at h
 |a::l,b::m,c::n,h1,h2=>by
  simp only[ltW] at h1 h2 ⊢;split at h1
  ·split at h2
   ·rw[Ae (by omega)]
   ·split at h2
    ·cases h2
    ·rw[Ae (by omega)]
  ·split at h1
   ·cases h1
   ·split at h2
    ·rw[Ae (by omega)]
    ·split at h2
     ·cases h2
     ·rw[Ac (by omega),Ac (by omega)]
      exact Gb l m n h1 h2
theorem Iz:∀a b,ltW a b=false->ltW b a=false->a=b
 |[],[],_,_=>rfl
 |[],_::_,h,_=>by simp[ltW] at h
 |_::_,[],_,h=>by simp[ltW] at h
 |a::l,b::m,h1,h2=>by
  have e1:¬a<b:=λh=>by simp[ltW,h] at h1
  have e2:¬b<a:=λh=>by simp[ltW,h] at h2
  rw[ltW,Ac e1,Ac e2] at h1;rw[ltW,Ac e2,Ac e1] at h2;have:a=b:=by omega
  rw[this,Iz l m h1 h2]
def Hx(l:List (List Int)):Prop:=l.Pairwise λa b=>ltW a b=true
theorem To:∀{l m:List (List Int)},Hx l->Hx m->(∀w,w∈l↔w∈m)->l=m
 |[],[],_,_,_=>rfl
 |[],b::m,_,_,h=>by have:=(h b).2 (by simp);cases this
 |a::l,[],_,_,h=>by have:=(h a).1 (by simp);cases this
 |a::l,b::m,h1,h2,h=>by
  rw[Hx,A9] at h1 h2
  have e:a=b:=by
   rcases Ai.1 ((h a).1 (by simp)) with e|ha
   ·exact e
   ·rcases Ai.1 ((h b).2 (by simp)) with e|hb
    ·exact e.symm
    ·have k1:=h1.1 b hb
     have k2:=h2.1 a ha;have:=Gb _ _ _ k1 k2;rw[Fa] at this;cases this
  subst e;have hna:a∉l:=λhm=>by have:=h1.1 a hm;rw[Fa] at this;cases this
  have hnb:a∉m:=λhm=>by have:=h2.1 a hm;rw[Fa] at this;cases this
  rw[To (l:=l) (m:=m) h1.2 h2.2 λw=>?_];constructor
  ·intro hw
   rcases Ai.1 ((h w).1 (by simp[hw])) with e|e
   ·subst e;exact absurd hw hna
   ·exact e
  ·intro hw
   rcases Ai.1 ((h w).2 (by simp[hw])) with e|e
   ·subst e;exact absurd hw hnb
   ·exact e
def insU(w:List Int):List (List Int)->List (List Int)
 |[]=>[w]
 |a::l=>if ltW w a=true then w::a::l else if ltW a w=true then a::insU w l else a::l
theorem N7(w:List Int):∀(l:List (List Int))(v:List Int),v∈insU w l↔v=w\/v∈l
 |[],v=>by simp[insU]
 |a::l,v=>by
  simp only[insU];split
  ·simp
  ·split
   ·rw[Ai,N7 w l v,Ai]
    constructor
    ·rintro (h|h|h)
     ·exact .inr (.inl h)
     ·exact .inl h
     ·exact .inr (.inr h)
    ·rintro (h|h|h)
     ·exact .inr (.inl h)
     ·exact .inl h
     ·exact .inr (.inr h)
   ·rename_i h1 h2
    have e:w=a:=Iz w a (by simpa using h1) (by simpa using h2);subst e;simp
theorem Py(w:List Int):∀{l:List (List Int)},Hx l->Hx (insU w l)
 |[],_=>Em _ _
 |a::l,h=>by
  have h':=h;rw[Hx,A9] at h';simp only[insU];split
  ·rename_i h1
   refine A9.2 ⟨λv hv=>?_,h⟩;rcases Ai.1 hv with rfl|hv
   ·exact h1
   ·exact Gb _ _ _ h1 (h'.1 v hv)
  ·split
   ·rename_i h2
    refine A9.2 ⟨λv hv=>?_,Py w h'.2⟩;rcases (N7 w l v).1 hv with rfl|hv
    ·exact h2
    ·exact h'.1 v hv
   ·exact h
def J1(l:List (List Int)):List (List Int):=l.foldr insU []
theorem J2:∀(l:List (List Int))(v:List Int),v∈J1 l↔v∈l
 |[],v=>Iff.rfl
 |a::l,v=>by
  show v∈insU a (J1 l)↔_;rw[N7,J2 l v,Ai]
theorem JU:∀(l:List (List Int)),Hx (J1 l)
 |[]=>List.Pairwise.nil
 |a::l=>Py a (JU l)
theorem Zm{l m:List (List Int)}(h1:Hx m)(h2:∀w,w∈m↔w∈l):J1 l=m:=To (JU l) h1 λw=>(J2 l w).trans (h2 w).symm
theorem Tp(w:List Int):∀l:List (List Int),(insU w l).length<=l.length+1
 |[]=>by simp[insU]
 |a::l=>by
  have:=Tp w l;simp only[insU];repeat' split
  all_goals simp;try omega
theorem V2:∀l:List (List Int),(J1 l).length<=l.length
 |[]=>Af _
 |a::l=>by
  have:=V2 l;have h2:=Tp a (J1 l);show (insU a (J1 l)).length<=_;simp;omega
theorem IK{α:Type}:∀{l m:List α},l.Nodup->(∀w∈l,w∈m)->l.length<=m.length
 |[],m,_,_=>Aw _
 |a::l,m,hn,h=>by
  obtain⟨s,t,rfl⟩:=List.append_of_mem (h a (by simp));rw[BO] at hn
  have:=IK (l:=l) (m:=s++t) hn.2 λw hw=>by
   have:=h w (by simp[hw]);simp only[Am,Ai] at this ⊢;rcases this with h1|h1|h1
   ·exact .inl h1
   ·subst h1;exact absurd hw hn.1
   ·exact .inr h1
  simp only[An,List.length_cons] at this ⊢;omega
def epsI(l:List Rule)(s:Int):List Nat:=(List.range l.length).filter λi=>Dr (nth l i)&&decide ((nth l i).from_=s)
theorem Tq{l:List Rule}{s:Int}{i:Nat}:i∈epsI l s↔i<l.length/\Dr (nth l i)=true/\(nth l i).from_=s:=by
 simp[epsI]
def okP(l:List Rule):Int->List Nat->Prop
 |_,[]=>True
 |s,i::p=>i∈epsI l s/\okP l (nth l i).to_ p
def endP(l:List Rule):Int->List Nat->Int
 |s,[]=>s
 |_,i::p=>endP l (nth l i).to_ p
theorem zog{l:List Rule}{on:Nat->Bool}{i j:Nat}(hi:i<l.length)(he:Dr (nth l i)=true)(ho:on (nth l i).from_.toNat=true)(ht:(nth l i).to_=j):onF l on j=true:=by
 rw[onF,B8];exact⟨nth l i,AL hi,by simp[he,ho,ht]⟩
theorem zfq{l:List Rule}{n:Nat}(hl:∀r∈l,(0<=r.from_/\r.from_<n)/\0<=r.to_/\r.to_<n):∀(p:List Nat)(k:Nat)(s:Int),0<=s->onK l k s.toNat=true->okP l s p->onK l (k+p.length) (endP l s p).toNat=true
 |[],k,s,_,ho,_=>ho
 |i::p,k,s,hs,ho,hp=>by
  obtain⟨h1,h2,h3⟩:=Tq.1 hp.1;have hr:=hl _ (AL h1);have ht:onK l (k+1) (nth l i).to_.toNat=true:=zog h1 h2 (by rw[h3];exact ho) (by omega);have:=zfq hl p (k+1) (nth l i).to_ hr.2.1 ht hp.2;rw[List.length_cons,show k+(p.length+1)=k+1+p.length by omega];exact this
theorem z7m{l:List Rule}{n:Nat}(hl:∀r∈l,(0<=r.from_/\r.from_<n)/\0<=r.to_/\r.to_<n)(hc:¬cycP l n){s:Int}(hs:0<=s){p:List Nat}(hp:okP l s p):p.length<=n+1:=by
 have hcr:¬cycR l n=true:=λh=>hc ((YD hl).1 h)
 have:∃k,k<=n/\JZ l (onK l k)=false:=by
  refine AU λhh=>hcr ?_;rw[cycR,AJ];intro k hk;refine AU λh2=>hh ⟨k,by simp at hk;omega,by simpa using h2⟩
 obtain⟨k,hk,hkf⟩:=this
 have hno:∀j,onK l (k+1) j=false:=λj=>by
  refine AU λhh=>?_;have h1:onF l (onK l k) j=true:=by simpa [onK] using hh
  rw[onF,B8] at h1;obtain⟨r,hr,h2⟩:=h1;simp only[Ab] at h2
  have:JZ l (onK l k)=true:=by
   rw[JZ,B8];exact⟨r,hr,by simp[h2.1,h2.2.1]⟩
  rw[hkf] at this;cases this
 refine AU λhlen=>?_;have h1:=zfq hl p 0 s hs rfl hp;rw[Ba] at h1
 have down:∀m j,onK l (k+1+m) j=true->onK l (k+1) j=true:=λm=>by
  induction m with
  |zero=>exact λj h=>h
  |succ m ih=>exact λj h=>ih j (SN l _ j h)
 have:=down (p.length-(k+1)) (endP l s p).toNat (by rw[show k+1+(p.length-(k+1))=p.length by omega];exact h1);rw[hno] at this;cases this
theorem N8(l:List Rule):∀(s:Int)(p q:List Nat),endP l s (p++q)=endP l (endP l s p) q
 |s,[],q=>rfl
 |s,i::p,q=>N8 l _ p q
theorem Tr(l:List Rule):∀(s:Int)(p q:List Nat),okP l s (p++q)↔okP l s p/\okP l (endP l s p) q
 |s,[],q=>by simp[okP,endP]
 |s,i::p,q=>by simp[okP,endP,Tr l _ p q,and_assoc]
def CM(x:List Int)(out:List Term)(gs:List (List Span))(at_:Nat):List Int:=C4 out ((x.drop at_).take gs.length)
inductive RelW(d:Desc)(x:List Int):Nat->Int->List Int->Prop
 |fin {at_:Nat} {s:Int} (f:FS):f∈d.finals->f.from_=s->f.guards.length+at_=x.length->goB x f.guards at_=true->RelW d x at_ s (CM x f.out f.guards at_)
 |step {at_:Nat} {s:Int} (r:Rule) (w:List Int):r∈d.rules->r.from_=s->goB x r.guards at_=true->RelW d x (at_+r.eat.toNat) r.to_ w->RelW d x at_ s (CM x r.out r.guards at_++w)
theorem JV{d:Desc}{x:List Int}{at_:Nat}{s:Int}{w:List Int}:RelW d x at_ s w ↔
 (∃f∈d.finals,f.from_=s/\(f.guards.length+at_=x.length/\goB x f.guards at_=true)/\w=CM x f.out f.guards at_) \/
 ∃r∈d.rules,r.from_=s/\goB x r.guards at_=true/\∃v,RelW d x (at_+r.eat.toNat) r.to_ v/\w=CM x r.out r.guards at_++v:=by
 constructor
 ·rintro (⟨f,h1,h2,h3,h4⟩|⟨r,v,h1,h2,h3,h4⟩)
  ·exact .inl ⟨f,h1,h2,⟨h3,h4⟩,rfl⟩
  ·exact .inr ⟨r,h1,h2,h3,v,h4,rfl⟩
 ·rintro (⟨f,h1,h2,⟨h3,h4⟩,rfl⟩|⟨r,h1,h2,h3,v,h4,rfl⟩)
  ·exact .fin f h1 h2 h3 h4
  ·exact .step r v h1 h2 h3 h4
def Kb(d:Desc)(x:List Int)(at_:Nat)(s:Int)(L:List (List Int)):Prop:=Hx L/\∀w,w∈L↔RelW d x at_ s w
theorem zdf{d:Desc}{x:List Int}{at_:Nat}{s:Int}{L M:List (List Int)}(h1:Kb d x at_ s L)(h2:Kb d x at_ s M):L=M:=To h1.1 h2.1 λw=>(h1.2 w).trans (h2.2 w).symm
def outL(d:Desc)(x:List Int)(S:Nat->Int->List (List Int))(at_:Nat)(s:Int):List (List Int) :=
 ((d.finals.filter λf=>decide (f.from_=s)&&(decide (f.guards.length+at_=x.length)&&goB x f.guards at_)).map λf=>CM x f.out f.guards at_) ++
 (d.rules.filter λr=>decide (r.from_=s)&&goB x r.guards at_).flatMap λr=>(S (at_+r.eat.toNat) r.to_).map (CM x r.out r.guards at_++·)
theorem zdg{d:Desc}{x:List Int}{S:Nat->Int->List (List Int)}{at_:Nat}{s:Int}(h:∀r∈d.rules,r.from_=s->goB x r.guards at_=true->∀v,v∈S (at_+r.eat.toNat) r.to_↔RelW d x (at_+r.eat.toNat) r.to_ v)(w:List Int):w∈outL d x S at_ s↔RelW d x at_ s w:=by
 rw[JV,outL,Am,Ar,Cs];constructor
 ·rintro (⟨f,hf,rfl⟩|⟨r,hr,hw⟩)
  ·obtain⟨h1,h2⟩:=AW.1 hf
   simp only[Ab,Ad] at h2;exact .inl ⟨f,h1,h2.1,h2.2,rfl⟩
  ·obtain⟨h1,h2⟩:=AW.1 hr
   simp only[Ab,Ad] at h2;obtain⟨v,hv,rfl⟩:=Ar.1 hw;exact .inr ⟨r,h1,h2.1,h2.2,v,(h r h1 h2.1 h2.2 v).1 hv,rfl⟩
 ·rintro (⟨f,h1,h2,h3,rfl⟩|⟨r,h1,h2,h3,v,hv,rfl⟩)
  ·exact .inl ⟨f,AW.2 ⟨h1,by simp[h2,h3.1,h3.2]⟩,rfl⟩
  ·exact .inr ⟨r,AW.2 ⟨h1,by simp[h2,h3]⟩,Ar.2 ⟨v,(h r h1 h2 h3 v).2 hv,rfl⟩⟩
theorem Ts{d:Desc}{x:List Int}{S:Nat->Int->List (List Int)}{at_:Nat}{s:Int}(h:∀r∈d.rules,r.from_=s->goB x r.guards at_=true->Kb d x (at_+r.eat.toNat) r.to_ (S (at_+r.eat.toNat) r.to_)):Kb d x at_ s (J1 (outL d x S at_ s)) :=
 ⟨JU _,λw=>(J2 _ w).trans (zdg (λr h1 h2 h3 v=>(h r h1 h2 h3).2 v) w)⟩
structure Topo(l:List Rule)(n:Nat)(ord:List Nat):Prop where
 nodup:ord.Nodup
 all:∀s,s∈ord↔s<n
 eps:∀i,i<ord.length->∀r∈l,Dr r=true->r.from_=(nth ord i:Nat)->∃t:Nat,r.to_=t/\t∈ord.take i
structure Goes(d:Desc)(n:Nat):Prop where
 r:∀r∈d.rules,(0<=r.from_/\r.from_<n)/\(0<=r.to_/\r.to_<n)/\r.eat.toNat<=r.guards.length/\(Dr r=false->1<=r.eat.toNat)
theorem FE{x:List Int}{gs:List (List Span)}{at_:Nat}(h:goB x gs at_=true):gs.length+at_<=x.length:=by
 simp only[goB,Ab,Ad] at h;exact h.1
theorem z7n{d:Desc}{n:Nat}(hg:Goes d n){r:Rule}(hr:r∈d.rules)(he:Dr r=true):r.eat.toNat=0:=by
 have h1:=(hg.r r hr).2.2.1;simp only[Dr,Ad] at he;omega
theorem zoh{d:Desc}{n:Nat}{x:List Int}{ord:List Nat}(hg:Goes d n)(ht:Topo d.rules n ord):∀(k at_:Nat),x.length-at_<k->at_<=x.length->∀s:Nat,s<n->∃L,Kb d x at_ s L:=by
 intro k
 induction k with
 |zero=>intro at_ h;omega
 |succ k ih =>
  intro at_ hk ha
  have key:∀i,i<=ord.length->∀s:Nat,s∈ord.take i->∃L,Kb d x at_ s L:=λi=>by
   induction i with
   |zero=>intro _ s hs;simp at hs
   |succ i ihi =>
    intro hi s hs;rw[take_at (by omega),Am,Ao] at hs;rcases hs with hs|rfl
    ·exact ihi (by omega) s hs
    ·have hnx:∀r∈d.rules,r.from_=(nth ord i:Nat)->goB x r.guards at_=true->∃L,Kb d x (at_+r.eat.toNat) r.to_ L:=λr hr hf hgo=>by
      obtain⟨_,⟨t1,t2⟩,e1,e2⟩:=hg.r r hr;have hle:=FE hgo;cases he:Dr r with
      |true =>
       obtain⟨t,h1,h2⟩:=ht.eps i (by omega) r hr he hf;rw[z7n hg hr he,h1,Nat.add_zero];exact ihi (by omega) t h2
      |false =>
       have:=e2 he;have h3:=ih (at_+r.eat.toNat) (by omega) (by omega) r.to_.toNat (by omega)
       rwa [Bl t1] at h3
     classical
     exact⟨_,Ts (S:=λa t=>if h:∃L,Kb d x a t L then h.choose else []) λr hr hf hgo=>by
      have h:=hnx r hr hf hgo;simp only[dif_pos h]
      exact h.choose_spec⟩
  intro s hs;exact key ord.length (Af _) s (by rw[A3];exact (ht.all s).2 hs)
open Classical in
noncomputable def outW (d:Desc) (x:List Int) (at_:Nat) (s:Int):List (List Int):=if h:∃L,Kb d x at_ s L then h.choose else []
theorem V3{d:Desc}{x:List Int}{at_:Nat}{s:Int}(h:∃L,Kb d x at_ s L):Kb d x at_ s (outW d x at_ s):=by
 rw[outW,dif_pos h];exact h.choose_spec
theorem Xp{d:Desc}{x:List Int}{at_:Nat}{s:Int}{L:List (List Int)}(h:Kb d x at_ s L):outW d x at_ s=L:=zdf (V3 ⟨L,h⟩) h
inductive V4(d:Desc)(x:List Int):Nat->Int->List Int->Nat->Int->Prop
 |here {at_:Nat} {s:Int}:V4 d x at_ s [] at_ s
 |step {at_:Nat} {s:Int} {u:List Int} {a:Nat} {t:Int} (r:Rule):V4 d x at_ s u a t->r∈d.rules->r.from_=t->goB x r.guards a=true->V4 d x at_ s (u++CM x r.out r.guards a) (a+r.eat.toNat) r.to_
theorem Zn{d:Desc}{x:List Int}{at_:Nat}{s:Int}{u:List Int}{a:Nat}{t:Int}(h:V4 d x at_ s u a t):∀{w:List Int},RelW d x a t w->RelW d x at_ s (u++w):=by
 induction h with
 |here=>intro w hw;exact hw
 |step r _ h1 h2 h3 ih =>
  intro w hw;rw[Av];exact ih (.step r w h1 h2 h3 hw)
theorem Zo{d:Desc}{x:List Int}{at_:Nat}{s:Int}{u:List Int}{a:Nat}{t:Int}(h:V4 d x at_ s u a t){L M:List (List Int)}(hL:Kb d x a t L)(hM:Kb d x at_ s M):L.length<=M.length:=by
 have h1:(L.map (u++·)).length<=M.length:=by
  refine IK ?_ λw hw=>?_
  ·have hn:L.Nodup:=List.Pairwise.imp (λ{a b} hab (e:a=b)=>by subst e;rw[Fa] at hab;cases hab) hL.1
   exact List.Pairwise.map _ (λa b hab (e:u++a=u++b)=>hab (List.append_cancel_left e)) hn
  ·obtain⟨v,hv,rfl⟩:=Ar.1 hw
   exact (hM.2 _).2 (Zn h ((hL.2 v).1 hv))
 simpa using h1
section
variable {α:Type}(w:Nat)(e:α->AV)
def gG(v:Nat)(l:List α):Grp:=⟨w,v,l.isEmpty,l.map e⟩
def fF(n:Nat)(V:Nat->Nat)(D:Nat->List α):List Grp:=(List.range n).map λi=>gG w e (V i) (D i)
def fT(o n:Nat)(V:Nat->Nat)(D:Nat->List α):List AV:=(List.range n).map λi=>AV.ref (i+o) (V i) 0 (D i).length
def fD(n:Nat)(D:Nat->List α):List AV:=(List.range n).map λi=>AV.lst w ((D i).map e)
def setD(D:Nat->List α)(i:Nat)(l:List α)(p:Nat):List α:=if p=i then l else D p
variable {w e}{n o i:Nat}{V:Nat->Nat}{D:Nat->List α}
theorem Rr:(fF w e n V D).length=n:=by simp[fF]
theorem zfr:(fT o n V D).length=n:=by simp[fT]
theorem Nl:(fD w e n D).length=n:=by simp[fD]
theorem zdh(h:i<n):(fF w e n V D).getD i default=gG w e (V i) (D i):=Cq h
theorem zoi{z:AV}(h:i<n):(fT o n V D).getD i z=.ref (i+o) (V i) 0 (D i).length:=Cq h
theorem V5{z:AV}(h:i<n):(fD w e n D).getD i z=.lst w ((D i).map e):=Cq h
theorem Nm(h:i<n):(fD w e n D)[i]? = some (.lst w ((D i).map e)):=by simp[fD,h]
theorem CU(he:∀x,(e x).pure=true)(l:List α):A6 (l.map e)=true:=BQ.2 λx hx=>by
 obtain⟨y,_,rfl⟩:=Ar.1 hx;exact he y
theorem Er(he:∀x,(e x).pure=true):A6 (fD w e n D)=true:=BQ.2 λx hx=>by
 obtain⟨i,_,rfl⟩:=Ar.1 hx;exact CU he _
theorem zfs{l:List α}(h:i<n):(fT o n V D).set i (.ref (i+o) (V i+1) 0 l.length)=fT o n (setV V i (V i+1)) (setD D i l):=by
 rw[fT,CJ h,fT];refine AD λj _=>?_;by_cases hj:j=i
 ·subst hj;simp[setV,setD]
 ·simp[setV,setD,hj]
theorem zft{l:List α}(hl:l≠[])(h:i<n):(fF w e n V D).set i ⟨w,V i+1,false,l.map e⟩=fF w e n (setV V i (V i+1)) (setD D i l):=by
 rw[fF,CJ h,fF];refine AD λj _=>?_;by_cases hj:j=i
 ·subst hj
  cases l with
  |nil=>exact absurd rfl hl
  |cons a l=>simp[setV,setD,gG]
 ·simp[setV,setD,hj,gG]
theorem zk9(l:List α):(!l.isEmpty||(l.map e).isEmpty)=true:=by cases l<;>rfl
theorem zfu{F R:List Grp}(hF:F.length=n)(h:i<n):(F++R).getD i default=F.getD i default:=by
 rw[Ap,A8 (by omega),<-Ap]
theorem zka{F R:List Grp}(hF:F.length=n)(k:Nat):(F++R).getD (n+k) default=R.getD k default:=by
 rw[Ap,AB (by omega),<-Ap];congr 1;omega
theorem N9{F R:List Grp}(hF:F.length=n):(F++R).getD n default=R.getD 0 default:=by
 have:=zka (R:=R) hF 0;simpa using this
theorem Xq{G:Grp}:∀{F R:List Grp}{i:Nat},i<F.length->setQ (F++R) i G=some (F.set i G++R)
 |[],_,_,h=>by simp at h
 |a::F,R,0,h=>rfl
 |a::F,R,i+1,h=>by rw[List.cons_append,setQ,Xq (by simpa using h)];rfl
theorem Zp{G:Grp}:∀(F R:List Grp){n:Nat}(k:Nat),F.length=n->setQ (F++R) (n+k) G=(setQ R k G).map (F++·)
 |[],R,n,k,h=>by
  obtain rfl:n=0:=by simpa using h.symm
  rw[Ba,List.nil_append];cases setQ R k G<;>rfl
 |a::F,R,n,k,h=>by
  obtain⟨m,rfl⟩:∃m,n=m+1:=⟨n-1,by simp at h;omega⟩;rw[show m+1+k=m+k+1 by omega,List.cons_append,setQ,Zp F R k (by simpa using h)];cases setQ R k G<;>rfl
theorem V6{G:Grp}(F R:List Grp){n:Nat}(h:F.length=n):setQ (F++R) n G=(setQ R 0 G).map (F++·):=by
 have:=Zp (G:=G) F R 0 h;simpa using this
theorem Zq{ks:List Nat}{F R:List Grp}{G:Grp}{p i:Nat}(hi:i<F.length)(h:p+i∈ks):Dg p ks (F++R) (F.set i G++R):=by
 rw[<-ES _ _ hi];exact KD h
theorem zoj:fF w e n (λ_=>1) (λ_=>[])=(List.replicate n w).map IT:=by
 rw[Du];refine BI (by simp[fF]) λi h1 h2=>?_;simp only[fF,EN,Es,List.getElem_replicate];rfl
theorem zkb{l:List Grp}{o n:Nat}(hw:0<w)(h:∀i,i<n->l.getD (i+o) default=IT w/\i+o<l.length):leSL l (List.replicate n .nilS) (fT o n (λ_=>1) λ_=>([]:List α)):=by
 have key:∀idx:List Nat,(∀i∈idx,i<n)->leSL l (List.replicate idx.length .nilS) (idx.map λi=>AV.ref (i+o) 1 0 0):=λidx=>by
  induction idx with
  |nil=>exact λ_=>rfl
  |cons i idx ih =>
   intro hi;obtain⟨h1,h2⟩:=h i (hi i (by simp));refine⟨?_,ih λj hj=>hi j (by simp[hj])⟩;show 0=0/\0=0/\(l.getD (i+o) default).ver=1/\0<(l.getD (i+o) default).w/\(l.getD (i+o) default).xs=[]/\(l.getD (i+o) default).exact=true/\i+o<l.length;rw[h1];exact⟨rfl,rfl,rfl,hw,rfl,rfl,h2⟩
 have:=key (List.range n) λi hi=>by simpa using hi
 rwa [CG] at this
theorem zfv{m o:Nat}(h:n+o<=m):ltL m (fT o n V D):=by
 have key:∀(l:List Nat),(∀i∈l,i<n)->ltL m (l.map λi=>AV.ref (i+o) (V i) 0 (D i).length):=λl=>by
  induction l with
  |nil=>exact λ_=>trivial
  |cons i l ih =>
   intro h';exact⟨by have:=h' i (by simp);show i+o<_;omega,ih λj hj=>h' j (by simp[hj])⟩
 exact key _ λi hi=>by simpa using hi
theorem zfw{m:Nat}(he:∀x,(e x).pure=true):∀G∈fF w e n V D,ltL m G.xs:=λG hG=>by
 obtain⟨i,_,rfl⟩:=Ar.1 hG;exact C0 _ _ (CU he _)
theorem Rs(l0:List Grp){G':Grp}:∀{l:List Grp}{t:Nat},t<l.length->z43 l0 (l.getD t default) G'->HV l0 l (l.set t G')
 |[],_,h,_=>by simp at h
 |a::l,0,_,h=>⟨h,KE l0 l⟩
 |a::l,t+1,hl,h=>⟨⟨rfl,rfl,id,Bc _ _⟩,Rs l0 (by simpa using hl) (by simpa using h)⟩
theorem z7o{m b t v:Nat}{env:Env}{l:List Grp}{ex:Bool}(hw:0<w)(ht:t<l.length)(hg:l.getD t default=⟨1,v,ex,List.replicate n .nilS⟩):
 Ent m b env (Abs.hl l) env (Abs.hl (l.set t ⟨1,v,ex,fT l.length n (λ_=>1) λ_=>([]:List α)⟩++fF w e n (λ_=>1) λ_=>[])):=by
 refine (Y4 (List.replicate n w) (λx hx=>by have:=(List.mem_replicate.1 hx).2;omega)).trans (z5c ?_ λi _=>CS _ _);rw[zoj,<-ES _ _ ht];refine Rs _ (by simp;omega) ?_;rw[Ap,A8 ht,<-Ap,hg];refine⟨rfl,rfl,id,zkb hw λi hi=>⟨?_,by simp;omega⟩⟩;rw[Ap,AB (by omega),Du];simp[hi]
def fKs(t o n:Nat):List Nat:=t::(List.range n).map (·+o)
theorem z7p{t i:Nat}(h:i<n):i+o∈fKs t o n:=Ai.2 (.inr (Ar.2 ⟨i,Bf.2 h,rfl⟩))
theorem KH{t g:Nat}(h:g≠t)(h2:g<o\/o+n<=g):g∉fKs t o n:=λhh=>by
 rcases Ai.1 hh with hh|hh
 ·exact h hh
 ·obtain⟨i,hi,rfl⟩:=Ar.1 hh
  have:=Bf.1 hi;omega
theorem z7q{H:Ax}{t v:Nat}(hw:0<w)(he:∀x,(e x).pure=true)(h1:H.at_ t=⟨1,v,true,fT o n V D⟩)(h2:∀i,i<n->H.at_ (i+o)=gG w e (V i) (D i)):
 Dv 2 (H.only (fKs t o n)) (.ref t v 0 n)/\frzV 2 (H.only (fKs t o n)) (.ref t v 0 n)=.lst 1 (fD w e n D):=by
 have hat1:(H.only (fKs t o n)).at_ t=⟨1,v,true,fT o n V D⟩:=by
  show (if t∈fKs t o n then H.at_ t else (H.at_ t).dead)=_;rw[Ae (by simp[fKs]),h1]
 have hat:∀i,i<n->(H.only (fKs t o n)).at_ (i+o)=gG w e (V i) (D i):=λi hi=>by
  show (if i+o∈fKs t o n then H.at_ (i+o) else (H.at_ (i+o)).dead)=_;rw[Ae (z7p hi),h2 i hi]
 have htl:(((fT o n V D).drop 0).take n)=fT o n V D:=by
  rw[Cd];exact Al (by simp[fT])
 have hz:∀x,frzV 0 (H.only (fKs t o n)) x=x:=λx=>rfl;constructor
 ·refine⟨by rw[hat1],by rw[hat1];exact Nat.one_pos,by rw[hat1];simp[fT],λy hy=>?_⟩
  rw[hat1,htl] at hy;obtain⟨i,hi,rfl⟩:=Ar.1 hy;have hi':i<n:=by simpa using hi
  refine⟨by rw[hat i hi'];rfl,by rw[hat i hi'];exact hw,by rw[hat i hi'];simp[gG],λz hz=>?_⟩;rw[hat i hi'] at hz;obtain⟨u,_,rfl⟩:=Ar.1 (BJ (By hz));exact he u
 ·show AV.lst _ _=_
  rw[hat1,htl,fT,Do];congr 1;refine AD λi hi=>?_;have hi':i<n:=by simpa using hi
  show AV.lst _ _=_;rw[hat i hi']
  have e1:(((gG w e (V i) (D i)).xs.drop 0).take (D i).length).map (frzV 0 (H.only (fKs t o n)))=(D i).map e:=by
   rw[Cd,Al (by simp[gG])];refine (AD λx hx=>?_).trans (List.map_id _);exact hz x
  rw[e1];rfl
theorem z7r{F:List Grp}{t o:Nat}:∀{i:Nat},(∀j,j<F.length->i+j∈fKs t o n)->Fv i (fKs t o n) F=F.map Grp.dead:=by
 induction F with
 |nil=>intro i _;rfl
 |cons G F ih =>
  intro i h
  rw[Fv,Ae (by have:=h 0 (by simp);simpa using this),Bj,ih λj hj=>by
   have:=h (j+1) (by simpa using hj)
   rwa [show i+1+j=i+(j+1) by omega]]
theorem V7(ks:List Nat):∀(i:Nat)(l r:List Grp),Fv i ks (l++r)=Fv i ks l++Fv (i+l.length) ks r
 |i,[],r=>by simp[Fv]
 |i,G::l,r=>by
  rw[List.cons_append,Fv,Fv,V7 ks (i+1) l r,List.cons_append,List.length_cons,show i+1+l.length=i+(l.length+1) by omega]
end
def Zr(m:Nat)(env:Env):List (Nat × AV)->Prop
 |[]=>True
 |(t,y)::r=>env t=y/\ltV m y/\Zr m env r
theorem Rt{m:Nat}{env:Env}:∀{L:List (Nat × AV)},Zr m env L->∀p∈L,env p.1=p.2
 |[],_,p,hp=>by cases hp
 |(t,y)::r,h,p,hp=>by
  rcases Ai.1 hp with rfl|hp
  ·exact h.1
  ·exact Rt h.2.2 p hp
theorem V8{m:Nat}{env:Env}:∀{L:List (Nat × AV)},Zr m env L->∀i,ltV m (EI L i)
 |[],_,i=>trivial
 |(t,y)::r,h,i=>by
  show ltV m (if i=t then y else EI r i);split
  ·exact h.2.1
  ·exact V8 h.2.2 i
theorem G0{n b:Nat}{env:Env}{l l0 gar:List Grp}(L:List (Nat × AV))(hl':l=l0++gar)(hb:b<=l0.length)(hcl:∀G∈l0,ltL l0.length G.xs)(hL:Zr l0.length env L):Ent n b env (Abs.hl l) (EI L) (Abs.hl l0):=by
 subst hl';exact (N1 L (Rt hL)).trans (Om hb hcl λi _=>V8 hL i)
theorem Hj{P:Program}{f:Nat}{xs:List AV}{l:List Grp}{K:AV->Ax->Prop}(h:BB P f xs (Abs.hl l) (λy H'=>∃y' H'',Ent 1 l.length (λ_=>y) H' (λ_=>y') H''/\K y' H'')):BB P f xs (Abs.hl l) K :=
 ⟨h.1,λS cargs hS hx=>(h.2 S cargs hS hx).mono λe w' hh=>by
  obtain⟨v,S1,y,H',he,hw,ev,hS1,hv,y',H'',h1,h2⟩:=hh;have hn:S.n=l.length:=hS.n;obtain⟨S2,q1,q2,q3,q4⟩:=h1 S1 (λ_=>v) (by rw[<-hn];exact ev.n) hS1 (λi _=>hv);have hb:=(ev.down (b:=l.length) (by omega)).trans q2
  exact⟨v,S2,y',_,he,q1.trans hw,⟨hb.base,hb.os,hb.tape,hb.output,hb.size,hb.kept,hb.im,hb.keep,hb.fresh,by rw[hn];exact hb.n,λg hg=>hb.cur g (by omega),λg hg=>hb.same g (by omega)⟩,q3,q4 0 Nat.one_pos,h2⟩⟩
theorem NA{b:Nat}{y:AV}{l l0 gar:List Grp}(hl':l=l0++gar)(hb:b<=l0.length)(hcl:∀G∈l0,ltL l0.length G.xs)(hy:ltV l0.length y):Ent 1 b (λ_=>y) (Abs.hl l) (λ_=>y) (Abs.hl l0):=by
 subst hl';exact Om hb hcl λi _=>hy
theorem z7s{P:Program}{f:Nat}{xs:List AV}{l l0 extra:List Grp}{K0 K:AV->Ax->Prop}(hl':l=l0++extra)(h:BB P f xs (Abs.hl l0) K0)(hlt:ltL l0.length xs)(hltG:∀G∈l0,ltL l0.length G.xs)
 (hK:∀y H',K0 y H'->∃l',H'=Abs.hl l'/\l'.length=l0.length/\ltV l0.length y/\(∀G∈l',ltL l0.length G.xs)/\@nx y (Abs.hl (l'++extra)) ⟨K⟩):@RO P f xs (Abs.hl l) ⟨K⟩:=by
 subst hl';exact z5z h hlt hltG hK
set_option maxRecDepth 100000
abbrev e1(i:Nat):AV:=.int .i64 i
end Go.Proofs.YtbcjoeadpjfcfaaGreat
namespace Go.Proofs.YtbcjoeadpjfcfaaGreat.Abs
def Frz1(d:Nat)(H:Ax)(ks:List Nat)(x y:AV):Prop:=y=x\/(Dv d (H.only ks) x/\y=frzV d (H.only ks) x)
def FrzL(d:Nat)(H:Ax)(ks:List Nat):List AV->List AV->Prop
 |[],ys=>ys=[]
 |x::xs,ys=>∃y r,ys=y::r/\Frz1 d H ks x y/\FrzL d H ks xs r
def Frz2(d:Nat)(H:Ax)(ks:List Nat)(x y:AV):Prop:=Frz1 d H ks x y\/∃cs ds,x=.agg cs/\y=.agg ds/\FrzL d H ks cs ds
def FrzM(d:Nat)(H:Ax)(ks:List Nat):List AV->List AV->Prop
 |[],ys=>ys=[]
 |x::xs,ys=>∃y r,ys=y::r/\Frz2 d H ks x y/\FrzM d H ks xs r
theorem FrzM.len{d:Nat}{H:Ax}{ks:List Nat}:∀{xs ys:List AV},FrzM d H ks xs ys->ys.length=xs.length
 |[],_,h=>by rw[show _=[] from h]
 |x::xs,_,⟨y,r,rfl,_,h⟩=>by simp[FrzM.len h]
theorem Frz1.rel{d:Nat}{H:Ax}{ks:List Nat}{S:MS}(hS:SRel S H){x y:AV}{v:Value}(h:Frz1 d H ks x y)(hv:VRel S x v):VRel (S.kill H ks) y v:=by
 rcases h with rfl|⟨h1,rfl⟩
 ·exact VRel.mono (H7 ks hS) _ hv
 ·exact Ny ks hS d h1 hv
theorem FrzL.rel{d:Nat}{H:Ax}{ks:List Nat}{S:MS}(hS:SRel S H):∀{xs ys:List AV}{vs:List Value},FrzL d H ks xs ys->AA S xs vs->AA (S.kill H ks) ys vs
 |[],_,_,h,hv=>by rw[show _=[] from h];exact hv
 |x::xs,_,_,⟨y,r,rfl,h1,h2⟩,⟨u,q,rfl,k1,k2⟩=>⟨u,q,rfl,h1.rel hS k1,FrzL.rel hS h2 k2⟩
theorem Frz2.rel{d:Nat}{H:Ax}{ks:List Nat}{S:MS}(hS:SRel S H){x y:AV}{v:Value}(h:Frz2 d H ks x y)(hv:VRel S x v):VRel (S.kill H ks) y v:=by
 rcases h with h|⟨cs,ds,rfl,rfl,h⟩
 ·exact h.rel hS hv
 ·obtain⟨vs,rfl,hvs⟩:=hv
  exact⟨vs,rfl,h.rel hS hvs⟩
theorem FrzM.rel{d:Nat}{H:Ax}{ks:List Nat}{S:MS}(hS:SRel S H):∀{xs ys:List AV}{vs:List Value},FrzM d H ks xs ys->AA S xs vs->AA (S.kill H ks) ys vs
 |[],_,_,h,hv=>by rw[show _=[] from h];exact hv
 |x::xs,_,_,⟨y,r,rfl,h1,h2⟩,⟨u,q,rfl,k1,k2⟩=>⟨u,q,rfl,h1.rel hS k1,FrzM.rel hS h2 k2⟩
theorem FrzM.refl{d:Nat}{H:Ax}{ks:List Nat}:∀(xs:List AV),FrzM d H ks xs xs
 |[]=>rfl
 |x::xs=>⟨x,xs,rfl,.inl (.inl rfl),FrzM.refl xs⟩
theorem FrzM.set{d:Nat}{H:Ax}{ks:List Nat}{y:AV}:∀{xs:List AV}{i:Nat},i<xs.length->Frz2 d H ks (xs.getD i .any) y->FrzM d H ks xs (xs.set i y)
 |[],_,h,_=>by simp at h
 |x::xs,0,_,h=>⟨y,xs,rfl,h,FrzM.refl xs⟩
 |x::xs,i+1,hi,h=>⟨x,_,rfl,.inl (.inl rfl),FrzM.set (by simpa using hi) (by simpa using h)⟩
theorem LO{n b:Nat}{env:Env}{l l':List Grp}{g w v d:Nat}{ex:Bool}{xs ys:List AV}(ks:List Nat)(hw:0<w)(hlt:g<l.length)(hg:l.getD g default=⟨w,v,ex,xs⟩)(hk:g∉ks)
 (hxy:FrzM d (hl l) ks xs ys) (hl':(Fv 0 ks l).set g ⟨w,v,ex,ys⟩=l'):Ent n b env (hl l) env (hl l'):=λS val hb hS hv=>by
 subst hl';have hS1:=Nx ks hS;have he:=H7 ks hS;refine⟨S.kill (hl l) ks,rfl,he.down hb,?_,λi hi=>VRel.mono he _ (hv i hi)⟩;have hlk:g<(Fv 0 ks l).length:=by rw[Hp];exact hlt
 have hat0:∀j,j<l.length->((hl l).kill ks).at_ j=(Fv 0 ks l).getD j default:=λj hj=>by
  rw[KY 0 ks l j hj,Ba];rfl
 have hn:(hl ((Fv 0 ks l).set g ⟨w,v,ex,ys⟩)).n=((hl l).kill ks).n:=by simp[hl,Ax.kill,Hp]
 have hlen:((hl l).kill ks).n=l.length:=rfl
 have hat:∀j,j<l.length->(hl ((Fv 0 ks l).set g ⟨w,v,ex,ys⟩)).at_ j=if j=g then ⟨w,v,ex,ys⟩ else ((hl l).kill ks).at_ j:=λj hj=>by
  rw[DL];by_cases e:j=g
  ·subst e;rw[Ae rfl];exact Kx _ hlk
  ·rw[Ac e,hat0 j hj];exact GM _ (CW e)
 have hgk:((hl l).kill ks).at_ g=⟨w,v,ex,xs⟩:=by
  show (if g∈ks then _ else _)=_;rw[Ac hk,DL,hg]
 have h1:GRel (S.kill (hl l) ks) ⟨w,v,ex,xs⟩ g:=by have:=hS1.grp g (by rw[hlen];exact hlt);rwa [hgk] at this
 have h0:GRel S ⟨w,v,ex,xs⟩ g:=by have:=hS.grp g hlt;rwa [DL,hg] at this
 have hly:=hxy.len
 have hG:GRel (S.kill (hl l) ks) ⟨w,v,ex,ys⟩ g:=by
  refine⟨h1.ver,h1.wid,λ_ hc=>?_,λhh=>by show ys.length<=_;rw[hly];exact h1.len hh,λhh he=>by show ys.length=_;rw[hly];exact h1.full hh he,λhh=>by simp only at hh;omega⟩;obtain⟨⟨cells,TT,vs,a1,a2,a3,a4⟩,_⟩:=h0.live hw hc;exact⟨⟨cells,TT,vs,a1,a2,hxy.rel hS a3,a4⟩,(h1.live hw hc).2⟩
 have hhas:∀j,j<l.length->((hl ((Fv 0 ks l).set g ⟨w,v,ex,ys⟩)).at_ j).has ((S.kill (hl l) ks).cap j)->(((hl l).kill ks).at_ j).has ((S.kill (hl l) ks).cap j):=λj hj h=>by
  rw[hat j hj] at h;by_cases e:j=g
  ·subst e;rw[Ae rfl] at h;rw[hgk];exact h
  ·rw[Ac e] at h;exact h
 refine⟨hS1.n.trans hn.symm,λj hj=>?_,λj j' a c hne p q=>hS1.apart j j' (by rwa [hn] at a) (by rwa [hn] at c) hne (hhas j (by rwa [hn] at a) p) (hhas j' (by rwa [hn] at c) q),hS1.im⟩;rw[hn] at hj;rw[hat j hj];by_cases e:j=g
 ·subst e;rw[Ae rfl];exact hG
 ·rw[Ac e];exact hS1.grp j hj
end Go.Proofs.YtbcjoeadpjfcfaaGreat.Abs
