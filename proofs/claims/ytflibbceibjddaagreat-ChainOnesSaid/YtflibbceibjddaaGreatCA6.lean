/-
  Parts of the proof that the law holds whatever the input; without conditions.
-/
import Derived.Shelf.SlSortCmp.Whole1
import Derived.Shelf.Small.Bits
import Derived.Ground.SlsfProg
import Derived.Ground.NamesProg
import Derived.Test.YtflibbceibjddaaGreatProg
import Derived.Test.YtflibbceibjddaaGreatCA5
import Derived.Test.YtflibbceibjddaaGreatCA4
set_option linter.unusedSimpArgs false
set_option linter.unusedVariables false
set_option linter.unusedSectionVars false
set_option maxRecDepth 100000
namespace Go.Proofs.YtflibbceibjddaaGreat
open Abs O1 O2 O3
theorem win_cons{g:List Span}{gs:List (List Span)}{w:List Int}:Win (g::gs) w↔∃x r,w=x::r/\memL g x/\Win gs r:=by
 constructor
 ·rintro⟨h1,h2⟩
  cases w with
  |nil=>simp at h1
  |cons x r =>
   refine⟨x,r,rfl,?_,by simpa using h1,λi hi=>?_⟩
   ·exact h2 0 oc
   ·exact h2 (i+1) (by simp;omega)
 ·rintro⟨x,r,rfl,h1,h2⟩
  refine⟨by simp[h2.1],λi hi=>?_⟩;cases i with
  |zero=>exact h1
  |succ i=>exact h2.2 i (by simp at hi;omega)
theorem zpa{w:List Int}:Win [] w↔w=[]:=by
 constructor
 ·rintro⟨h,_⟩;exact Az h
 ·rintro rfl;exact⟨rfl,λi hi=>by simp at hi⟩
theorem zpb{l:List Span}{v:Int}(h:-1073741824<=v/\v<=1073741824):hasI l v=true↔memL l v:=by
 rw[G5];exact⟨λh=>h.2.2,λhm=>⟨h.1,h.2,hm⟩⟩
theorem NH{o v:Int}:memL (domL o) v↔IE o v=true:=by
 unfold domL;simp only[IE,Ah];split
 ·rw[Bs];simp only[BQ,A7];omega
 ·split
  ·rw[Bs,Bs];simp only[BQ,A7];omega
  ·simp only[BQ,false_iff];omega
theorem Pd{o v:Int}(h:IE o v=true):0<=v/\v<=1114111:=by
 simp only[IE,Ah] at h;omega
theorem QH{l d:List Span}(hl:∀v,memL l v->-1073741824<=v/\v<=1073741824)(hp:Full l):Hs l d=[]↔∀v,memL l v->memL d v:=by
 obtain⟨m1,m2⟩:=Su l d;constructor
 ·intro h v hv
  rw[h] at m2;exact B5 λhn=>BQ v ((m2 v).2 ⟨hv,hl v hv,hn⟩)
 ·intro h
  cases hm:Hs l d with
  |nil=>rfl
  |cons s r =>
   rw[hm] at m1 m2;obtain⟨a,_,c⟩:=(m2 s.lo).1 (Bs.2 (.inl ⟨AE _,m1.1 s oc⟩));exact absurd (h _ a) c
theorem Mi{t:Term}{i o n:Int}(h:J2 t i o n=true):DN t=true/\prtB t n=true:=by
 simp only[J2,HT,Ac] at h;obtain⟨⟨⟨⟨_,hn⟩,hr⟩,_⟩,_⟩:=h;refine⟨hn,?_⟩;rw[prtB,AP];intro p hp;have:=AP.1 hr p hp;simp only[Ac] at this;exact this.1
theorem z1i{t:Term}{gs:List (List Span)}(h4:gs.length<=4)(hn:DN t=true)(hp:prtB t gs.length=true){w:List Int}{v:Int}(hw:Win (gs.map symI) w)(hv:Ga t w=some v):-1073741824<=v/\v<=1073741824:=by
 have hnum:=hn;simp only[DN,Ac,Ah] at hnum;have hbm:=GH hnum.1.1.1;rw[K4 (NF hp h4) hn hw] at hv;split at hv
 ·have:=CZ hnum.1.2 (x:=t.sum+totW w t.parts) om
  simp only[Aq] at hv;omega
 ·cases hv
theorem zbf{t:Term}{i o:Int}{gs:List (List Span)}(h4:gs.length<=4):Kg t i o gs=true↔J2 t i o gs.length=true/\∀w,Win (gs.map symI) w->fitW t o w=true:=by
 rw[Kg,Ac,Ac,Ah];refine and_congr_right λhr=>?_;obtain⟨hn,hp⟩:=Mi hr;obtain⟨s1,s2,s3⟩:=z5h h4 hn hp;constructor
 ·rintro⟨hi,hm⟩ w hw
  obtain⟨p1,p2⟩:=s3 hi;rw[QH (λv hv=>by obtain⟨w,h1,h2⟩:=(p2 v).1 hv;exact z1i h4 hn hp h1 h2) p1.1] at hm;have hv:=zgk (s1.1 hi w hw);have:=NH.1 (hm _ ((p2 _).2 ⟨w,hw,hv⟩));have hb:=Pd this;rw[fitW,hv];simp[hb,this]
 ·intro h
  have hi:(G8 t gs).2=true:=s1.2 λw hw=>by
   have:=h w hw;rw[fitW] at this;cases hv:Ga t w with
   |none=>rw[hv] at this;cases this
   |some v=>rfl
  obtain⟨p1,p2⟩:=s3 hi;refine⟨hi,(QH (λv hv=>by obtain⟨w,h1,h2⟩:=(p2 v).1 hv;exact z1i h4 hn hp h1 h2) p1.1).2 λv hv=>?_⟩;obtain⟨w,h1,h2⟩:=(p2 v).1 hv;have:=h w h1;rw[fitW,h2] at this;simp only[Ac] at this;exact NH.2 this.2
theorem ET{d:Desc}(h:FB d=0):R2 d=true/\(∀r∈d.rules,Kh d r=true)/\∀f∈d.finals,Ht d f=true:=by
 have h0:(IR d).1=0:=by
  unfold FB at h;split at h
  ·assumption
  ·omega
 unfold IR at h0;split at h0
 ·simp at h0
 ·rename_i hh
  refine⟨by simpa using hh,?_⟩;split at h0
  ·simp at h0
  ·rename_i hr
   split at h0
   ·simp at h0
   ·rename_i hf
    exact⟨Lh hr,Lh hf⟩
theorem IS{d:Desc}{out:List Term}{gs:List (List Span)}(h:H8 d out gs=true):out.length<=64/\∀t∈out,t.parts.length<=4:=by
 simp only[H8,Ac,Ah] at h;refine⟨om,λt ht=>?_⟩;have:=AP.1 h.2 t ht;simp only[Kg,Ac] at this;have h2:=(Mi this.1).1;simp only[DN,Ac,Ah] at h2;exact h2.2.2
theorem MU{α:Type}{p:α->Bool}:∀{l:List α}{i:Nat},(∀x∈l,p x=true)->FM p l i=none
 |[],_,_=>rfl
 |x::l,i,h=>by rw[FM,Ae (h x oc),MU λy hy=>h y (by simp[hy])]
theorem YJ{d:Desc}(h1:R2 d=true)(h2:∀r∈d.rules,Kh d r=true)(h3:∀f∈d.finals,Ht d f=true)(h4:¬cycP d.rules d.states.toNat):IR d=(0,0)/\FB d=0:=by
 have e:IR d=(0,0):=by
  rw[IR,Ad (by simp[h1]),MU h2];simp only;rw[MU h3];simp only;rw[Ad h4]
 exact⟨e,by rw[FB,e];rfl⟩
theorem zhw(s:Int):Full (domL s)/\∀v,memL (domL s) v->0<=v/\v<=1114111:=by
 refine⟨λt ht=>?_,λv hv=>Pd (NH.1 hv)⟩;unfold domL at ht;split at ht
 ·simp at ht;subst ht;simp
 ·split at ht
  ·simp at ht;rcases ht with rfl|rfl<;>simp
  ·cases ht
def zuk(a b:Int):Desc:=⟨a,b,1,0,[],[]⟩
structure zpc(d:Desc)(k:Nat)(f:Bool)(w a l:Int):Prop where
 le:k<=d.rules.length
 fr:z5m d=(f&&(d.rules.drop k).all λr=>!DL r)
 wi:zuh d=(d.rules.drop k).foldl widF w
 ah:zui d=(d.rules.drop k).foldl aheF a
 lo:W3 d=d.finals.foldl lonG ((d.rules.drop k).foldl lonF l)
 nn:0<=a
theorem zpc.step{d:Desc}{k:Nat}{f:Bool}{w a l:Int}(h:zpc d k f w a l)(hk:k<d.rules.length){f2:Bool}{w2 a2 l2:Int}(e1:f2=(f&&!DL (nth d.rules k)))(e2:w2=widF w (nth d.rules k))(e3:a2=aheF a (nth d.rules k))(e4:l2=lonF l (nth d.rules k)):zpc d (k+1) f2 w2 a2 l2 where
 le:=om
 fr:=by rw[h.fr,drop_at hk,List.all_cons,e1,Bool.and_assoc]
 wi:=by rw[h.wi,fold_at hk,e2]
 ah:=by rw[h.ah,fold_at hk,e3]
 lo:=by rw[h.lo,fold_at hk,e4]
 nn:=by have:=h.nn;rw[e3,aheF];omega
theorem Pe:∀(m l:List Int),ER l->ER (m.foldl putI l)/\(m.foldl putI l).length<=l.length+m.length/\∀v,v∈m.foldl putI l↔v∈l\/v∈m
 |[],l,h=>⟨h,oc,λv=>by simp⟩
 |x::m,l,h=>by
  obtain⟨i1,i2,i3⟩:=Pe m (putI l x) (Md h x)
  have hl:(putI l x).length<=l.length+1:=by
   unfold putI;split
   ·omega
   ·have:=Bt List.length (CG (p:=λy=>decide (y<x)) (l:=l))
    simp only[Ai,List.length_cons] at this ⊢;omega
  refine⟨i1,by simp only[List.foldl_cons,List.length_cons];omega,λv=>?_⟩;rw[List.foldl_cons,i3,Ug,Af];constructor
  ·rintro ((h|h)|h)
   ·exact .inr (.inl h)
   ·exact .inl h
   ·exact .inr (.inr h)
  ·rintro (h|h|h)
   ·exact .inl (.inr h)
   ·exact .inl (.inl h)
   ·exact .inr h
abbrev Cho:=Int × List Span
abbrev Pl:=List Span × List Part
abbrev Row:=List (List Span)
def NI(s:List Span)(ps:List Part):List Int:=((Dx (AR s)).map (totV ps)).foldl putI []
def MV(s:List Span)(ps:List Part)(n:Int):List Span:=AR (((Dx (AR s)).filter λx=>decide (totV ps x=n)).map oneS)
def choL(s:List Span)(ps:List Part):Option (List Cho) :=
 if ps.length=1 then
  if 4096<cntI (AR (imgL (nth ps 0) s)) then none else some ((Dx (AR (imgL (nth ps 0) s))).map λv=>(v,preL (nth ps 0) s [⟨v,v⟩]))
 else if 4096<(NI s ps).length then none else some ((NI s ps).map λn=>(n,MV s ps n))
def GF(p:Pl):Int:=(p.2.map λq=>(Lu (AR (imgL q p.1))).getD 0).sum
def Fs(pl:List Pl):Int:=(pl.map GF).sum
structure Tie where
 done:List Row
 set:List Span
 last:List Row
def Tie.all(t:Tie):List Row:=t.done++t.last.map (t.set::·)
def tieL(f:Int->Nat->Option (List Row) × Nat)(sum:Int):List Cho->Tie->Nat->Option (List Row) × Nat
 |[],t,k=>(some t.all,k)
 |c::cs,t,k=>match f (sum+c.1) k with
  |(none,k')=>(none,k')
  |(some rest,k')=>if 4096<t.all.length then (none,k') else if 0<rest.length/\rest=t.last then tieL f sum cs ⟨t.done,AR (t.set++c.2),t.last⟩ k' else tieL f sum cs ⟨t.all,c.2,rest⟩ k'
def He(want:List Span):List Pl->Int->Nat->Option (List Row) × Nat
 |[],sum,k=>if 65536<k+1 then (none,k+1) else (some (if EN (AR [⟨sum,sum+Fs []⟩]) (AR want)=[] then [] else [[]]),k+1)
 |p::pl,sum,k=>if 65536<k+1 then (none,k+1) else if EN (AR [⟨sum,sum+Fs (p::pl)⟩]) (AR want)=[] then (some [],k+1)
  else if Hs [⟨sum,sum+Fs (p::pl)⟩] want=[] then (some [(p::pl).map (·.1)],k+1)
  else if pl=[]/\p.2.length=1 then (some (if preL (nth p.2 0) p.1 (Gs want (-sum))=[] then [] else [[preL (nth p.2 0) p.1 (Gs want (-sum))]]),k+1)
  else match choL p.1 p.2 with
   |none=>(none,k+1)
   |some cs=>tieL (He want pl) sum cs ⟨[],[],[]⟩ (k+1)
def HU:Row->List Int->Prop
 |[],[]=>True
 |s::r,x::xs=>memL s x/\HU r xs
 |_,_=>False
def totX:List Pl->List Int->Int
 |p::pl,x::xs=>totV p.2 x+totX pl xs
 |_,_=>0
def Ur(s:List Span):Prop:=Syms s/\s≠[]
def PlOk(pl:List Pl):Prop:=∀p∈pl,Ur p.1/\p.2.length<=4/\∀q∈p.2,EJ q=true
theorem zhx{m:List Span}(h:Plain m)(hb:∀s∈m,-1073741824<=s.lo/\s.hi<=1073741824){v:Int}(hv:memL m v):v<=(Lu (AR m)).getD 0:=by
 rw[Gt h hb];obtain⟨a,b,_,e2,_,_,h3⟩:=Ld h (K5 hv);rw[e2];exact (h3 v hv).2
theorem SG{p:Part}{s:List Span}(hb:EJ p=true):∀t∈imgL p s,-1073741824<=t.lo/\t.hi<=1073741824:=λt ht=>by
 obtain⟨i1,i2⟩:=GI s hb;have hle:=i1.1 t ht;obtain⟨x,_,hx,e⟩:=(i2 t.lo).1 ⟨t,ht,AE _,hle⟩;obtain⟨y,_,hy,e'⟩:=(i2 t.hi).1 ⟨t,ht,hle,AE _⟩;have:=CZ hb hx;have:=CZ hb hy;omega
theorem Pf{p:Pl}(hs:Syms p.1){x:Int}(hx:memL p.1 x):(∀q∈p.2,EJ q=true)->0<=totV p.2 x/\totV p.2 x<=GF p:=by
 obtain⟨s,ps⟩:=p;simp only at hs hx ⊢;have hxb:=hs.mem hx
 induction ps with
 |nil=>intro _;simp[totV,GF]
 |cons q ps ih =>
  intro hb;obtain⟨i1,i2⟩:=ih λr hr=>hb r (by simp[hr]);have hq:=hb q oc;have h1:=CZ hq (x:=x) om;have h2:=zhx (GI s hq).1 (SG hq) (((GI s hq).2 (valP q x)).2 ⟨x,hx,om,rfl⟩);simp only[totV,GF,AD,List.sum_cons] at i1 i2 ⊢;omega
theorem Us:∀{pl:List Pl}{xs:List Int},PlOk pl->HU (pl.map (·.1)) xs->0<=totX pl xs/\totX pl xs<=Fs pl
 |[],[],_,_=>by simp[totX,Fs]
 |[],_::_,_,h=>by simp[HU] at h
 |_::_,[],_,h=>by simp[HU] at h
 |p::pl,x::xs,hp,h=>by
  simp only[AD,HU] at h;have h1:=Pf (hp p oc).1.1 h.1 (hp p oc).2.2;have h2:=Us (pl:=pl) (λq hq=>hp q (by simp[hq])) h.2;simp only[totX,Fs,AD,List.sum_cons] at h2 ⊢;omega
theorem z1j{q:Part}{s:List Span}(hb:EJ q=true):0<=(Lu (AR (imgL q s))).getD 0/\(Lu (AR (imgL q s))).getD 0<=66060288:=by
 rw[Gt (GI s hb).1 (SG hb)];by_cases h:imgL q s=[]
 ·rw[h];simp[Lu]
 ·obtain⟨a,b,_,e2,_,h2,_⟩:=Ld (GI s hb).1 h
  rw[e2];obtain⟨x,_,hx,e⟩:=((GI s hb).2 b).1 h2;have:=CZ hb hx;simp only[Option.getD_some];omega
theorem JV{s:List Span}:∀{ps:List Part},(∀q∈ps,EJ q=true)->0<=GF (s,ps)/\GF (s,ps)<=ps.length * 66060288
 |[],_=>by simp[GF]
 |q::ps,h=>by
  have h1:=z1j (s:=s) (h q oc);have h2:=JV (s:=s) (ps:=ps) λr hr=>h r (by simp[hr]);simp only[GF,AD,List.sum_cons,List.length_cons] at h2 ⊢
  push_cast
  omega
theorem MW:∀{pl:List Pl},PlOk pl->0<=Fs pl
 |[],_=>by simp[Fs]
 |p::pl,h=>by
  have h1:0<=GF p:=(JV (s:=p.1) (h p oc).2.2).1;have h2:=MW (pl:=pl) λq hq=>h q (by simp[hq]);simp only[Fs,AD,List.sum_cons] at h2 ⊢;omega
structure zul(s:List Span)(ps:List Part)(cs:List Cho):Prop where
 set:∀c∈cs,Ur c.2/\∀x,memL c.2 x↔memL s x/\totV ps x=c.1
 all:∀x,memL s x->∃c∈cs,c.1=totV ps x
theorem z1k{s:List Span}(hs:Syms s){ps:List Part}{n:Int}:n∈NI s ps↔∃x,memL s x/\totV ps x=n:=by
 rw[NI,(Pe _ [] List.Pairwise.nil).2.2,K3 hs];simp only[An,BC,Al,Ff]
theorem zbg{s:List Span}(hs:Syms s){ps:List Part}{n:Int}:Syms (MV s ps n)/\∀x,memL (MV s ps n) x↔memL s x/\totV ps x=n:=by
 obtain⟨p1,p2⟩:=Bo (((Dx (AR s)).filter λx=>decide (totV ps x=n)).map oneS)
 have h:∀x,memL (MV s ps n) x↔memL s x/\totV ps x=n:=λx=>by
  rw[MV,p2,mem_map,K3 hs];simp only[AW,Ff,Ah];constructor
  ·rintro⟨⟨a,⟨h1,h2⟩,h3,h4⟩,_⟩
   obtain rfl:a=x:=om
   exact⟨h1,h2⟩
  ·rintro⟨h1,h2⟩
   have:=hs.mem h1;exact⟨⟨x,⟨h1,h2⟩,AE _,AE _⟩,om⟩
 exact⟨Me p1 λv hv=>hs.mem ((h v).1 hv).1,h⟩
theorem zko{s:List Span}{ps:List Part}{cs:List Cho}(hs:Syms s)(hb:∀q∈ps,EJ q=true)(h:choL s ps=some cs):zul s ps cs:=by
 unfold choL at h;split at h
 ·rename_i hl
  split at h
  ·cases h
  obtain rfl:=A5 h;obtain⟨p,rfl⟩:∃p,ps=[p]:=List.length_eq_one_iff.1 hl;have hp:=hb p oc;rw[show nth [p] 0=p from rfl];obtain⟨i1,i2⟩:=GI s hp;have ht:∀x,totV [p] x=valP p x:=λx=>by simp[totV]
  refine⟨λc hc=>?_,λx hx=>?_⟩
  ·obtain⟨v,hv,rfl⟩:=Al.1 hc
   rw[Ff,Gt i1 (SG hp),i2] at hv;obtain⟨x0,h1,h2,h3⟩:=hv;obtain⟨p1,p2⟩:=Uk s [⟨v,v⟩] hp
   have key:∀x,memL (preL p s [⟨v,v⟩]) x↔memL s x/\totV [p] x=v:=λx=>by
    rw[p2,ht,G5,Bs];simp only[BQ,A7];constructor
    ·rintro⟨k1,k2,k3,k4,k5⟩;exact⟨k1,om⟩
    ·rintro⟨k1,k2⟩
     have:=hs.mem k1;have:=CZ hp (x:=x) om;exact⟨k1,om,om,om,om⟩
   exact⟨⟨Me p1 λv hv=>hs.mem ((key v).1 hv).1,K5 ((key x0).2 ⟨h1,by rw[ht];exact h3⟩)⟩,key⟩
  ·have:=hs.mem hx
   exact⟨_,Al.2 ⟨valP p x,by rw[Ff,Gt i1 (SG hp),i2];exact⟨x,hx,om,rfl⟩,rfl⟩,(ht x).symm⟩
 ·split at h
  ·cases h
  obtain rfl:=A5 h;refine⟨λc hc=>?_,λx hx=>?_⟩
  ·obtain⟨n,hn,rfl⟩:=Al.1 hc
   obtain⟨x,hx,e⟩:=(z1k hs).1 hn;obtain⟨k1,k2⟩:=zbg (ps:=ps) (n:=n) hs;exact⟨⟨k1,K5 ((k2 x).2 ⟨hx,e⟩)⟩,k2⟩
  ·exact⟨_,Al.2 ⟨totV ps x,(z1k hs).2 ⟨x,hx,rfl⟩,rfl⟩,rfl⟩
def z5n(n:Nat)(r:Row):Prop:=r.length=n/\∀s∈r,Ur s
theorem z1l{a b:List Span}(ha:Syms a)(hb:Ur b):Ur (AR (a++b))/\∀x,memL (AR (a++b)) x↔memL a x\/memL b x:=by
 obtain⟨p1,p2⟩:=Bo (a++b)
 have key:∀x,memL (AR (a++b)) x↔memL a x\/memL b x:=λx=>by
  rw[p2,FX];constructor
  ·exact λh=>h.1
  ·rintro (h|h)
   ·have:=ha.mem h;exact⟨.inl h,om⟩
   ·have:=hb.1.mem h;exact⟨.inr h,om⟩
 obtain⟨y,hy⟩:∃y,memL b y:=by
  obtain⟨h1,h2⟩:=hb;cases b with
  |nil=>exact absurd rfl h2
  |cons t b=>exact⟨t.lo,t,oc,AE _,h1.1.1 t oc⟩
 exact⟨⟨Me p1 λv hv=>((key v).1 hv).elim ha.mem hb.1.mem,K5 ((key y).2 (.inr hy))⟩,key⟩
structure zhy(n:Nat)(t:Tie):Prop where
 done:∀r∈t.done,z5n (n+1) r
 last:∀r∈t.last,z5n n r
 set:t.last≠[]->Ur t.set
theorem zhy.all{n:Nat}{t:Tie}(h:zhy n t):∀r∈t.all,z5n (n+1) r:=λr hr=>by
 rcases Av.1 hr with hr|hr
 ·exact h.done r hr
 ·obtain⟨r',hr',rfl⟩:=Al.1 hr
  have hs:=h.set (List.ne_nil_of_mem hr');obtain⟨k1,k2⟩:=h.last r' hr';refine⟨by simp[k1],λs hs'=>?_⟩;rcases Af.1 hs' with rfl|hs'
  ·exact hs
  ·exact k2 s hs'
theorem zbh{t:Tie}{x:Int}{xs:List Int}:(∃row∈t.all,HU row (x::xs))↔(∃row∈t.done,HU row (x::xs))\/memL t.set x/\∃row∈t.last,HU row xs:=by
 unfold Tie.all;simp only[Av,Al];constructor
 ·rintro⟨row,h|⟨r,h,rfl⟩,h2⟩
  ·exact .inl ⟨row,h,h2⟩
  ·exact .inr ⟨h2.1,r,h,h2.2⟩
 ·rintro (⟨row,h,h2⟩|⟨h1,r,h,h2⟩)
  ·exact⟨row,.inl h,h2⟩
  ·exact⟨_,.inr ⟨r,h,rfl⟩,h1,h2⟩
theorem zkp{f:Int->Nat->Option (List Row) × Nat}{sum:Int}{n:Nat}{G:Int->List Int->Prop}:∀(cs:List Cho),(∀c∈cs,Ur c.2) ->
 (∀c∈cs,∀k rest k',f (sum+c.1) k=(some rest,k')->(∀r∈rest,z5n n r)/\∀xs,(∃row∈rest,HU row xs)↔G c.1 xs) ->
 ∀(t:Tie)(k:Nat)(rows:List Row)(k':Nat),zhy n t->tieL f sum cs t k=(some rows,k') ->
  (∀r∈rows,z5n (n+1) r)/\∀x xs,(∃row∈rows,HU row (x::xs))↔(∃row∈t.all,HU row (x::xs))\/∃c∈cs,memL c.2 x/\G c.1 xs
 |[],_,_,t,k,rows,k',ht,h=>by
  rw[tieL] at h;obtain⟨h1,rfl⟩:=Prod.mk.inj h;obtain rfl:=A5 h1;exact⟨ht.all,λx xs=>by simp⟩
 |c::cs,hc,hf,t,k,rows,k',ht,h=>by
  rw[tieL] at h;have ih:=zkp (f:=f) (sum:=sum) (n:=n) (G:=G) cs (λd hd=>hc d (by simp[hd])) (λd hd=>hf d (by simp[hd]));have hcs:=hc c oc;generalize he:f (sum+c.1) k=q at h;obtain⟨o,k1⟩:=q;cases o with
  |none=>cases (Prod.mk.inj h).1
  |some rest =>
   obtain⟨f1,f2⟩:=hf c oc k rest k1 he;simp only at h;split at h
   ·cases (Prod.mk.inj h).1
   split at h
   ·rename_i hr
    obtain⟨hr0,hr⟩:=hr;have hls:t.last≠[]:=by rw[<-hr];exact Cz.1 hr0
    have hset:=ht.set hls;obtain⟨n1,n2⟩:=z1l hset.1 hcs;obtain⟨i1,i2⟩:=ih ⟨t.done,AR (t.set++c.2),t.last⟩ k1 rows k' ⟨ht.done,ht.last,λ_=>n1⟩ h;refine⟨i1,λx xs=>?_⟩;rw[i2,zbh,zbh];simp only[n2];have:=f2 xs;rw[hr] at this;rw[this];simp only[Af,exists_eq_or_imp];constructor
    ·rintro ((h1|⟨h1|h1,h2⟩)|h1)
     ·exact .inl (.inl h1)
     ·exact .inl (.inr ⟨h1,h2⟩)
     ·exact .inr (.inl ⟨h1,h2⟩)
     ·exact .inr (.inr h1)
    ·rintro ((h1|h1)|h1|h1)
     ·exact .inl (.inl h1)
     ·exact .inl (.inr ⟨.inl h1.1,h1.2⟩)
     ·exact .inl (.inr ⟨.inr h1.1,h1.2⟩)
     ·exact .inr h1
   ·obtain⟨i1,i2⟩:=ih ⟨t.all,c.2,rest⟩ k1 rows k' ⟨ht.all,f1,λ_=>hcs⟩ h
    refine⟨i1,λx xs=>?_⟩;rw[i2,zbh];simp only;rw[f2 xs];simp only[Af,exists_eq_or_imp];rw[or_assoc]
theorem SH{a b:Int}{want:List Span}(h:EN (AR [⟨a,b⟩]) (AR want)=[]){v:Int}(h1:a<=v/\v<=b):¬hasI want v=true:=by
 rw[G5];rintro⟨h2,h3,h4⟩;have:=((HI _ _ (Bo [⟨a,b⟩]).1 (Bo want).1).2 v).2 ⟨((Bo _).2 v).2 ⟨Bs.2 (.inl h1),h2,h3⟩,((Bo _).2 v).2 ⟨h4,h2,h3⟩⟩;rw[h] at this;exact BQ v this
theorem zbi{a:Int}{want:List Span}(h:¬EN (AR [⟨a,a⟩]) (AR want)=[]):hasI want a=true:=by
 obtain⟨p1,p2⟩:=HI _ _ (Bo [⟨a,a⟩]).1 (Bo want).1
 obtain⟨v,hv⟩:∃v,memL (EN (AR [⟨a,a⟩]) (AR want)) v:=by
  generalize EN (AR [⟨a,a⟩]) (AR want)=l at *;cases l with
  |nil=>exact absurd rfl h
  |cons t l=>exact⟨t.lo,t,oc,AE _,p1.1 t oc⟩
 obtain⟨h1,h2⟩:=(p2 v).1 hv;obtain⟨h1,h3,h4⟩:=((Bo _).2 v).1 h1;obtain⟨h2,_⟩:=((Bo _).2 v).1 h2;rw[Bs] at h1;simp only[BQ,A7] at h1;obtain rfl:v=a:=om
 rw[G5];exact⟨h3,h4,h2⟩
theorem z5o{a b:Int}{want:List Span}(h:Hs [⟨a,b⟩] want=[]){v:Int}(h1:a<=v/\v<=b)(h2:-1073741824<=v/\v<=1073741824):hasI want v=true:=by
 rw[G5];refine⟨h2.1,h2.2,B5 λhn=>?_⟩;have:=((Su [⟨a,b⟩] want).2 v).2 ⟨Bs.2 (.inl h1),h2,hn⟩;rw[h] at this;exact BQ v this
theorem YK{want:List Span}:∀(pl:List Pl),PlOk pl->∀(sum:Int)(k:Nat)(rows:List Row)(k':Nat),0<=sum->sum+Fs pl<=1073741824->He want pl sum k=(some rows,k') ->
 (∀r∈rows,z5n pl.length r)/\∀xs,(∃row∈rows,HU row xs)↔HU (pl.map (·.1)) xs/\hasI want (sum+totX pl xs)=true
 |[],_,sum,k,rows,k',h0,h1,h=>by
  rw[He] at h;split at h
  ·cases (Prod.mk.inj h).1
  obtain⟨h2,rfl⟩:=Prod.mk.inj h;obtain rfl:=A5 h2;have hm:Fs []=0:=rfl;rw[hm,Int.add_zero];split
  ·rename_i he
   refine⟨λr hr=>(by cases hr),λxs=>⟨λ⟨r,hr,_⟩=>(by cases hr),λ⟨h3,h4⟩=>?_⟩⟩;cases xs with
   |nil=>exact absurd h4 (SH he (by simp[totX]))
   |cons=>simp[HU] at h3
  ·rename_i he
   refine⟨λr hr=>by rw[Am] at hr;subst hr;exact⟨rfl,λs hs=>(by cases hs)⟩,λxs=>⟨λ⟨r,hr,h3⟩=>?_,λ⟨h3,h4⟩=>⟨[],oc,h3⟩⟩⟩;rw[Am] at hr;subst hr;cases xs with
   |nil=>exact⟨h3,by simpa [totX] using zbi he⟩
   |cons=>simp[HU] at h3
 |p::pl,hp,sum,k,rows,k',h0,h1,h=>by
  have hpp:=hp p oc;have hpl:PlOk pl:=λq hq=>hp q (by simp[hq]);have hml:=MW hpl;have hme:Fs (p::pl)=GF p+Fs pl:=by simp[Fs]
  rw[He] at h;split at h
  ·cases (Prod.mk.inj h).1
  split at h
  ·rename_i he
   obtain⟨h2,rfl⟩:=Prod.mk.inj h;obtain rfl:=A5 h2;refine⟨λr hr=>(by cases hr),λxs=>⟨λ⟨r,hr,_⟩=>(by cases hr),λ⟨h3,h4⟩=>?_⟩⟩;have:=Us hp h3;exact absurd h4 (SH he om)
  split at h
  ·rename_i he
   obtain⟨h2,rfl⟩:=Prod.mk.inj h;obtain rfl:=A5 h2;refine⟨λr hr=>?_,λxs=>⟨λ⟨r,hr,h3⟩=>?_,λ⟨h3,h4⟩=>⟨_,Am.2 rfl,h3⟩⟩⟩
   ·rw[Am] at hr;subst hr
    refine⟨oc,λs hs=>?_⟩;obtain⟨q,hq,rfl⟩:=Al.1 hs;exact (hp q hq).1
   ·rw[Am] at hr;subst hr
    have:=Us hp h3;exact⟨h3,z5o he om om⟩
  split at h
  ·rename_i he
   obtain⟨h2,rfl⟩:=Prod.mk.inj h;obtain rfl:=A5 h2;obtain⟨rfl,hl⟩:=he;obtain⟨s,ps⟩:=p;obtain⟨q,rfl⟩:∃q,ps=[q]:=List.length_eq_one_iff.1 hl;simp only at hpp ⊢;have hq:=hpp.2.2 q oc;rw[show nth [q] 0=q from rfl];have hm0:Fs []=0:=rfl;obtain⟨p1,p2⟩:=Uk s (Gs want (-sum)) hq
   have key:∀x,memL (preL q s (Gs want (-sum))) x↔memL s x/\hasI want (sum+valP q x)=true:=λx=>by
    rw[p2,G5,z0v (by have:=(JV (s:=s) hpp.2.2).1;omega),G5,show valP q x - -sum=sum+valP q x by omega];constructor
    ·rintro⟨k1,k2,k3,k4,⟨k5,k6,k7⟩,k8⟩;exact⟨k1,k6,k7,k5⟩
    ·rintro⟨k1,k2,k3,k4⟩
     have hx:=hpp.1.1.mem k1;have:=CZ hq (x:=x) om;have:=Pf (p:=(s,[q])) hpp.1.1 k1 hpp.2.2;exact⟨k1,om,om,om,⟨k4,k2,k3⟩,om,om⟩
   have hin:∀xs,HU (([(s,[q])]:List Pl).map (·.1)) xs/\hasI want (sum+totX [(s,[q])] xs)=true↔∃x,xs=[x]/\memL (preL q s (Gs want (-sum))) x:=λxs=>by
    match xs with
    |[]=>simp[HU]
    |[x]=>simp[HU,totX,totV,key]
    |x::y::xs=>simp[HU]
   split
   ·rename_i h0
    refine⟨λr hr=>(by cases hr),λxs=>?_⟩;rw[hin];exact⟨λ⟨r,hr,_⟩=>(by cases hr),λ⟨x,_,hx⟩=>by rw[h0] at hx;exact absurd hx (BQ x)⟩
   ·rename_i h0
    refine⟨λr hr=>?_,λxs=>?_⟩
    ·rw[Am] at hr;subst hr
     refine⟨rfl,λt ht=>?_⟩;rw[Am] at ht;subst ht;exact⟨Me p1 λv hv=>hpp.1.1.mem ((key v).1 hv).1,h0⟩
    ·rw[hin]
     constructor
     ·rintro⟨r,hr,h3⟩
      rw[Am] at hr;subst hr
      match xs with
      |[]=>simp[HU] at h3
      |[x]=>exact⟨x,rfl,h3.1⟩
      |x::y::xs=>simp[HU] at h3
     ·rintro⟨x,rfl,hx⟩
      exact⟨_,Am.2 rfl,hx,oy⟩
  ·generalize hc:choL p.1 p.2=o at h
   cases o with
   |none=>cases (Prod.mk.inj h).1
   |some cs =>
    have hco:=zko hpp.1.1 hpp.2.2 hc;simp only at h
    obtain⟨i1,i2⟩:=zkp (n:=pl.length) (G:=λv xs=>HU (pl.map (·.1)) xs/\hasI want (sum+v+totX pl xs)=true) cs (λc hc=>(hco.set c hc).1)
     (λc hc k rest k' hf=>by
      obtain⟨x,hx⟩:∃x,memL c.2 x:=by
       obtain⟨⟨h1,h2⟩,_⟩:=hco.set c hc;generalize c.2=l at *;cases l with
       |nil=>exact absurd rfl h2
       |cons t b=>exact⟨t.lo,t,oc,AE _,h1.1.1 t oc⟩
      obtain⟨hx1,hx2⟩:=((hco.set c hc).2 x).1 hx;have:=Pf hpp.1.1 hx1 hpp.2.2
      exact YK pl hpl (sum+c.1) k rest k' om om hf)
     ⟨[],[],[]⟩ (k+1) rows k' ⟨λr hr=>(by cases hr),λr hr=>(by cases hr),λh=>absurd rfl h⟩ h
    refine⟨i1,λxs=>?_⟩;cases xs with
    |nil =>
     constructor
     ·rintro⟨r,hr,h3⟩
      have:=(i1 r hr).1;cases r with
      |nil=>simp at this
      |cons=>simp[HU] at h3
     ·rintro⟨h3,_⟩;simp[HU] at h3
    |cons x xs =>
     rw[i2];simp only[AD,HU,totX,Tie.all,AX,Ax,An,false_and,exists_false,BC];constructor
     ·rintro⟨c,hc,h3,h4,h5⟩
      obtain⟨h6,h7⟩:=((hco.set c hc).2 x).1 h3;exact⟨⟨h6,h4⟩,by rw[h7,<-Int.add_assoc];exact h5⟩
     ·rintro⟨⟨h6,h4⟩,h5⟩
      obtain⟨c,hc,h7⟩:=hco.all x h6;exact⟨c,hc,((hco.set c hc).2 x).2 ⟨h6,h7.symm⟩,h4,by rw[h7,Int.add_assoc];exact h5⟩
def askT(t:Term)(n:Int):Bool:=decide (n<=4)&&(DN t&&prtB t n)
def Ge(t:Term):List Int:=t.parts.reverse.foldl Fl []
def OG(t:Term)(gs:List (List Span)):List Pl:=(Ge t).map λa=>(symI (nth gs a.toNat),atL t.parts.reverse a)
def Ut(t:Term)(g:List Span):List Span:=Gs (preL t.outer [⟨0,1114111⟩] (Gs g (-t.base))) (-t.sum)
def setRow:List (List Span)->List Int->Row->List (List Span)
 |G,a::pl,s::row=>setRow (G.set a.toNat s) pl row
 |G,_,_=>G
def boxV(t:Term)(gs:List (List Span))(g:List Span):Int × List (List (List Span)) :=
 if askT t gs.length=false then (1,[])
 else if gs.all (λs=>decide (0<((symI s).length:Int)))=false then (0,[])
 else match (He (Ut t g) (OG t gs) 0 0).1 with
  |none=>(4,[])
  |some rows=>if 4096<rows.length then (4,[]) else (0,rows.map (setRow (gs.map symI) (Ge t)))
theorem SI:∀(l:List Part)(pl:List Int),pl.Nodup->(∀p∈l,p.at_∈pl)->(pl.map λa=>((atL l a).length:Int)).sum=l.length
 |[],pl,_,_=>IP λa _=>rfl
 |p::l,pl,hn,h=>by
  have ih:=SI l pl hn λq hq=>h q (by simp[hq])
  have e:∀a∈pl,((atL (p::l) a).length:Int)=(if p.at_=a then 1 else 0)+((atL l a).length:Int):=λa _=>by
   simp only[atL,BV,Ah];split
   ·simp;omega
   ·simp
  rw[Ik e,Mg,Mh (g:=λ_=>1) hn (h p oc),ih]
  push_cast [List.length_cons]
  omega
theorem zkq{α:Type}{f g:α->Int}:∀{l:List α},(∀a∈l,f a<=g a)->(l.map f).sum<=(l.map g).sum
 |[],_=>AE _
 |a::l,h=>by
  have h1:=h a oc;have h2:=zkq (l:=l) λb hb=>h b (by simp[hb]);simp only[AD,List.sum_cons];omega
theorem zbj{α:Type}{f:α->Int}(c:Int):∀{l:List α},(l.map λa=>f a * c).sum=(l.map f).sum * c
 |[]=>by simp
 |a::l=>by
  have:=zbj (f:=f) c (l:=l);simp only[AD,List.sum_cons,this,Int.add_mul]
inductive Reach(E:List (Int × Int))(F:List Int):Int->Prop where
 |base {s:Int}:s∈F->Reach E F s
 |step {s t:Int}:Reach E F s->(s,t)∈E->Reach E F t
noncomputable def z1m (E:List (Int × Int)) (F:List Int) (i:Nat):Bool:=@decide (Reach E F i) (Classical.propDecidable _)
structure InR(n:Nat)(F:List Int)(E:List (Int × Int)):Prop where
 f:∀s∈F,0<=s/\s<n
 e:∀e∈E,(0<=e.1/\e.1<n)/\0<=e.2/\e.2<n
theorem Reach.rng{n:Nat}{F:List Int}{E:List (Int × Int)}(h:InR n F E){s:Int}(hs:Reach E F s):0<=s/\s<n:=by
 cases hs with
 |base h1=>exact h.f _ h1
 |step _ h1=>exact (h.e _ h1).2
structure SpInv(n:Nat)(F:List Int)(E:List (Int × Int))(on:Nat->Bool)(todo:List Int):Prop where
 r1:∀s∈todo,Reach E F s
 r2:∀i:Nat,on i=true->Reach E F i
 base:∀s∈F,on s.toNat=true\/s∈todo
 step:∀i:Nat,on i=true->∀t,((i:Int),t)∈E->on t.toNat=true\/t∈todo
def setB(on:Nat->Bool)(s:Nat)(j:Nat):Bool:=if j=s then true else on j
theorem zum{P:Program}{f m np:Nat}{xs:List AV}{y:AV}{res:List ARes}{B:AC}(hf:Bm P f xs.length=some ⟨m,np,res,B⟩)(h:T P m 0 B (entry xs) (Abs.hl []) (Ret P res λz H=>DX 4 H z/\ansW (frzV 4 H z) y)):PC P f xs y:=by
 refine zlr hf 4 ?_;rw[P7];exact T.mono h λx env H hh=>T8 (λz H hh=>⟨hh.1,z8m hh.2⟩) hh
def spB(n:Nat)(on:Nat->Bool):List AV:=(List.range n).map λi=>AV.bool (on i)
theorem zpd{n s:Nat}{on:Nat->Bool}(h:s<n):(spB n on).set s (.bool true)=spB n (setB on s):=by
 rw[spB,E0 h,spB];refine A6 λp _=>?_;by_cases e:p=s
 ·subst e;simp[setB]
 ·simp[e,setB]
noncomputable def zkr (n:Nat) (F:List Int) (E:List (Int × Int)):List Bool:=(List.range n).map (z1m E F)
def fwdE(d:Desc):List (Int × Int):=d.rules.map λr=>(r.from_,r.to_)
def bwdE(d:Desc):List (Int × Int):=d.rules.map λr=>(r.to_,r.from_)
def endE(d:Desc):List Int:=d.finals.map (·.from_)
structure Wf(d:Desc):Prop where
 n:∃n:Nat,d.states=n/\1<=n/\n<=1024
 start:0<=d.start/\d.start<d.states
 rl:d.rules.length<=4096
 fl:d.finals.length<=4096
 r:∀r∈d.rules,(0<=r.from_/\r.from_<d.states)/\0<=r.to_/\r.to_<d.states
 f:∀f∈d.finals,0<=f.from_/\f.from_<d.states
theorem NJ{d:Desc}(h:FB d=0):Wf d:=by
 obtain⟨h1,h2,h3⟩:=ET h;have h4:=zbb h1;refine⟨⟨d.states.toNat,om,om,om⟩,h4.2.2.2,h4.2.1,h4.2.2.1,λr hr=>zbc (h2 r hr),λf hf=>?_⟩;have:=h3 f hf;simp only[Ht,IQ,Ac,Ah] at this;exact this.1
noncomputable def comeL (d:Desc):List Bool:=zkr d.states.toNat [d.start] (fwdE d)
noncomputable def goL (d:Desc):List Bool:=zkr d.states.toNat (endE d) (bwdE d)
theorem z5p{α β:Type}[Inhabited α][Inhabited β]{l:List α}{f:α->β}{k:Nat}(h:k<l.length):nth (l.map f) k=f (nth l k):=by
 simp[nth,List.getD,h]
def prs(a b:List Int):List Int:=a.flatMap λx=>b.map (x+·)
structure GOk(i:Int)(gs:List (List Span)):Prop where
 len:gs.length<=4
 short:∀g∈gs,g.length<=64
 some:∀g∈gs,∃v,memL g v
 dom:∀g∈gs,∀v,memL g v->IE i v=true
theorem SJ:∀{l:List Int}{a b:Int},ER l->(∀x∈l,a<=x/\x<=b)->a<=b+1->(l.length:Int)<=b-a+1
 |[],a,b,_,_,h=>by simp;omega
 |x::l,a,b,hr,hm,h=>by
  obtain⟨r1,r2⟩:=AH.1 hr;have hx:=hm x oc;have:=SJ (a:=x+1) (b:=b) r2 (λy hy=>by have:=r1 y hy;have:=hm y (by simp[hy]);omega) om
  push_cast [List.length_cons]
  omega
structure zun(now:List Int):Prop where
 ris:ER now
 bd:∀x∈now,-1114111<=x/\x<=1114111
 pos:0<now.length
theorem zun.len{now:List Int}(h:zun now):now.length<=2228223:=by
 have:=SJ h.ris h.bd om;omega
structure TOk(t:Term)(i:Int)(gs:List (List Span)):Prop where
 parts:∀p∈t.parts,EP p gs.length=true
 four:t.parts.length<=4
 sm:-1114111<=t.sum/\t.sum<=1114111
 sort:i=1\/(i=2/\t.parts.length<=1/\∀p∈t.parts,Kw p=true)
theorem TOk.bits{t:Term}{i:Int}{gs:List (List Span)}(h:TOk t i gs):∀p∈t.parts,EJ p=true:=λp hp=>by
 have:=h.parts p hp;simp only[EP,Ac] at this;exact this.2
theorem TOk.at{t:Term}{i:Int}{gs:List (List Span)}(h:TOk t i gs):∀p∈t.parts,0<=p.at_/\p.at_<gs.length:=λp hp=>JR (h.parts p hp)
theorem SK:∀{l:List Span}{last:Int},L6 last l=true↔(∀s∈l,s.lo<=s.hi/\-1073741824<=s.lo/\s.hi<=1073741824/\last+1<s.lo)/\l.Pairwise λs t=>s.hi+1<t.lo
 |[],last=>by simp[L6]
 |s::l,last=>by
  rw[L6,Ac,Ah,SK (l:=l),AH];constructor
  ·rintro⟨h1,h2,h3⟩
   refine⟨λt ht=>?_,λt ht=>(h2 t ht).2.2.2,h3⟩;rcases Af.1 ht with rfl|ht
   ·exact h1
   ·have:=h2 t ht
    omega
  ·rintro⟨h1,h2,h3⟩
   exact⟨h1 s oc,λt ht=>⟨(h1 t (by simp[ht])).1,(h1 t (by simp[ht])).2.1,(h1 t (by simp[ht])).2.2.1,h2 t ht⟩,h3⟩
theorem z5q{g:List Span}:SE g=true↔g=AR g:=by
 rw[SE,SK];constructor
 ·rintro⟨h1,h2⟩
  exact (Gt ⟨λs hs=>(h1 s hs).1,h2⟩ λs hs=>⟨(h1 s hs).2.1,(h1 s hs).2.2.1⟩).symm
 ·intro h
  have hp:=(Bo g).1;have hb:=E6 g;rw[<-h] at hp hb;exact⟨λs hs=>by have:=hb s hs;omega,hp.2⟩
structure zuo(d:Desc):Prop where
 fin:K8 d
 rg:∀r∈d.rules,r.guards.length<=9223372036854775807
 fg:∀f∈d.finals,f.guards.length<=9223372036854775807
structure Hold(p:Prop):Prop where
 get:p
theorem MX{α:Type}[DecidableEq α][Inhabited α]{l m:List α}{k:Nat}(h1:k<l.length)(h2:k<m.length):decide (l.drop k=m.drop k)=(decide (nth l k=nth m k)&&decide (l.drop (k+1)=m.drop (k+1))):=by
 rw[drop_at h1,drop_at h2];simp
structure zks(gs:List (List Span))(out:List Term):Prop where
 g:gs.length<=1000000000000
 gl:∀l∈gs,l.length<=1000000000000
 o:out.length<=1000000000000
 ol:∀t∈out,t.parts.length<=1000000000000
structure zvc(d:Desc):Prop where
 r:d.rules.length<=1000000000000
 rs:∀r∈d.rules,zks r.guards r.out
 f:d.finals.length<=1000000000000
 fs:∀f∈d.finals,zks f.guards f.out
theorem zpe(s x:Int)(hx:-2147483648<=x/\x<=2147483647):PC Tryz.prog 133 [.int .i64 s,.int .i32 x] (.bool (IE s x)):=by
 refine Cd z9d ?_;unfold V6;(with_reducible repeat'(first|simp(disch:=omega)only[push_cast,↓zz,seval]|refine sp_ ?_ ?_<;>try(intro hc;push_cast at hc)|omega|intro _))
 all_goals first
  |(unfold IE;first|(refine ZL ?_;omega)|(refine ZM ?_;omega)|(refine P6 ?_;omega))
  |(rw[eq_comm];(unfold IE;first|(refine ZL ?_;omega)|(refine ZM ?_;omega)|(refine P6 ?_;omega)))
  
theorem zbk(s:Int)(l:List Int)(hl:l.length<=1000000000000)(h32:∀x∈l,-2147483648<=x/\x<=2147483647):PC Tryz.prog 97 [.int .i64 s,Bp l] (.bool (l.all (IE s))):=by
 refine Cd Yf ?_;unfold PV;refine ywA ?_
 refine Ba (B7 (λ(k:Nat)=>k<=l.length/\l.all (IE s)=(l.drop k).all (IE s)) (λk=>l.length-k)
  (λk=>[(0,.int .i64 s),(7,Bp l),(8,.int .i64 l.length),(9,.int .i64 k)]) (λ_=>[]) (λ_ _=>[]) 0 oc ?_ ?_)
 ·exact gwA
 rintro k ⟨hk,hr⟩;rcases Aj k l.length with hkl|hkl
 ·have hI:=zpe s (nth l k) (h32 _ (Bi hkl))
  rw[drop_at hkl,List.all_cons] at hr;generalize IE s (nth l k)=b at *;cases b with
  |true =>
   refine W_T ?_;have e_:=hI;refine ywC ?_;clear e_
   all_goals
    refine⟨k+1,?_⟩;refine ywA ?_;simpa using hr
  |false =>
   refine W_T ?_;have e_:=hI;refine ywC ?_;clear e_
   all_goals (rw[hr];rfl)
 ·rw[Ao hkl] at hr
  refine W_T ?_;refine ywA ?_
  all_goals (rw[hr];rfl)
noncomputable def askV (d:Desc) (x:List Int):Int:=if FB d≠0 then 2 else if 1024<x.length then 4 else if x.all (IE d.in_)=true then 0 else 1
theorem zbl(d:Desc)(x:List Int)(hf:K8 d)(hl:x.length<=9223372036854775807)(h32:∀v∈x,-2147483648<=v/\v<=2147483647):PC Tryz.prog 59 [C6 d,Bp x] (.int .i64 (askV d x)):=by
 have hC:=NG d hf;have hF:=λ(h:¬1024<x.length)=>zbk d.in_ x om h32;refine Cd Yb ?_;unfold PQ askV;generalize FB d=k at *;generalize x.all (IE d.in_)=b at *;by_cases hk:k=0
 ·subst hk
  rw[Ad oc];by_cases hx:1024<x.length
  ·rw[Ae hx]
   have e_:=hC;exact gwC
  ·rw[Ad hx]
   have hF:=hF hx;cases b with
   |true =>
    rw[Ae rfl];have e_:=hC;have e_1:=hF;exact gwC
   |false =>
    rw[Ad oc];have e_:=hC;have e_1:=hF;exact gwC
 ·rw[Ae hk]
  have f_:=hk;have e_:=hC;exact gwD
abbrev Fe(d:Desc)(x:List Int)(ru fi od li:AV):AV:=.cptr (.agg [.int .i64 d.in_,.int .i64 d.out,.int .i64 d.states,.int .i64 d.start,CB d.rules,Cv d.finals,Bp x,ru,fi,od,li])
def goB(x:List Int)(gs:List (List Span))(at_:Nat):Bool:=decide (gs.length+at_<=x.length)&&(List.range gs.length).all λk=>hasI (nth gs k) (nth x (at_+k))
theorem R3{p:Nat->Bool}{k n:Nat}(h:k<n)(hp:∀j,j<k->p j=true):(p k=false->(List.range n).all p=false):=λhk=>by
 rw[List.all_eq_false];exact⟨k,by simpa using h,by simp[hk]⟩
theorem Uu(d:Desc)(x:List Int)(ru fi od li:AV)(gs:List (List Span))(at_:Nat)(hr:ru.pure=true)(hfi:fi.pure=true)(ho:od.pure=true)(hli:li.pure=true)(hx:x.length<=1000000)(h32:∀v∈x,-2147483648<=v/\v<=2147483647)(hg:∀g∈gs,g.length<=1000000)(hgl:gs.length<=1000000)(ha:at_<=1000000):
 PC Tryz.prog 65 [Fe d x ru fi od li,AQ gs,.int .i64 at_] (.bool (goB x gs at_)):=by
 refine Cd Nw ?_;unfold Jt;(with_reducible repeat'(first|simp(disch:=omega)only[push_cast,↓zz,seval,hr,hfi,ho,hli]|refine sp_ ?_ ?_<;>try(intro hc;push_cast at hc)|omega|intro _))
 ·have:¬gs.length+at_<=x.length:=om
  simp[goB,this]
 have hfit:gs.length+at_<=x.length:=om
 have hgo:goB x gs at_=(List.range gs.length).all λk=>hasI (nth gs k) (nth x (at_+k)):=by simp[goB,hfit]
 rw[hgo]
 refine Ba (B7 (λ(k:Nat)=>k<=gs.length/\Hold (∀j,j<k->hasI (nth gs j) (nth x (at_+j))=true)) (λk=>gs.length-k)
  (λk=>[(0,Fe d x ru fi od li),(2,.int .i64 at_),(19,AQ gs),(20,.int .i64 gs.length),(21,.int .i64 k)]) (λ_=>[]) (λ_ _=>[]) 0 ⟨oc,⟨λj hj=>by omega⟩⟩ ?_ ?_)
 ·(with_reducible repeat'(first|simp(disch:=omega)only[push_cast,↓zz,seval,hr,hfi,ho,hli]|refine sp_ ?_ ?_<;>try(intro hc;push_cast at hc)|omega|intro _))
 rintro k ⟨hk,⟨hall⟩⟩;rcases Aj k gs.length with hkl|hkl
 ·have hHas:=z0p (nth gs k) (nth x (at_+k)) (by have:=hg _ (Bi hkl);omega)
  have hb:=h32 _ (Bi (show at_+k<x.length by omega));have hcast:((at_:Int)+k).toNat=at_+k:=om
  generalize hge:nth gs k=g at *;cases hh:hasI g (nth x (at_+k)) with
  |true =>
   rw[hh] at hHas
   have hnx:Hold (∀j,j<k+1->hasI (nth gs j) (nth x (at_+j))=true):=⟨λj hj=>by
    by_cases e:j=k
    ·subst e;rw[hge];exact hh
    ·exact hall j om⟩
   clear hall;refine W_T ?_;(with_reducible repeat'(first|simp(disch:=omega)only[push_cast,↓zz,seval,hr,hfi,ho,hli,hge,hcast]|refine sp_ ?_ ?_<;>try(intro hc;push_cast at hc)|refine ee hHas ?_|(refine cc hHas ?_;simp(disch:=omega)only[push_cast,↓zz,seval,hr,hfi,ho,hli,hge,hcast];fail_if_success change False)|omega|intro _))
   all_goals first
    |(refine⟨k+1,?_⟩
      (with_reducible repeat'(first|simp(disch:=omega)only[push_cast,↓zz,seval,hr,hfi,ho,hli]|refine sp_ ?_ ?_<;>try(intro hc;push_cast at hc)|omega|intro _))
      all_goals first|assumption|trace_state)
    
  |false =>
   rw[hh] at hHas;have hno:(List.range gs.length).all (λk=>hasI (nth gs k) (nth x (at_+k)))=false:=R3 hkl hall (by rw[hge];exact hh);rw[hno];clear hall hno;refine W_T ?_;have f_:=Aa hr (Aa hfi (Aa ho (Aa hli (Aa hge hcast))));have e_:=hHas;exact gwD
 ·obtain rfl:k=gs.length:=om
  have hyes:(List.range gs.length).all (λk=>hasI (nth gs k) (nth x (at_+k)))=true:=AP.2 λj hj=>hall j (by simpa using hj);rw[hyes];clear hall hyes;refine W_T ?_;have f_:=Aa hr (Aa hfi (Aa ho hli));exact gwB
theorem zhz(d:Desc)(x:List Int)(ru fi od li:AV)(f:DO)(at_:Nat)(hr:ru.pure=true)(hfi:fi.pure=true)(ho:od.pure=true)(hli:li.pure=true)(hx:x.length<=1000000)(h32:∀v∈x,-2147483648<=v/\v<=2147483647)(hg:∀g∈f.guards,g.length<=1000000)(hgl:f.guards.length<=1000000)(ha:at_<=1000000):
 PC Tryz.prog 63 [Fe d x ru fi od li,CY f,.int .i64 at_] (.bool (decide (f.guards.length+at_=x.length)&&goB x f.guards at_)):=by
 have hF:=Uu d x ru fi od li f.guards at_ hr hfi ho hli hx h32 hg hgl ha;refine Cd Nv ?_;unfold Js;generalize goB x f.guards at_=b at *;by_cases he:f.guards.length+at_=x.length
 ·rw[Bv he,Bj]
  have he2:(f.guards.length:Int)=(x.length:Int)-at_:=om
  have f_:=Aa hr (Aa hfi (Aa ho (Aa hli he2)));have e_:=hF;exact gwD
  all_goals first|omega
 ·rw[By he,B4]
  have he2:¬(f.guards.length:Int)=(x.length:Int)-at_:=om
  have f_:=Aa hr (Aa hfi (Aa ho (Aa hli he2)));have e_:=hF;exact gwD
  all_goals first|omega
def Gv(out:List Term)(w:List Int):List Int:=out.map λt=>IntKind.i32.wrap ((Ga t w).getD 0)
theorem SL(d:Desc)(x:List Int)(ru fi od li:AV)(out:List Term)(at_ n:Nat)(hr:ru.pure=true)(hfi:fi.pure=true)(ho:od.pure=true)(hli:li.pure=true)(hx:x.length<=1000000)(h32:∀v∈x,-2147483648<=v/\v<=2147483647)(hol:out.length<=1000000)(hop:∀t∈out,t.parts.length<=1000000)(ha:at_+n<=x.length):
 PC Tryz.prog 64 [Fe d x ru fi od li,C5 out,.int .i64 at_,.int .i64 n] (Bp (Gv out ((x.drop at_).take n))):=by
 have hwl:((x.drop at_).take n).length<=1000000:=by simp;omega
 have hw32:∀v∈(x.drop at_).take n,-2147483648<=v/\v<=2147483647:=λv hv=>h32 v (Bc (Be hv));have hV:=λt (ht:t∈out)=>z4s t ((x.drop at_).take n) (by have:=hop t ht;omega) om hw32;have hmw:List.take n (List.drop at_ (x.map (AV.int .i32)))=((x.drop at_).take n).map (AV.int .i32):=by rw[List.map_take,List.map_drop]
 have hcat:((at_:Int)+n).toNat=at_+n:=om
 have hdt:List.drop at_ (List.take (at_+n) x)=(x.drop at_).take n:=by rw[List.drop_take];simp
 have e0:∀w,Gv [] w=[]:=λ_=>rfl;have wl:∀w,(Gv out w).length=out.length:=λw=>by simp[Gv]
 have wt:∀w,List.take out.length (Gv out w)=Gv out w:=λw=>Ay (by rw[wl];exact Ab _);refine Cd LQ ?_;unfold I4;have f_:=Aa hr (Aa hfi (Aa ho hli));refine ywB ?_;clear f_
 refine Ba (B7 (λ(k:Nat)=>k<=out.length) (λk=>out.length-k)
  (λk=>[(0,Fe d x ru fi od li),(2,.int .i64 at_),(3,.int .i64 n),(9,.ref 0 1 0 k),(14,C5 out),(15,.int .i64 out.length),(16,.int .i64 k)]) (λk=>[⟨1,1,false,(Gv (out.take k) ((x.drop at_).take n)).map (AV.int .i32)⟩]) (λenv _=>[D4 1 (env 9)]) 0 oc ?_ ?_)
 ·have f_:=Aa hr (Aa hfi (Aa ho (Aa hli e0)));exact gwB
 intro k hk;have hlk:(Gv (out.take k) ((x.drop at_).take n)).length=k:=by simp[Gv];omega
 have pL:=Gb (Gv (out.take k) ((x.drop at_).take n));rcases Aj k out.length with hkl|hkl
 ·have hVk:=hV _ (Bi hkl)
  have e1:Gv (out.take (k+1)) ((x.drop at_).take n)=Gv (out.take k) ((x.drop at_).take n)++[IntKind.i32.wrap ((Ga (nth out k) ((x.drop at_).take n)).getD 0)]:=by rw[Gv,take_at hkl,Aw];rfl
  generalize hte:nth out k=t at *;generalize Gv (out.take k) ((x.drop at_).take n)=L at *;refine W_T ?_;have f_:=Aa hr (Aa hfi (Aa ho (Aa hli (Aa hte (Aa hmw (Aa hcat hdt))))));have e_:=hVk;refine ywD ?_;clear f_ e_
  all_goals
   refine⟨k+1,?_⟩;have f_:=Aa e1 (Aa hr (Aa hfi (Aa ho hli)));exact gwB
 ·obtain rfl:k=out.length:=om
  have et:out.take out.length=out:=Ay om;rw[et] at hlk pL ⊢;refine W_T ?_;have f_:=Aa hr (Aa hfi (Aa ho (Aa hli (Aa et (Aa wl wt)))));exact gwB
def ltW:List Int->List Int->Bool
 |[],[]=>false
 |[],_::_=>true
 |_::_,[]=>false
 |a::l,b::m=>if a<b then true else if b<a then false else ltW l m
theorem Iu:∀a,ltW a a=false
 |[]=>rfl
 |a::l=>by simp[ltW,Iu l]
theorem K9:∀a b c,ltW a b=true->ltW b c=true->ltW a c=true
 |[],[],_,h,_=>by simp[ltW] at h
 |[],b::m,[],_,h=>by simp[ltW] at h
 |[],_::_,_::_,_,_=>rfl
 |_::_,[],_,h,_=>by simp[ltW] at h
 |_::_,_::_,[],_,h=>by simp[ltW] at h
 |a::l,b::m,c::n,h1,h2=>by
  simp only[ltW] at h1 h2 ⊢;split at h1
  ·split at h2
   ·rw[Ae om]
   ·split at h2
    ·cases h2
    ·rw[Ae om]
  ·split at h1
   ·cases h1
   ·split at h2
    ·rw[Ae om]
    ·split at h2
     ·cases h2
     ·rw[Ad om,Ad om]
      exact K9 l m n h1 h2
theorem KA:∀a b,ltW a b=false->ltW b a=false->a=b
 |[],[],_,_=>rfl
 |[],_::_,h,_=>by simp[ltW] at h
 |_::_,[],_,h=>by simp[ltW] at h
 |a::l,b::m,h1,h2=>by
  have e1:¬a<b:=λh=>by simp[ltW,h] at h1
  have e2:¬b<a:=λh=>by simp[ltW,h] at h2
  rw[ltW,Ad e1,Ad e2] at h1;rw[ltW,Ad e2,Ad e1] at h2;have:a=b:=om
  rw[this,KA l m h1 h2]
def NK(l:List (List Int)):Prop:=l.Pairwise λa b=>ltW a b=true
theorem Uv:∀{l m:List (List Int)},NK l->NK m->(∀w,w∈l↔w∈m)->l=m
 |[],[],_,_,_=>rfl
 |[],b::m,_,_,h=>by have:=(h b).2 oc;cases this
 |a::l,[],_,_,h=>by have:=(h a).1 oc;cases this
 |a::l,b::m,h1,h2,h=>by
  rw[NK,AH] at h1 h2
  have e:a=b:=by
   rcases Af.1 ((h a).1 oc) with e|ha
   ·exact e
   ·rcases Af.1 ((h b).2 oc) with e|hb
    ·exact e.symm
    ·have k1:=h1.1 b hb
     have k2:=h2.1 a ha;have:=K9 _ _ _ k1 k2;rw[Iu] at this;cases this
  subst e;have hna:a∉l:=λhm=>by have:=h1.1 a hm;rw[Iu] at this;cases this
  have hnb:a∉m:=λhm=>by have:=h2.1 a hm;rw[Iu] at this;cases this
  rw[Uv (l:=l) (m:=m) h1.2 h2.2 λw=>?_];constructor
  ·intro hw
   rcases Af.1 ((h w).1 (by simp[hw])) with e|e
   ·subst e;exact absurd hw hna
   ·exact e
  ·intro hw
   rcases Af.1 ((h w).2 (by simp[hw])) with e|e
   ·subst e;exact absurd hw hnb
   ·exact e
def insU(w:List Int):List (List Int)->List (List Int)
 |[]=>[w]
 |a::l=>if ltW w a=true then w::a::l else if ltW a w=true then a::insU w l else a::l
theorem Uw(w:List Int):∀(l:List (List Int))(v:List Int),v∈insU w l↔v=w\/v∈l
 |[],v=>by simp[insU]
 |a::l,v=>by
  simp only[insU];split
  ·simp
  ·split
   ·rw[Af,Uw w l v,Af]
    constructor
    ·rintro (h|h|h)
     ·exact .inr (.inl h)
     ·exact .inl h
     ·exact .inr (.inr h)
    ·rintro (h|h|h)
     ·exact .inr (.inl h)
     ·exact .inl h
     ·exact .inr (.inr h)
   ·rename_i h1 h2
    have e:w=a:=KA w a (by simpa using h1) (by simpa using h2);subst e;simp
theorem W5(w:List Int):∀{l:List (List Int)},NK l->NK (insU w l)
 |[],_=>EX _ _
 |a::l,h=>by
  have h':=h;rw[NK,AH] at h';simp only[insU];split
  ·rename_i h1
   refine AH.2 ⟨λv hv=>?_,h⟩;rcases Af.1 hv with rfl|hv
   ·exact h1
   ·exact K9 _ _ _ h1 (h'.1 v hv)
  ·split
   ·rename_i h2
    refine AH.2 ⟨λv hv=>?_,W5 w h'.2⟩;rcases (Uw w l v).1 hv with rfl|hv
    ·exact h2
    ·exact h'.1 v hv
   ·exact h
def Lv(l:List (List Int)):List (List Int):=l.foldr insU []
theorem KB:∀(l:List (List Int))(v:List Int),v∈Lv l↔v∈l
 |[],v=>Iff.rfl
 |a::l,v=>by
  show v∈insU a (Lv l)↔_;rw[Uw,KB l v,Af]
theorem Li:∀(l:List (List Int)),NK (Lv l)
 |[]=>List.Pairwise.nil
 |a::l=>W5 a (Li l)
theorem z1n{l m:List (List Int)}(h1:NK m)(h2:∀w,w∈m↔w∈l):Lv l=m:=Uv (Li l) h1 λw=>(KB l w).trans (h2 w).symm
theorem z1o(w:List Int):∀l:List (List Int),(insU w l).length<=l.length+1
 |[]=>by simp[insU]
 |a::l=>by
  have:=z1o w l;simp only[insU];repeat' split
  all_goals simp;try omega
theorem W6:∀l:List (List Int),(Lv l).length<=l.length
 |[]=>Ab _
 |a::l=>by
  have:=W6 l;have h2:=z1o a (Lv l);show (insU a (Lv l)).length<=_;simp;omega
theorem MY{α:Type}:∀{l m:List α},l.Nodup->(∀w∈l,w∈m)->l.length<=m.length
 |[],m,_,_=>Ap _
 |a::l,m,hn,h=>by
  obtain⟨s,t,rfl⟩:=List.append_of_mem (h a oc);rw[Cc] at hn
  have:=MY (l:=l) (m:=s++t) hn.2 λw hw=>by
   have:=h w (by simp[hw]);simp only[Av,Af] at this ⊢;rcases this with h1|h1|h1
   ·exact .inl h1
   ·subst h1;exact absurd hw hn.1
   ·exact .inr h1
  simp only[Ai,List.length_cons] at this ⊢;omega
def epsI(l:List Rule)(s:Int):List Nat:=(List.range l.length).filter λi=>DL (nth l i)&&decide ((nth l i).from_=s)
theorem z1p{l:List Rule}{s:Int}{i:Nat}:i∈epsI l s↔i<l.length/\DL (nth l i)=true/\(nth l i).from_=s:=by
 simp[epsI]
def okP(l:List Rule):Int->List Nat->Prop
 |_,[]=>True
 |s,i::p=>i∈epsI l s/\okP l (nth l i).to_ p
def endP(l:List Rule):Int->List Nat->Int
 |s,[]=>s
 |_,i::p=>endP l (nth l i).to_ p
theorem zup{l:List Rule}{on:Nat->Bool}{i j:Nat}(hi:i<l.length)(he:DL (nth l i)=true)(ho:on (nth l i).from_.toNat=true)(ht:(nth l i).to_=j):onF l on j=true:=by
 rw[onF,Ct];exact⟨nth l i,Bi hi,by simp[he,ho,ht]⟩
theorem zkt{l:List Rule}{n:Nat}(hl:∀r∈l,(0<=r.from_/\r.from_<n)/\0<=r.to_/\r.to_<n):∀(p:List Nat)(k:Nat)(s:Int),0<=s->onK l k s.toNat=true->okP l s p->onK l (k+p.length) (endP l s p).toNat=true
 |[],k,s,_,ho,_=>ho
 |i::p,k,s,hs,ho,hp=>by
  obtain⟨h1,h2,h3⟩:=z1p.1 hp.1;have hr:=hl _ (Bi h1);have ht:onK l (k+1) (nth l i).to_.toNat=true:=zup h1 h2 (by rw[h3];exact ho) om;have:=zkt hl p (k+1) (nth l i).to_ hr.2.1 ht hp.2;rw[List.length_cons,show k+(p.length+1)=k+1+p.length by omega];exact this
theorem zpf{l:List Rule}{n:Nat}(hl:∀r∈l,(0<=r.from_/\r.from_<n)/\0<=r.to_/\r.to_<n)(hc:¬cycP l n){s:Int}(hs:0<=s){p:List Nat}(hp:okP l s p):p.length<=n+1:=by
 have hcr:¬cycR l n=true:=λh=>hc ((zgr hl).1 h)
 have:∃k,k<=n/\z4w l (onK l k)=false:=by
  refine B5 λhh=>hcr ?_;rw[cycR,AP];intro k hk;refine B5 λh2=>hh ⟨k,by simp at hk;omega,by simpa using h2⟩
 obtain⟨k,hk,hkf⟩:=this
 have hno:∀j,onK l (k+1) j=false:=λj=>by
  refine B5 λhh=>?_;have h1:onF l (onK l k) j=true:=by simpa [onK] using hh
  rw[onF,Ct] at h1;obtain⟨r,hr,h2⟩:=h1;simp only[Ac] at h2
  have:z4w l (onK l k)=true:=by
   rw[z4w,Ct];exact⟨r,hr,by simp[h2.1,h2.2.1]⟩
  rw[hkf] at this;cases this
 refine B5 λhlen=>?_;have h1:=zkt hl p 0 s hs rfl hp;rw[AY] at h1
 have down:∀m j,onK l (k+1+m) j=true->onK l (k+1) j=true:=λm=>by
  induction m with
  |zero=>exact λj h=>h
  |succ m ih=>exact λj h=>ih j (Ue l _ j h)
 have:=down (p.length-(k+1)) (endP l s p).toNat (by rw[show k+1+(p.length-(k+1))=p.length by omega];exact h1);rw[hno] at this;cases this
theorem Ux(l:List Rule):∀(s:Int)(p q:List Nat),endP l s (p++q)=endP l (endP l s p) q
 |s,[],q=>rfl
 |s,i::p,q=>Ux l _ p q
theorem YL(l:List Rule):∀(s:Int)(p q:List Nat),okP l s (p++q)↔okP l s p/\okP l (endP l s p) q
 |s,[],q=>by simp[okP,endP]
 |s,i::p,q=>by simp[okP,endP,YL l _ p q,and_assoc]
def GR(x:List Int)(out:List Term)(gs:List (List Span))(at_:Nat):List Int:=Gv out ((x.drop at_).take gs.length)
inductive RelW(d:Desc)(x:List Int):Nat->Int->List Int->Prop
 |fin {at_:Nat} {s:Int} (f:DO):f∈d.finals->f.from_=s->f.guards.length+at_=x.length->goB x f.guards at_=true->RelW d x at_ s (GR x f.out f.guards at_)
 |step {at_:Nat} {s:Int} (r:Rule) (w:List Int):r∈d.rules->r.from_=s->goB x r.guards at_=true->RelW d x (at_+r.eat.toNat) r.to_ w->RelW d x at_ s (GR x r.out r.guards at_++w)
theorem Pg{d:Desc}{x:List Int}{at_:Nat}{s:Int}{w:List Int}:RelW d x at_ s w ↔
 (∃f∈d.finals,f.from_=s/\(f.guards.length+at_=x.length/\goB x f.guards at_=true)/\w=GR x f.out f.guards at_) \/
 ∃r∈d.rules,r.from_=s/\goB x r.guards at_=true/\∃v,RelW d x (at_+r.eat.toNat) r.to_ v/\w=GR x r.out r.guards at_++v:=by
 constructor
 ·rintro (⟨f,h1,h2,h3,h4⟩|⟨r,v,h1,h2,h3,h4⟩)
  ·exact .inl ⟨f,h1,h2,⟨h3,h4⟩,rfl⟩
  ·exact .inr ⟨r,h1,h2,h3,v,h4,rfl⟩
 ·rintro (⟨f,h1,h2,⟨h3,h4⟩,rfl⟩|⟨r,h1,h2,h3,v,h4,rfl⟩)
  ·exact .fin f h1 h2 h3 h4
  ·exact .step r v h1 h2 h3 h4
def Mj(d:Desc)(x:List Int)(at_:Nat)(s:Int)(L:List (List Int)):Prop:=NK L/\∀w,w∈L↔RelW d x at_ s w
theorem zi0{d:Desc}{x:List Int}{at_:Nat}{s:Int}{L M:List (List Int)}(h1:Mj d x at_ s L)(h2:Mj d x at_ s M):L=M:=Uv h1.1 h2.1 λw=>(h1.2 w).trans (h2.2 w).symm
def outL(d:Desc)(x:List Int)(S:Nat->Int->List (List Int))(at_:Nat)(s:Int):List (List Int) :=
 ((d.finals.filter λf=>decide (f.from_=s)&&(decide (f.guards.length+at_=x.length)&&goB x f.guards at_)).map λf=>GR x f.out f.guards at_) ++
 (d.rules.filter λr=>decide (r.from_=s)&&goB x r.guards at_).flatMap λr=>(S (at_+r.eat.toNat) r.to_).map (GR x r.out r.guards at_++·)
theorem zi1{d:Desc}{x:List Int}{S:Nat->Int->List (List Int)}{at_:Nat}{s:Int}(h:∀r∈d.rules,r.from_=s->goB x r.guards at_=true->∀v,v∈S (at_+r.eat.toNat) r.to_↔RelW d x (at_+r.eat.toNat) r.to_ v)(w:List Int):w∈outL d x S at_ s↔RelW d x at_ s w:=by
 rw[Pg,outL,Av,Al,EK];constructor
 ·rintro (⟨f,hf,rfl⟩|⟨r,hr,hw⟩)
  ·obtain⟨h1,h2⟩:=AW.1 hf
   simp only[Ac,Ah] at h2;exact .inl ⟨f,h1,h2.1,h2.2,rfl⟩
  ·obtain⟨h1,h2⟩:=AW.1 hr
   simp only[Ac,Ah] at h2;obtain⟨v,hv,rfl⟩:=Al.1 hw;exact .inr ⟨r,h1,h2.1,h2.2,v,(h r h1 h2.1 h2.2 v).1 hv,rfl⟩
 ·rintro (⟨f,h1,h2,h3,rfl⟩|⟨r,h1,h2,h3,v,hv,rfl⟩)
  ·exact .inl ⟨f,AW.2 ⟨h1,by simp[h2,h3.1,h3.2]⟩,rfl⟩
  ·exact .inr ⟨r,AW.2 ⟨h1,by simp[h2,h3]⟩,Al.2 ⟨v,(h r h1 h2 h3 v).2 hv,rfl⟩⟩
theorem z1q{d:Desc}{x:List Int}{S:Nat->Int->List (List Int)}{at_:Nat}{s:Int}(h:∀r∈d.rules,r.from_=s->goB x r.guards at_=true->Mj d x (at_+r.eat.toNat) r.to_ (S (at_+r.eat.toNat) r.to_)):Mj d x at_ s (Lv (outL d x S at_ s)) :=
 ⟨Li _,λw=>(KB _ w).trans (zi1 (λr h1 h2 h3 v=>(h r h1 h2 h3).2 v) w)⟩
structure Topo(l:List Rule)(n:Nat)(ord:List Nat):Prop where
 nodup:ord.Nodup
 all:∀s,s∈ord↔s<n
 eps:∀i,i<ord.length->∀r∈l,DL r=true->r.from_=(nth ord i:Nat)->∃t:Nat,r.to_=t/\t∈ord.take i
structure Goes(d:Desc)(n:Nat):Prop where
 r:∀r∈d.rules,(0<=r.from_/\r.from_<n)/\(0<=r.to_/\r.to_<n)/\r.eat.toNat<=r.guards.length/\(DL r=false->1<=r.eat.toNat)
theorem L8{x:List Int}{gs:List (List Span)}{at_:Nat}(h:goB x gs at_=true):gs.length+at_<=x.length:=by
 simp only[goB,Ac,Ah] at h;exact h.1
theorem zbm{d:Desc}{n:Nat}(hg:Goes d n){r:Rule}(hr:r∈d.rules)(he:DL r=true):r.eat.toNat=0:=by
 have h1:=(hg.r r hr).2.2.1;simp only[DL,Ah] at he;omega
theorem zuq{d:Desc}{n:Nat}{x:List Int}{ord:List Nat}(hg:Goes d n)(ht:Topo d.rules n ord):∀(k at_:Nat),x.length-at_<k->at_<=x.length->∀s:Nat,s<n->∃L,Mj d x at_ s L:=by
 intro k
 induction k with
 |zero=>intro at_ h;omega
 |succ k ih =>
  intro at_ hk ha
  have key:∀i,i<=ord.length->∀s:Nat,s∈ord.take i->∃L,Mj d x at_ s L:=λi=>by
   induction i with
   |zero=>intro _ s hs;simp at hs
   |succ i ihi =>
    intro hi s hs;rw[take_at om,Av,Am] at hs;rcases hs with hs|rfl
    ·exact ihi om s hs
    ·have hnx:∀r∈d.rules,r.from_=(nth ord i:Nat)->goB x r.guards at_=true->∃L,Mj d x (at_+r.eat.toNat) r.to_ L:=λr hr hf hgo=>by
      obtain⟨_,⟨t1,t2⟩,e1,e2⟩:=hg.r r hr;have hle:=L8 hgo;cases he:DL r with
      |true =>
       obtain⟨t,h1,h2⟩:=ht.eps i om r hr he hf;rw[zbm hg hr he,h1,Nat.add_zero];exact ihi om t h2
      |false =>
       have:=e2 he;have h3:=ih (at_+r.eat.toNat) om om r.to_.toNat om
       rwa [BS t1] at h3
     classical
     exact⟨_,z1q (S:=λa t=>if h:∃L,Mj d x a t L then h.choose else []) λr hr hf hgo=>by
      have h:=hnx r hr hf hgo;simp only[dif_pos h]
      exact h.choose_spec⟩
  intro s hs;exact key ord.length (Ab _) s (by rw[As];exact (ht.all s).2 hs)
open Classical in
noncomputable def outW (d:Desc) (x:List Int) (at_:Nat) (s:Int):List (List Int):=if h:∃L,Mj d x at_ s L then h.choose else []
theorem W7{d:Desc}{x:List Int}{at_:Nat}{s:Int}(h:∃L,Mj d x at_ s L):Mj d x at_ s (outW d x at_ s):=by
 rw[outW,dif_pos h];exact h.choose_spec
theorem zbn{d:Desc}{x:List Int}{at_:Nat}{s:Int}{L:List (List Int)}(h:Mj d x at_ s L):outW d x at_ s=L:=zi0 (W7 ⟨L,h⟩) h
inductive W8(d:Desc)(x:List Int):Nat->Int->List Int->Nat->Int->Prop
 |here {at_:Nat} {s:Int}:W8 d x at_ s [] at_ s
 |step {at_:Nat} {s:Int} {u:List Int} {a:Nat} {t:Int} (r:Rule):W8 d x at_ s u a t->r∈d.rules->r.from_=t->goB x r.guards a=true->W8 d x at_ s (u++GR x r.out r.guards a) (a+r.eat.toNat) r.to_
theorem zi2{d:Desc}{x:List Int}{at_:Nat}{s:Int}{u:List Int}{a:Nat}{t:Int}(h:W8 d x at_ s u a t):∀{w:List Int},RelW d x a t w->RelW d x at_ s (u++w):=by
 induction h with
 |here=>intro w hw;exact hw
 |step r _ h1 h2 h3 ih =>
  intro w hw;rw[A3];exact ih (.step r w h1 h2 h3 hw)
theorem z1r{d:Desc}{x:List Int}{at_:Nat}{s:Int}{u:List Int}{a:Nat}{t:Int}(h:W8 d x at_ s u a t){L M:List (List Int)}(hL:Mj d x a t L)(hM:Mj d x at_ s M):L.length<=M.length:=by
 have h1:(L.map (u++·)).length<=M.length:=by
  refine MY ?_ λw hw=>?_
  ·have hn:L.Nodup:=List.Pairwise.imp (λ{a b} hab (e:a=b)=>by subst e;rw[Iu] at hab;cases hab) hL.1
   exact List.Pairwise.map _ (λa b hab (e:u++a=u++b)=>hab (List.append_cancel_left e)) hn
  ·obtain⟨v,hv,rfl⟩:=Al.1 hw
   exact (hM.2 _).2 (zi2 h ((hL.2 v).1 hv))
 simpa using h1
section
variable {α:Type}(w:Nat)(e:α->AV)
def gG(v:Nat)(l:List α):Grp:=⟨w,v,l.isEmpty,l.map e⟩
def fF(n:Nat)(V:Nat->Nat)(D:Nat->List α):List Grp:=(List.range n).map λi=>gG w e (V i) (D i)
def fT(o n:Nat)(V:Nat->Nat)(D:Nat->List α):List AV:=(List.range n).map λi=>AV.ref (i+o) (V i) 0 (D i).length
def fD(n:Nat)(D:Nat->List α):List AV:=(List.range n).map λi=>AV.lst w ((D i).map e)
def setD(D:Nat->List α)(i:Nat)(l:List α)(p:Nat):List α:=if p=i then l else D p
variable {w e}{n o i:Nat}{V:Nat->Nat}{D:Nat->List α}
theorem Ha:(fF w e n V D).length=n:=by simp[fF]
theorem W9:(fT o n V D).length=n:=by simp[fT]
theorem z1s:(fD w e n D).length=n:=by simp[fD]
theorem OH(h:i<n):(fF w e n V D).getD i default=gG w e (V i) (D i):=Dn h
theorem zbo{z:AV}(h:i<n):(fT o n V D).getD i z=.ref (i+o) (V i) 0 (D i).length:=Dn h
theorem zi3{z:AV}(h:i<n):(fD w e n D).getD i z=.lst w ((D i).map e):=Dn h
theorem z1t(h:i<n):(fD w e n D)[i]? = some (.lst w ((D i).map e)):=by simp[fD,h]
theorem Fg(he:∀x,(e x).pure=true)(l:List α):AJ (l.map e)=true:=Bz.2 λx hx=>by
 obtain⟨y,_,rfl⟩:=Al.1 hx;exact he y
theorem GT(he:∀x,(e x).pure=true):AJ (fD w e n D)=true:=Bz.2 λx hx=>by
 obtain⟨i,_,rfl⟩:=Al.1 hx;exact Fg he _
theorem WA{l:List α}(h:i<n):(fT o n V D).set i (.ref (i+o) (V i+1) 0 l.length)=fT o n (setV V i (V i+1)) (setD D i l):=by
 rw[fT,E0 h,fT];refine A6 λj _=>?_;by_cases hj:j=i
 ·subst hj;simp[setV,setD]
 ·simp[setV,setD,hj]
theorem SN{l:List α}(hl:l≠[])(h:i<n):(fF w e n V D).set i ⟨w,V i+1,false,l.map e⟩=fF w e n (setV V i (V i+1)) (setD D i l):=by
 rw[fF,E0 h,fF];refine A6 λj _=>?_;by_cases hj:j=i
 ·subst hj
  cases l with
  |nil=>exact absurd rfl hl
  |cons a l=>simp[setV,setD,gG]
 ·simp[setV,setD,hj,gG]
theorem YM(l:List α):(!l.isEmpty||(l.map e).isEmpty)=true:=by cases l<;>rfl
theorem SO{F R:List Grp}(hF:F.length=n)(h:i<n):(F++R).getD i default=F.getD i default:=by
 rw[Ak,A9 om,<-Ak]
theorem zbp{F R:List Grp}(hF:F.length=n)(k:Nat):(F++R).getD (n+k) default=R.getD k default:=by
 rw[Ak,AG om,<-Ak];congr 1;omega
theorem IT{F R:List Grp}(hF:F.length=n):(F++R).getD n default=R.getD 0 default:=by
 have:=zbp (R:=R) hF 0;simpa using this
theorem NL{G:Grp}:∀{F R:List Grp}{i:Nat},i<F.length->setQ (F++R) i G=some (F.set i G++R)
 |[],_,_,h=>by simp at h
 |a::F,R,0,h=>rfl
 |a::F,R,i+1,h=>by rw[List.cons_append,setQ,NL (by simpa using h)];rfl
theorem Uy{G:Grp}:∀{F:List Grp}{i:Nat},i<F.length->setQ F i G=some (F.set i G)
 |[],_,h=>by simp at h
 |a::F,0,h=>rfl
 |a::F,i+1,h=>by rw[setQ,Uy (by simpa using h)];rfl
theorem Uz{G:Grp}:∀(F R:List Grp){n:Nat}(k:Nat),F.length=n->setQ (F++R) (n+k) G=(setQ R k G).map (F++·)
 |[],R,n,k,h=>by
  obtain rfl:n=0:=by simpa using h.symm
  rw[AY,List.nil_append];cases setQ R k G<;>rfl
 |a::F,R,n,k,h=>by
  obtain⟨m,rfl⟩:∃m,n=m+1:=⟨n-1,by simp at h;omega⟩;rw[show m+1+k=m+k+1 by omega,List.cons_append,setQ,Uz F R k (by simpa using h)];cases setQ R k G<;>rfl
theorem KC{G:Grp}(F R:List Grp){n:Nat}(h:F.length=n):setQ (F++R) n G=(setQ R 0 G).map (F++·):=by
 have:=Uz (G:=G) F R 0 h;simpa using this
theorem Ph{ks:List Nat}{F R:List Grp}{G:Grp}{p i:Nat}(hi:i<F.length)(h:p+i∈ks):Cw p ks (F++R) (F.set i G++R):=by
 rw[<-FF _ _ hi];exact ID h
theorem zur:fF w e n (λ_=>1) (λ_=>[])=(List.replicate n w).map Jo:=by
 rw[Ek];refine BL (by simp[fF]) λi h1 h2=>?_;simp only[fF,Dt,D1,List.getElem_replicate];rfl
theorem zpg{l:List Grp}{o n:Nat}(hw:0<w)(h:∀i,i<n->l.getD (i+o) default=Jo w/\i+o<l.length):leSL l (List.replicate n .nilS) (fT o n (λ_=>1) λ_=>([]:List α)):=by
 have key:∀idx:List Nat,(∀i∈idx,i<n)->leSL l (List.replicate idx.length .nilS) (idx.map λi=>AV.ref (i+o) 1 0 0):=λidx=>by
  induction idx with
  |nil=>exact λ_=>rfl
  |cons i idx ih =>
   intro hi;obtain⟨h1,h2⟩:=h i (hi i oc);refine⟨?_,ih λj hj=>hi j (by simp[hj])⟩;show 0=0/\0=0/\(l.getD (i+o) default).ver=1/\0<(l.getD (i+o) default).w/\(l.getD (i+o) default).xs=[]/\(l.getD (i+o) default).exact=true/\i+o<l.length;rw[h1];exact⟨rfl,rfl,rfl,hw,rfl,rfl,h2⟩
 have:=key (List.range n) λi hi=>by simpa using hi
 rwa [C0] at this
theorem WB{m o:Nat}(h:n+o<=m):ltL m (fT o n V D):=by
 have key:∀(l:List Nat),(∀i∈l,i<n)->ltL m (l.map λi=>AV.ref (i+o) (V i) 0 (D i).length):=λl=>by
  induction l with
  |nil=>exact λ_=>trivial
  |cons i l ih =>
   intro h';exact⟨by have:=h' i oc;show i+o<_;omega,ih λj hj=>h' j (by simp[hj])⟩
 exact key _ λi hi=>by simpa using hi
theorem O7{m:Nat}(he:∀x,(e x).pure=true):∀G∈fF w e n V D,ltL m G.xs:=λG hG=>by
 obtain⟨i,_,rfl⟩:=Al.1 hG;exact BU _ _ (Fg he _)
theorem SP(l0:List Grp){G':Grp}:∀{l:List Grp}{t:Nat},t<l.length->z4a l0 (l.getD t default) G'->IM l0 l (l.set t G')
 |[],_,h,_=>by simp at h
 |a::l,0,_,h=>⟨h,H9 l0 l⟩
 |a::l,t+1,hl,h=>⟨⟨rfl,rfl,id,AN _ _⟩,SP l0 (by simpa using hl) (by simpa using h)⟩
theorem U0{m b t v:Nat}{env:Env}{l:List Grp}{ex:Bool}(hw:0<w)(ht:t<l.length)(hg:l.getD t default=⟨1,v,ex,List.replicate n .nilS⟩):
 Ent m b env (Abs.hl l) env (Abs.hl (l.set t ⟨1,v,ex,fT l.length n (λ_=>1) λ_=>([]:List α)⟩++fF w e n (λ_=>1) λ_=>[])):=by
 refine (Hk (List.replicate n w) (λx hx=>by have:=(List.mem_replicate.1 hx).2;omega)).trans (GY ?_ λi _=>Bn _ _);rw[zur,<-FF _ _ ht];refine SP _ (by simp;omega) ?_;rw[Ak,A9 ht,<-Ak,hg];refine⟨rfl,rfl,id,zpg hw λi hi=>⟨?_,by simp;omega⟩⟩;rw[Ak,AG om,Ek];simp[hi]
def fKs(t o n:Nat):List Nat:=t::(List.range n).map (·+o)
theorem QI{t i:Nat}(h:i<n):i+o∈fKs t o n:=Af.2 (.inr (Al.2 ⟨i,AF.2 h,rfl⟩))
theorem Jd{t g:Nat}(h:g≠t)(h2:g<o\/o+n<=g):g∉fKs t o n:=λhh=>by
 rcases Af.1 hh with hh|hh
 ·exact h hh
 ·obtain⟨i,hi,rfl⟩:=Al.1 hh
  have:=AF.1 hi;omega
theorem QJ{H:A4}{t v:Nat}{ex:Bool}(hw:0<w)(he:∀x,(e x).pure=true)(h1:H.at_ t=⟨1,v,ex,fT o n V D⟩)(h2:∀i,i<n->H.at_ (i+o)=gG w e (V i) (D i)):
 DX 2 (H.only (fKs t o n)) (.ref t v 0 n)/\frzV 2 (H.only (fKs t o n)) (.ref t v 0 n)=.lst 1 (fD w e n D):=by
 have hat1:(H.only (fKs t o n)).at_ t=⟨1,v,ex,fT o n V D⟩:=by
  show (if t∈fKs t o n then H.at_ t else (H.at_ t).dead)=_;rw[Ae (by simp[fKs]),h1]
 have hat:∀i,i<n->(H.only (fKs t o n)).at_ (i+o)=gG w e (V i) (D i):=λi hi=>by
  show (if i+o∈fKs t o n then H.at_ (i+o) else (H.at_ (i+o)).dead)=_;rw[Ae (QI hi),h2 i hi]
 have htl:(((fT o n V D).drop 0).take n)=fT o n V D:=by
  rw[BH];exact Ay (by simp[fT])
 have hz:∀x,frzV 0 (H.only (fKs t o n)) x=x:=λx=>rfl;constructor
 ·refine⟨by rw[hat1],by rw[hat1];exact Nat.one_pos,by rw[hat1];simp[fT],λy hy=>?_⟩
  rw[hat1,htl] at hy;obtain⟨i,hi,rfl⟩:=Al.1 hy;have hi':i<n:=by simpa using hi
  refine⟨by rw[hat i hi'];rfl,by rw[hat i hi'];exact hw,by rw[hat i hi'];simp[gG],λz hz=>?_⟩;rw[hat i hi'] at hz;obtain⟨u,_,rfl⟩:=Al.1 (Bc (Be hz));exact he u
 ·show AV.lst _ _=_
  rw[hat1,htl,fT,BP];congr 1;refine A6 λi hi=>?_;have hi':i<n:=by simpa using hi
  show AV.lst _ _=_;rw[hat i hi']
  have e1:(((gG w e (V i) (D i)).xs.drop 0).take (D i).length).map (frzV 0 (H.only (fKs t o n)))=(D i).map e:=by
   rw[BH,Ay (by simp[gG])];refine (A6 λx hx=>?_).trans (DV _);exact hz x
  rw[e1];rfl
theorem MZ{F:List Grp}{t o:Nat}:∀{i:Nat},(∀j,j<F.length->i+j∈fKs t o n)->Ec i (fKs t o n) F=F.map Grp.dead:=by
 induction F with
 |nil=>intro i _;rfl
 |cons G F ih =>
  intro i h
  rw[Ec,Ae (by have:=h 0 oc;simpa using this),AD,ih λj hj=>by
   have:=h (j+1) (by simpa using hj)
   rwa [show i+1+j=i+(j+1) by omega]]
theorem WC(ks:List Nat):∀(i:Nat)(l r:List Grp),Ec i ks (l++r)=Ec i ks l++Ec (i+l.length) ks r
 |i,[],r=>by simp[Ec]
 |i,G::l,r=>by
  rw[List.cons_append,Ec,Ec,WC ks (i+1) l r,List.cons_append,List.length_cons,show i+1+l.length=i+(l.length+1) by omega]
end
def IF(m:Nat)(env:Env):List (Nat × AV)->Prop
 |[]=>True
 |(t,y)::r=>env t=y/\ltV m y/\IF m env r
theorem Dq{m:Nat}{env:Env}:∀{L:List (Nat × AV)},IF m env L->∀p∈L,env p.1=p.2
 |[],_,p,hp=>by cases hp
 |(t,y)::r,h,p,hp=>by
  rcases Af.1 hp with rfl|hp
  ·exact h.1
  ·exact Dq h.2.2 p hp
theorem J8{m:Nat}{env:Env}:∀{L:List (Nat × AV)},IF m env L->∀i,ltV m (BO L i)
 |[],_,i=>trivial
 |(t,y)::r,h,i=>by
  show ltV m (if i=t then y else BO r i);split
  ·exact h.2.1
  ·exact J8 h.2.2 i
theorem B3{n b:Nat}{env:Env}{l l0 gar:List Grp}(L:List (Nat × AV))(hl':l=l0++gar)(hb:b<=l0.length)(hcl:∀G∈l0,ltL l0.length G.xs)(hL:IF l0.length env L):Ent n b env (Abs.hl l) (BO L) (Abs.hl l0):=by
 subst hl';exact (Ea L (Dq hL)).trans (I9 hb hcl λi _=>J8 hL i)
theorem EU{P:Program}{f:Nat}{xs:List AV}{l:List Grp}{K:AV->A4->Prop}(h:B9 P f xs (Abs.hl l) (λy H'=>∃y' H'',Ent 1 l.length (λ_=>y) H' (λ_=>y') H''/\K y' H'')):B9 P f xs (Abs.hl l) K :=
 ⟨h.1,λS cargs hS hx=>(h.2 S cargs hS hx).mono λe w' hh=>by
  obtain⟨v,S1,y,H',he,hw,ev,hS1,hv,y',H'',h1,h2⟩:=hh;have hn:S.n=l.length:=hS.n;obtain⟨S2,q1,q2,q3,q4⟩:=h1 S1 (λ_=>v) (by rw[<-hn];exact ev.n) hS1 (λi _=>hv);have hb:=(ev.down (b:=l.length) om).trans q2
  exact⟨v,S2,y',_,he,q1.trans hw,⟨hb.base,hb.os,hb.tape,hb.output,hb.size,hb.kept,hb.im,hb.keep,hb.fresh,by rw[hn];exact hb.n,λg hg=>hb.cur g om,λg hg=>hb.same g om⟩,q3,q4 0 Nat.one_pos,h2⟩⟩
theorem IU{b:Nat}{y:AV}{l l0 gar:List Grp}(hl':l=l0++gar)(hb:b<=l0.length)(hcl:∀G∈l0,ltL l0.length G.xs)(hy:ltV l0.length y):Ent 1 b (λ_=>y) (Abs.hl l) (λ_=>y) (Abs.hl l0):=by
 subst hl';exact I9 hb hcl λi _=>hy
theorem z1u{P:Program}{f:Nat}{xs:List AV}{l l0 extra:List Grp}{K0 K:AV->A4->Prop}(hl':l=l0++extra)(h:B9 P f xs (Abs.hl l0) K0)(hlt:ltL l0.length xs)(hltG:∀G∈l0,ltL l0.length G.xs)
 (hK:∀y H',K0 y H'->∃l',H'=Abs.hl l'/\l'.length=l0.length/\ltV l0.length y/\(∀G∈l',ltL l0.length G.xs)/\@nx y (Abs.hl (l'++extra)) ⟨K⟩):@Rs P f xs (Abs.hl l) ⟨K⟩:=by
 subst hl';exact zad h hlt hltG hK
abbrev KD:AV:=.agg [.int .i64 0,.int .i64 0,.int .i64 0,.int .i64 0,.int .i64 0,.nilS]
theorem z5r(n:Nat)(h0:0<n)(hn:n<=1000000000):B9 Tryz.prog 148 [.nilS,.int .i64 n] (Abs.hl []) λy H'=>y=.ref 0 1 0 0/\H'=Abs.hl [⟨6,1,false,List.replicate n KD⟩]:=by
 refine Gh (b:=0) FK rfl ?_;unfold Et;have e0:((n:Int)-0).toNat=n:=om
 have f_:=e0;exact gwB
theorem YN:PC Tryz.prog 148 [.nilS,.int .i64 0] .nilS:=by
 refine Cd FK ?_;unfold Et;exact gwA
theorem J9(l:List Term):AJ (l.map C9)=true:=Cy l
def HL(ws:List (List Term))(k:Nat):List AV:=(ws.take k).flatten.map C9++List.replicate (ws.flatten.length-(ws.take k).flatten.length) KD
theorem Lj{α:Type}(ws:List (List α)){k:Nat}(h:k<ws.length):(ws.take (k+1)).flatten=(ws.take k).flatten++ws[k]:=by
 rw[List.take_succ_eq_append_getElem h,List.flatten_append];simp only[List.flatten_cons,List.flatten_nil,Ax]
theorem Lk{α:Type}(ws:List (List α))(k:Nat):(ws.take k).flatten.length<=ws.flatten.length:=by
 have:ws.flatten=(ws.take k).flatten++(ws.drop k).flatten:=by rw[<-List.flatten_append,D3]
 rw[this];simp
theorem WE(ws:List (List Term))(hk:ws.length<=1000000000)(h0:0<ws.flatten.length)(hl:ws.flatten.length<=1000000000):PC Tryz.prog 122 [.lst 1 (ws.map C5)] (C5 ws.flatten):=by
 have pW:AJ (ws.map C5)=true:=Bz.2 λx hx=>by
  obtain⟨l,_,rfl⟩:=Al.1 hx;exact J9 l
 have aW:∀k,k<ws.length->(ws.map C5).getD k .any=C5 (nth ws k):=λk hk=>by simp[nth,List.getD,hk]
 have hG:=z5r ws.flatten.length h0 hl;refine Cd Fz ?_;unfold DY;(with_reducible repeat'(first|simp(disch:=omega)only[push_cast,↓zz,seval,pW]|refine sp_ ?_ ?_<;>try(intro hc;push_cast at hc)|omega|intro _))
 refine Ba (B7 (λ(k:Nat)=>k<=ws.length) (λk=>ws.length-k)
  (λk=>[(0,.lst 1 (ws.map C5)),(3,.int .i64 (ws.take k).flatten.length),(9,.lst 1 (ws.map C5)),(10,.int .i64 ws.length),(11,.int .i64 k)]) (λ_=>[]) (λ_ _=>[]) 0 oc ?_ ?_)
 ·(with_reducible repeat'(first|simp(disch:=omega)only[push_cast,↓zz,seval,pW,List.flatten_nil,List.length_nil]|refine sp_ ?_ ?_<;>try(intro hc;push_cast at hc)|omega|intro _))
 intro k hkw;rcases Aj k ws.length with hkl|hkl
 ·have hn:nth ws k=ws[k]:=by simp[nth,hkl]
  have hf:=Lj ws hkl;rw[<-hn] at hf;have h1:=Lk ws (k+1);have h2:(ws.take (k+1)).flatten.length=(ws.take k).flatten.length+(nth ws k).length:=by rw[hf];simp
  have aK:=aW k hkl;generalize (ws.take k).flatten.length=m at *;refine W_T ?_;(with_reducible repeat'(first|simp(disch:=omega)only[push_cast,↓zz,seval,pW,aK]|refine sp_ ?_ ?_<;>try(intro hc;push_cast at hc)|omega|intro _))
  all_goals
   refine⟨k+1,?_⟩;(with_reducible repeat'(first|simp(disch:=omega)only[push_cast,↓zz,seval,pW,h2]|refine sp_ ?_ ?_<;>try(intro hc;push_cast at hc)|omega|intro _))
 ·obtain rfl:k=ws.length:=om
  rw[Ay (Ab _)];have hzz:(ws.flatten.length:Int)≠0:=om
  refine W_T ?_;(with_reducible repeat'(first|simp(disch:=omega)only[push_cast,↓zz,seval,pW]|refine sp_ ?_ ?_<;>try(intro hc;push_cast at hc)|omega|intro _))
  (refine at_c [] (hG) ox oc (by refine⟨?_,?_,?_,?_⟩<;>(simp(disch:=omega)only[push_cast,↓zz,seval,Af,An,A7,B6,Cr,BG])) ?_)
  rintro y H' ⟨rfl,rfl⟩;refine⟨_,rfl,oc,?_⟩;(with_reducible repeat'(first|simp(disch:=omega)only[push_cast,↓zz,seval,pW]|refine sp_ ?_ ?_<;>try(intro hc;push_cast at hc)|omega|intro _))
  refine Ba (B7 (λ(k:Nat)=>k<=ws.length) (λk=>ws.length-k)
   (λk=>[(6,.ref 0 1 0 (ws.take k).flatten.length),(25,.lst 1 (ws.map C5)),(26,.int .i64 ws.length),(27,.int .i64 k)]) (λk=>[⟨6,1,false,HL ws k⟩]) (λenv _=>[D4 6 (env 6)]) 0 oc ?_ ?_)
  ·have r0:HL ws 0=List.replicate ws.flatten.length KD:=by simp[HL]
   have pZ:∀n,AJ (List.replicate n KD)=true:=λn=>Bz.2 λx hx=>by rw[Ca hx];rfl
   (with_reducible repeat'(first|simp(disch:=omega)only[push_cast,↓zz,seval,pW,pZ,r0,List.flatten_nil,List.length_nil]|refine sp_ ?_ ?_<;>try(intro hc;push_cast at hc)|omega|intro _))
  intro k hkw
  have pL:∀k,AJ (HL ws k)=true:=λk=>by
   rw[HL,Jp,J9,Bj];exact Bz.2 λx hx=>by rw[Ca hx];rfl
  have h1:=Lk ws k;have lR:(HL ws k).length=ws.flatten.length:=by simp only[HL,Ai,Au,List.length_replicate];omega
  rcases Aj k ws.length with hkl|hkl
  ·have hn:nth ws k=ws[k]:=by simp[nth,hkl]
   have hf:=Lj ws hkl;rw[<-hn] at hf;have h1':=Lk ws (k+1);have h2:(ws.take (k+1)).flatten.length=(ws.take k).flatten.length+(nth ws k).length:=by rw[hf];simp
   have aK:=aW k hkl;have pw:=J9 (nth ws k)
   have hR:(HL ws k).take (ws.take k).flatten.length++(nth ws k).map C9++(HL ws k).drop ((ws.take k).flatten.length+(nth ws k).length)=HL ws (k+1):=by
    have e1:(HL ws k).take (ws.take k).flatten.length=(ws.take k).flatten.map C9:=by
     rw[HL];exact DF (by rw[Au])
    have e2:(HL ws k).drop ((ws.take k).flatten.length+(nth ws k).length)=List.replicate (ws.flatten.length-(ws.take (k+1)).flatten.length) KD:=by
     rw[<-Fw,HL,List.drop_left' (by rw[Au]),List.drop_replicate,h2];congr 1;omega
    rw[e1,e2,HL,hf,Aw,A3]
   rw[A3] at hR
   have hQ:(HL ws k).length<=(ws.take k).flatten.length->HL ws k++(nth ws k).map C9=HL ws (k+1):=λh=>by
    have h0:nth ws k=[]:=Az om;rw[HL,HL,hf,h0,Ax,AX,Ax]
   have pT:AJ ((HL ws k).take (ws.take k).flatten.length)=true:=Bz.2 λx hx=>Bz.1 (pL k) x (Be hx);have pD:AJ ((HL ws k).drop ((ws.take k).flatten.length+(nth ws k).length))=true:=Bz.2 λx hx=>Bz.1 (pL k) x (Bc hx);have hpk:=pL k;have hpk1:=pL (k+1);generalize (ws.take k).flatten.length=m at *;generalize hRk:HL ws k=R at *;generalize hRk1:HL ws (k+1)=R1 at *;refine W_T ?_;(with_reducible repeat'(first|simp(disch:=omega)only[push_cast,↓zz,seval,pW,aK,pw,hpk]|refine sp_ ?_ ?_<;>try(intro hc;push_cast at hc)|omega|intro _))
   all_goals
    refine⟨k+1,?_⟩;(with_reducible repeat'(first|simp(disch:=omega)only[push_cast,↓zz,seval,pW,h2,hRk1,hpk1,pw,hpk,pT,pD,hR,hQ]|refine sp_ ?_ ?_<;>try(intro hc;push_cast at hc)|omega|intro _))
  ·obtain rfl:k=ws.length:=om
   have rE:HL ws ws.length=ws.flatten.map C9:=by simp[HL]
   rw[rE,As] at *;refine W_T ?_;have f_:=Aa pW J9;exact gwB
theorem U1(ws:List (List Term))(hk:ws.length<=1000000000)(h0:ws.flatten.length=0):PC Tryz.prog 122 [.lst 1 (ws.map C5)] (C5 ws.flatten):=by
 have pW:AJ (ws.map C5)=true:=Bz.2 λx hx=>by
  obtain⟨l,_,rfl⟩:=Al.1 hx;exact J9 l
 have hE:ws.flatten=[]:=Az h0
 have aW:∀k,k<ws.length->(ws.map C5).getD k .any=.lst 6 []:=λk hk=>by
  have:ws[k]=[]:=by
   have:=List.flatten_eq_nil_iff.1 hE _ (BM hk);exact this
  simp[List.getD,hk,this,C5]
 have hG:=YN;rw[hE];refine Cd Fz ?_;unfold DY;have f_:=pW;refine ywB ?_;clear f_
 refine Ba (B7 (λ(k:Nat)=>k<=ws.length) (λk=>ws.length-k)
  (λk=>[(0,.lst 1 (ws.map C5)),(3,.int .i64 0),(9,.lst 1 (ws.map C5)),(10,.int .i64 ws.length),(11,.int .i64 k)]) (λ_=>[]) (λ_ _=>[]) 0 oc ?_ ?_)
 ·have f_:=pW;exact gwB
 intro k hkw;rcases Aj k ws.length with hkl|hkl
 ·have aK:=aW k hkl
  refine W_T ?_;have f_:=Aa pW aK;refine ywB ?_;clear f_
  all_goals
   refine⟨k+1,?_⟩;have f_:=pW;exact gwB
 ·obtain rfl:k=ws.length:=om
  refine W_T ?_;have f_:=pW;have e_:=hG;refine ywD ?_;clear f_ e_
  refine Ba (B7 (λ(k:Nat)=>k<=ws.length) (λk=>ws.length-k)
   (λk=>[(6,.ref 0 1 0 0),(25,.lst 1 (ws.map C5)),(26,.int .i64 ws.length),(27,.int .i64 k)]) (λk=>[⟨6,1,false,[]⟩]) (λenv _=>[D4 6 (env 6)]) 0 oc ?_ ?_)
  ·have f_:=pW;exact gwB
  intro k hkw;rcases Aj k ws.length with hkl|hkl
  ·have aK:=aW k hkl
   refine W_T ?_;have f_:=Aa pW aK;refine ywB ?_;clear f_
   all_goals
    refine⟨k+1,?_⟩;have f_:=pW;exact gwB
  ·obtain rfl:k=ws.length:=om
   refine W_T ?_;have f_:=pW;exact gwB
theorem z5s(a b:List Term)(hl:a.length+b.length<=1000000000):PC Tryz.prog 122 [.lst 1 [C5 a,C5 b]] (C5 (a++b)):=by
 have e:[a,b].flatten=a++b:=oc
 have el:[a,b].flatten.length=a.length+b.length:=by rw[e,Ai]
 rw[<-e];rcases Nat.eq_zero_or_pos [a,b].flatten.length with h|h
 ·exact U1 [a,b] oc h
 ·exact WE [a,b] oc h om
abbrev e1(i:Nat):AV:=.int .i64 i
theorem zbq{α:Type}(D:Nat->List α)(i:Nat)(l:List α):setD D i l i=l:=by simp[setD]
end Go.Proofs.YtflibbceibjddaaGreat
namespace Go.Proofs.YtflibbceibjddaaGreat.Abs
def Frz1(d:Nat)(H:A4)(ks:List Nat)(x y:AV):Prop:=y=x\/(DX d (H.only ks) x/\y=frzV d (H.only ks) x)
def FrzL(d:Nat)(H:A4)(ks:List Nat):List AV->List AV->Prop
 |[],ys=>ys=[]
 |x::xs,ys=>∃y r,ys=y::r/\Frz1 d H ks x y/\FrzL d H ks xs r
def Frz2(d:Nat)(H:A4)(ks:List Nat)(x y:AV):Prop:=Frz1 d H ks x y\/∃cs ds,x=.agg cs/\y=.agg ds/\FrzL d H ks cs ds
def FrzM(d:Nat)(H:A4)(ks:List Nat):List AV->List AV->Prop
 |[],ys=>ys=[]
 |x::xs,ys=>∃y r,ys=y::r/\Frz2 d H ks x y/\FrzM d H ks xs r
theorem FrzM.len{d:Nat}{H:A4}{ks:List Nat}:∀{xs ys:List AV},FrzM d H ks xs ys->ys.length=xs.length
 |[],_,h=>by rw[show _=[] from h]
 |x::xs,_,⟨y,r,rfl,_,h⟩=>by simp[FrzM.len h]
theorem Frz1.rel{d:Nat}{H:A4}{ks:List Nat}{S:MS}(hS:SRel S H){x y:AV}{v:Value}(h:Frz1 d H ks x y)(hv:VRel S x v):VRel (S.kill H ks) y v:=by
 rcases h with rfl|⟨h1,rfl⟩
 ·exact VRel.mono (Ic ks hS) _ hv
 ·exact OV ks hS d h1 hv
theorem FrzL.rel{d:Nat}{H:A4}{ks:List Nat}{S:MS}(hS:SRel S H):∀{xs ys:List AV}{vs:List Value},FrzL d H ks xs ys->AB S xs vs->AB (S.kill H ks) ys vs
 |[],_,_,h,hv=>by rw[show _=[] from h];exact hv
 |x::xs,_,_,⟨y,r,rfl,h1,h2⟩,⟨u,q,rfl,k1,k2⟩=>⟨u,q,rfl,h1.rel hS k1,FrzL.rel hS h2 k2⟩
theorem Frz2.rel{d:Nat}{H:A4}{ks:List Nat}{S:MS}(hS:SRel S H){x y:AV}{v:Value}(h:Frz2 d H ks x y)(hv:VRel S x v):VRel (S.kill H ks) y v:=by
 rcases h with h|⟨cs,ds,rfl,rfl,h⟩
 ·exact h.rel hS hv
 ·obtain⟨vs,rfl,hvs⟩:=hv
  exact⟨vs,rfl,h.rel hS hvs⟩
theorem FrzM.rel{d:Nat}{H:A4}{ks:List Nat}{S:MS}(hS:SRel S H):∀{xs ys:List AV}{vs:List Value},FrzM d H ks xs ys->AB S xs vs->AB (S.kill H ks) ys vs
 |[],_,_,h,hv=>by rw[show _=[] from h];exact hv
 |x::xs,_,_,⟨y,r,rfl,h1,h2⟩,⟨u,q,rfl,k1,k2⟩=>⟨u,q,rfl,h1.rel hS k1,FrzM.rel hS h2 k2⟩
theorem FrzM.refl{d:Nat}{H:A4}{ks:List Nat}:∀(xs:List AV),FrzM d H ks xs xs
 |[]=>rfl
 |x::xs=>⟨x,xs,rfl,.inl (.inl rfl),FrzM.refl xs⟩
theorem FrzM.set{d:Nat}{H:A4}{ks:List Nat}{y:AV}:∀{xs:List AV}{i:Nat},i<xs.length->Frz2 d H ks (xs.getD i .any) y->FrzM d H ks xs (xs.set i y)
 |[],_,h,_=>by simp at h
 |x::xs,0,_,h=>⟨y,xs,rfl,h,FrzM.refl xs⟩
 |x::xs,i+1,hi,h=>⟨x,_,rfl,.inl (.inl rfl),FrzM.set (by simpa using hi) (by simpa using h)⟩
theorem Gw{n b:Nat}{env:Env}{l l':List Grp}{g w v d:Nat}{ex:Bool}{xs ys:List AV}(ks:List Nat)(hw:0<w)(hlt:g<l.length)(hg:l.getD g default=⟨w,v,ex,xs⟩)(hk:g∉ks)
 (hxy:FrzM d (hl l) ks xs ys) (hl':(Ec 0 ks l).set g ⟨w,v,ex,ys⟩=l'):Ent n b env (hl l) env (hl l'):=λS val hb hS hv=>by
 subst hl';have hS1:=M2 ks hS;have he:=Ic ks hS;refine⟨S.kill (hl l) ks,rfl,he.down hb,?_,λi hi=>VRel.mono he _ (hv i hi)⟩;have hlk:g<(Ec 0 ks l).length:=by rw[Gm];exact hlt
 have hat0:∀j,j<l.length->((hl l).kill ks).at_ j=(Ec 0 ks l).getD j default:=λj hj=>by
  rw[IL 0 ks l j hj,AY];rfl
 have hn:(hl ((Ec 0 ks l).set g ⟨w,v,ex,ys⟩)).n=((hl l).kill ks).n:=by simp[hl,A4.kill,Gm]
 have hlen:((hl l).kill ks).n=l.length:=rfl
 have hat:∀j,j<l.length->(hl ((Ec 0 ks l).set g ⟨w,v,ex,ys⟩)).at_ j=if j=g then ⟨w,v,ex,ys⟩ else ((hl l).kill ks).at_ j:=λj hj=>by
  rw[Da];by_cases e:j=g
  ·subst e;rw[Ae rfl];exact JJ _ hlk
  ·rw[Ad e,hat0 j hj];exact GW _ (Du e)
 have hgk:((hl l).kill ks).at_ g=⟨w,v,ex,xs⟩:=by
  show (if g∈ks then _ else _)=_;rw[Ad hk,Da,hg]
 have h1:GRel (S.kill (hl l) ks) ⟨w,v,ex,xs⟩ g:=by have:=hS1.grp g (by rw[hlen];exact hlt);rwa [hgk] at this
 have h0:GRel S ⟨w,v,ex,xs⟩ g:=by have:=hS.grp g hlt;rwa [Da,hg] at this
 have hly:=hxy.len
 have hG:GRel (S.kill (hl l) ks) ⟨w,v,ex,ys⟩ g:=by
  refine⟨h1.ver,h1.wid,λ_ hc=>?_,λhh=>by show ys.length<=_;rw[hly];exact h1.len hh,λhh he=>by show ys.length=_;rw[hly];exact h1.full hh he,λhh=>by simp only at hh;omega⟩;obtain⟨⟨cells,TT,vs,a1,a2,a3,a4⟩,_⟩:=h0.live hw hc;exact⟨⟨cells,TT,vs,a1,a2,hxy.rel hS a3,a4⟩,(h1.live hw hc).2⟩
 have hhas:∀j,j<l.length->((hl ((Ec 0 ks l).set g ⟨w,v,ex,ys⟩)).at_ j).has ((S.kill (hl l) ks).cap j)->(((hl l).kill ks).at_ j).has ((S.kill (hl l) ks).cap j):=λj hj h=>by
  rw[hat j hj] at h;by_cases e:j=g
  ·subst e;rw[Ae rfl] at h;rw[hgk];exact h
  ·rw[Ad e] at h;exact h
 refine⟨hS1.n.trans hn.symm,λj hj=>?_,λj j' a c hne p q=>hS1.apart j j' (by rwa [hn] at a) (by rwa [hn] at c) hne (hhas j (by rwa [hn] at a) p) (hhas j' (by rwa [hn] at c) q),hS1.im⟩;rw[hn] at hj;rw[hat j hj];by_cases e:j=g
 ·subst e;rw[Ae rfl];exact hG
 ·rw[Ad e];exact hS1.grp j hj
end Go.Proofs.YtflibbceibjddaaGreat.Abs
namespace Go.Proofs.YtflibbceibjddaaGreat
open Abs O1 O2 O3
def ruI(l:List Rule)(s:Nat):List Nat:=(List.range l.length).filter λi=>decide ((nth l i).from_=(s:Int))
theorem Je{l:List Rule}{s i:Nat}:i∈ruI l s↔i<l.length/\(nth l i).from_=s:=by simp[ruI]
theorem YO(l:List Rule)(s:Nat):(ruI l s).length<=l.length:=by
 have:=Bg (λi=>decide ((nth l i).from_=(s:Int))) (List.range l.length)
 rwa [C0] at this
def YP(l:List Rule)(a b:Int):Prop:=∃i p,okP l a (i::p)/\endP l a (i::p)=b
theorem zi4{l:List Rule}{i:Nat}(h:i<l.length)(he:DL (nth l i)=true):YP l (nth l i).from_ (nth l i).to_ :=
 ⟨i,[],⟨z1p.2 ⟨h,he,rfl⟩,oy⟩,rfl⟩
theorem z5t{l:List Rule}{a b c:Int}(h:YP l a b)(k:YP l b c):YP l a c:=by
 obtain⟨i,p,h1,h2⟩:=h;obtain⟨j,q,k1,k2⟩:=k;refine⟨i,p++j::q,?_,?_⟩
 ·rw[<-List.cons_append,YL,h2];exact⟨h1,k1⟩
 ·rw[<-List.cons_append,Ux,h2];exact k2
theorem zbr{l:List Rule}{n:Nat}(hl:∀r∈l,(0<=r.from_/\r.from_<n)/\0<=r.to_/\r.to_<n)(hc:¬cycP l n){a:Int}(ha:0<=a):¬YP l a a:=by
 rintro⟨i,p,h1,h2⟩
 have key:∀k:Nat,∃q,okP l a q/\endP l a q=a/\k<=q.length:=λk=>by
  induction k with
  |zero=>exact⟨[],oy,rfl,Ab _⟩
  |succ k ih =>
   obtain⟨q,q1,q2,q3⟩:=ih;refine⟨q++i::p,?_,?_,by simp;omega⟩
   ·rw[YL,q2];exact⟨q1,h1⟩
   ·rw[Ux,q2];exact h2
 obtain⟨q,q1,_,q3⟩:=key (n+2);have:=zpf hl hc ha q1;omega
def z5u(l:List Rule)(ord:List Nat):Prop:=∀i,i<ord.length->∀r∈l,DL r=true->r.from_=(nth ord i:Nat)->∃t:Nat,r.to_=t/\t∈ord.take i
theorem zbs{l:List Rule}{ord:List Nat}{s:Nat}(h:z5u l ord)(hs:∀r∈l,DL r=true->r.from_=(s:Int)->∃t:Nat,r.to_=t/\t∈ord):z5u l (ord++[s]):=λi hi r hr he hf=>by
 rw[Ai,List.length_singleton] at hi;rcases Aj i ord.length with h1|h1
 ·have e:nth (ord++[s]) i=nth ord i:=by simp[nth,List.getD,A9 h1]
  rw[e] at hf;obtain⟨t,t1,t2⟩:=h i h1 r hr he hf;exact⟨t,t1,by rw[CR om];exact t2⟩
 ·obtain rfl:i=ord.length:=om
  have e:nth (ord++[s]) ord.length=s:=by simp[nth,List.getD]
  rw[e] at hf;obtain⟨t,t1,t2⟩:=hs r hr he hf;exact⟨t,t1,by rw[CR (Ab _),As];exact t2⟩
structure SQ(l:List Rule)(n:Nat)(dn:Nat->Bool)(ord:List Nat)(s:Nat):Prop where
 p1:∀a∈ord,dn a=true
 p2:∀a,a<n->dn a=true->a∈ord\/YP l a s
 p3:z5u l ord
 p4:ord.Nodup/\∀a∈ord,a<n
structure U2(l:List Rule)(n:Nat)(dn:Nat->Bool)(ord:List Nat)(s:Nat)(dn':Nat->Bool)(new:List Nat):Prop where
 q2:s∈ord++new
 q3:∀a,a<n->(dn' a=true↔dn a=true\/a∈new)
 q4:z5u l (ord++new)
 q5:(ord++new).Nodup/\∀a∈ord++new,a<n
 q6:∀a∈new,dn a=false
def KE(dn:Nat->Bool):Nat->Nat
 |0=>0
 |k+1=>KE dn k+(if dn k=true then 0 else 1)
theorem WG{dn dn':Nat->Bool}:∀{n:Nat},(∀a,a<n->dn a=true->dn' a=true)->KE dn' n<=KE dn n
 |0,_=>Ab _
 |n+1,h=>by
  have ih:=WG (n:=n) λa ha=>h a om;simp only[KE];cases h1:dn n with
  |true=>rw[h n om h1];simp;exact ih
  |false=>simp;split<;>omega
theorem WH{dn dn':Nat->Bool}{s:Nat}(h1:dn s=false)(h2:dn' s=true):∀{n:Nat},s<n->(∀a,a<n->dn a=true->dn' a=true)->KE dn' n<KE dn n
 |0,hs,_=>by omega
 |n+1,hs,h=>by
  simp only[KE];by_cases e:s=n
  ·subst e
   have:=WG (n:=s) λa ha=>h a om;simp[h1,h2];omega
  ·have ih:=WH h1 h2 (n:=n) om λa ha=>h a om
   cases h3:dn n with
   |true=>rw[h n om h3];simp;exact ih
   |false=>simp;split<;>omega
structure QK(l:List Rule)(n:Nat)(dn:Nat->Bool)(ord:List Nat)(s:Nat)(dk:Nat->Bool)(new:List Nat)(k:Nat):Prop where
 m3:∀a,a<n->(dk a=true↔dn a=true\/a=s\/a∈new)
 m4:z5u l (ord++new)
 m5:(ord++new).Nodup/\∀a∈ord++new,a<n
 m6:∀a∈new,dn a=false/\a≠s
 m7:∀j,j<k->DL (nth l (nth (ruI l s) j))=true->∃t:Nat,(nth l (nth (ruI l s) j)).to_=t/\t∈ord++new
theorem zph{l:List Rule}{n:Nat}{dn:Nat->Bool}{ord:List Nat}{s:Nat}{dk:Nat->Bool}{new:List Nat}{k i:Nat}(hm:QK l n dn ord s dk new k)(hp:SQ l n dn ord s)(hi:i∈ruI l s)(he:DL (nth l i)=true)(j:Nat)(hj:(nth l i).to_=j):SQ l n dk (ord++new) j:=by
 obtain⟨i1,i2⟩:=Je.1 hi;have hone:YP l s j:=by have:=zi4 i1 he;rwa [i2,hj] at this
 refine⟨λa ha=>?_,λa ha h=>?_,hm.m4,hm.m5⟩
 ·have han:=hm.m5.2 a ha
  rcases Av.1 ha with h|h
  ·exact (hm.m3 a han).2 (.inl (hp.p1 a h))
  ·exact (hm.m3 a han).2 (.inr (.inr h))
 ·rcases (hm.m3 a ha).1 h with h|rfl|h
  ·rcases hp.p2 a ha h with h|h
   ·exact .inl (DG _ h)
   ·exact .inr (z5t h hone)
  ·exact .inr hone
  ·exact .inl (Ez _ h)
theorem zi5{l:List Rule}{n:Nat}{dn:Nat->Bool}{ord:List Nat}{s:Nat}{dk:Nat->Bool}{new:List Nat}{k i:Nat}(hm:QK l n dn ord s dk new k)(hk:k<(ruI l s).length)(hi:i=nth (ruI l s) k)(he:DL (nth l i)=false):QK l n dn ord s dk new (k+1) :=
 ⟨hm.m3,hm.m4,hm.m5,hm.m6,λj hj h=>by
  rcases Aj j k with h1|h1
  ·exact hm.m7 j h1 h
  ·obtain rfl:j=k:=om
   rw[<-hi,he] at h;cases h⟩
theorem zi6{l:List Rule}{n:Nat}{dn:Nat->Bool}{ord:List Nat}{s:Nat}{dk:Nat->Bool}{new:List Nat}{k i:Nat}{dn2:Nat->Bool}{new2:List Nat}(hm:QK l n dn ord s dk new k)(hp:SQ l n dn ord s)(hk:k<(ruI l s).length)(hi:i=nth (ruI l s) k)
 (h:DL (nth l i)=true/\∃j:Nat,(nth l i).to_=j/\U2 l n dk (ord++new) j dn2 new2):QK l n dn ord s dn2 (new++new2) (k+1):=by
 obtain⟨he,j,hj,hq⟩:=h;have hsn:s<n->dk s=true:=λhs=>(hm.m3 s hs).2 (.inr (.inl rfl));refine⟨λa ha=>?_,by rw[<-A3];exact hq.q4,by rw[<-A3];exact hq.q5,λa ha=>?_,λm hmk h=>?_⟩
 ·rw[hq.q3 a ha,hm.m3 a ha,Av]
  constructor
  ·rintro ((h|h|h)|h)
   ·exact .inl h
   ·exact .inr (.inl h)
   ·exact .inr (.inr (.inl h))
   ·exact .inr (.inr (.inr h))
  ·rintro (h|h|h|h)
   ·exact .inl (.inl h)
   ·exact .inl (.inr (.inl h))
   ·exact .inl (.inr (.inr h))
   ·exact .inr h
 ·rcases Av.1 ha with h|h
  ·exact hm.m6 a h
  ·have han:a<n:=hq.q5.2 a (Ez _ h)
   have h6:=hq.q6 a h;refine⟨?_,λe=>?_⟩
   ·cases hd:dn a with
    |false=>rfl
    |true=>rw[(hm.m3 a han).2 (.inl hd)] at h6;cases h6
   ·subst e;rw[hsn han] at h6;cases h6
 ·rw[<-A3]
  rcases Aj m k with h1|h1
  ·obtain⟨t,t1,t2⟩:=hm.m7 m h1 h
   exact⟨t,t1,DG _ t2⟩
  ·obtain rfl:m=k:=om
   rw[<-hi];exact⟨j,hj,hq.q2⟩
theorem zpi{l:List Rule}{n:Nat}{dn:Nat->Bool}{ord:List Nat}{s:Nat}{dk:Nat->Bool}{new:List Nat}(hm:QK l n dn ord s dk new (ruI l s).length)(hp:SQ l n dn ord s)(hs:s<n)(hsno:s∉ord)(hd:dn s=false):U2 l n dn ord s dk (new++[s]):=by
 have hsnew:s∉new:=λh=>(hm.m6 s h).2 rfl;refine⟨oc,λa ha=>?_,?_,⟨?_,λa ha=>?_⟩,λa ha=>?_⟩
 ·rw[hm.m3 a ha,Av,Am]
  constructor
  ·rintro (h|h|h)
   ·exact .inl h
   ·exact .inr (.inr h)
   ·exact .inr (.inl h)
  ·rintro (h|h|h)
   ·exact .inl h
   ·exact .inr (.inr h)
   ·exact .inr (.inl h)
 ·rw[<-A3]
  refine zbs hm.m4 λr hr he hf=>?_;obtain⟨i,hi,rfl⟩:=Bw hr;have e:nth l i=l[i]:=JM hi;have hmem:i∈ruI l s:=Je.2 ⟨hi,by rw[e];exact hf⟩;obtain⟨j,hj,hje⟩:=Bw hmem;have e2:nth (ruI l s) j=i:=by rw[JM hj];exact hje
  have:=hm.m7 j hj (by rw[e2,e];exact he);rw[e2,e] at this;exact this
 ·rw[<-A3]
  refine Dg.2 ⟨hm.m5.1,Cc.2 ⟨oc,Cm⟩,λa ha b hb=>?_⟩;rw[Am.1 hb];rintro rfl;rcases Av.1 ha with h|h
  ·exact hsno h
  ·exact hsnew h
 ·rw[<-A3] at ha
  rcases Av.1 ha with h|h
  ·exact hm.m5.2 a h
  ·rw[Am.1 h];exact hs
 ·rcases Av.1 ha with h|h
  ·exact (hm.m6 a h).1
  ·rw[Am.1 h];exact hd
def rnB(d:Desc)(x:List Int)(RU FI od li:AV):AV:=.agg [.int .i64 d.in_,.int .i64 d.out,.int .i64 d.states,.int .i64 d.start,CB d.rules,Cv d.finals,Bp x,RU,FI,od,li]
def ruV(l:List Rule)(n:Nat):AV:=.lst 1 (fD 1 e1 n (ruI l))
def srtL(d:Desc)(x:List Int)(n:Nat)(FI:AV)(v:Nat)(dn:Nat->Bool)(ord:List Nat):List Grp :=
 [⟨11,1,true,[rnB d x (ruV d.rules n) FI (.ref 2 v 0 ord.length) .nilS]⟩,⟨1,1,true,spB n dn⟩,gG 1 e1 v ord]
theorem Gx(d:Desc)(x:List Int)(n:Nat)(FI:AV)(hFI:FI.pure=true)(v:Nat)(dn:Nat->Bool)(ord:List Nat):∀G∈srtL d x n FI v dn ord,ltL 3 G.xs:=λG hG=>by
 have h1:ltV 3 (CB d.rules):=AL _ _ (BJ _);have h2:ltV 3 (Cv d.finals):=AL _ _ (BD _);have h3:ltV 3 (Bp x):=AL _ _ (C4 .i32 _);have h4:ltV 3 (ruV d.rules n):=AL _ _ (GT λ_=>rfl);have h5:ltV 3 FI:=AL _ _ hFI;simp only[srtL,Af,An,A7] at hG;rcases hG with rfl|rfl|rfl
 ·exact⟨⟨oy,oy,oy,oy,h1,h2,h3,h4,h5,(show 2<3 by omega),oy,oy⟩,oy⟩
 ·exact BU _ _ (Bz.2 λy hy=>by obtain⟨i,_,rfl⟩:=Al.1 hy;rfl)
 ·exact BU _ _ (Fg (λ_=>rfl) _)
theorem zi7(d:Desc)(x:List Int){n:Nat}(hn:n<=1024)(hrl:d.rules.length<=4096)(hl:∀r∈d.rules,(0<=r.from_/\r.from_<n)/\0<=r.to_/\r.to_<n)(hc:¬cycP d.rules n)(FI:AV)(hFI:FI.pure=true):
 ∀(u:Nat)(s:Nat)(v:Nat)(dn:Nat->Bool)(ord:List Nat),KE dn n<=u->s<n->SQ d.rules n dn ord s ->
 B9 Tryz.prog 98 [.ptr 0 1 0 0,.int .i64 s,.ref 1 1 0 n] (Abs.hl (srtL d x n FI v dn ord)) λy H'=>∃v' dn' new,y=.tup [] /\
  H'=Abs.hl (srtL d x n FI v' dn' (ord++new))/\U2 d.rules n dn ord s dn' new:=by
 intro u
 induction u using Nat.strongRecOn with
 |ind u ih =>
 intro s v dn ord hu hs hp;have hs0:(0:Int)<=s:=om
 have pRU:AJ (fD 1 e1 n (ruI d.rules))=true:=GT λ_=>rfl;have lB:∀on,(spB n on).length=n:=λon=>by simp[spB]
 have aB:(spB n dn).getD s .any=.bool (dn s):=Dn hs;have pB:∀on,AJ (spB n on)=true:=λon=>Bz.2 λy hy=>by obtain⟨i,_,rfl⟩:=Al.1 hy;rfl
 refine EU (IK Nx (W_T ?_));unfold Ju;cases hd:dn s with
 |true =>
  rw[hd] at aB;have hso:s∈ord:=(hp.p2 s hs hd).resolve_right (zbr hl hc hs0);rw[srtL];unfold rnB;have f_:=Aa hFI (Aa lB (Aa aB pB));refine ywB ?_;clear f_
  all_goals exact⟨_,_,Ent.refl,v,dn,[],rfl,by rw[Ax];rfl,⟨by simpa using hso,λa _=>by simp,by rw[Ax];exact hp.p3,by rw[Ax];exact hp.p4,λa ha=>by cases ha⟩⟩
 |false =>
  rw[hd] at aB;have hset:=zpd (on:=dn) hs;have lRU:(fD 1 e1 n (ruI d.rules)).length=n:=z1s;have aR:(fD 1 e1 n (ruI d.rules)).getD s .any=.lst 1 ((ruI d.rules s).map e1):=zi3 hs;have aR2:(fD 1 e1 n (ruI d.rules))[s]? = some (.lst 1 ((ruI d.rules s).map e1)):=z1t hs;have pI:AJ ((ruI d.rules s).map e1)=true:=Fg (λ_=>rfl) _;have hIl:=YO d.rules s;have hsno:s∉ord:=λh=>by have:=hp.p1 s h;rw[hd] at this;cases this
  have hlt:∀dn',(∀a,a<n->dn a=true->dn' a=true)->dn' s=true->KE dn' n<u:=λdn' h1 h2=>AO (WH hd h2 hs h1) hu;rw[srtL];unfold rnB ruV;generalize hRe:fD 1 e1 n (ruI d.rules)=RU at *;have f_:=Aa hFI (Aa lB (Aa aB (Aa pB (Aa hset (Aa lRU (Aa aR (Aa aR2 pI)))))));refine ywB ?_;clear f_
  refine Ba (D6 (λ(q:Nat × Nat × (Nat->Bool) × List Nat)=>q.1<=(ruI d.rules s).length/\Hold (QK d.rules n dn ord s q.2.2.1 q.2.2.2 q.1)) (λq=>(ruI d.rules s).length-q.1)
   (λq=>BO [(0,.ptr 0 1 0 0),(1,.int .i64 s),(2,.ref 1 1 0 n),(22,.lst 1 ((ruI d.rules s).map e1)),(23,.int .i64 (ruI d.rules s).length),(24,.int .i64 q.1)])
   (λq=>Abs.hl (srtL d x n FI q.2.1 q.2.2.1 (ord++q.2.2.2))) (0,v,setB dn s,[]) ⟨Ap _,⟨?_⟩⟩ ?_ ?_)
  ·refine⟨λa _=>?_,by rw[Ax];exact hp.p3,by rw[Ax];exact hp.p4,λa ha=>(by cases ha),λj hj=>absurd hj (AZ _)⟩
   simp only[setB];by_cases e:a=s<;>simp[e]
  ·refine B3 (gar:=[]) _ ?_ (by simp[srtL,hl_n]) (Gx d x n FI hFI _ _ _) ?_
   ·rw[Ax,Ax,srtL]
    unfold rnB ruV;rw[hRe]
   ·have hI:ltV 3 (.lst 1 ((ruI d.rules s).map e1)):=AL _ _ pI
    exact⟨rfl,(show 0<3 by omega),rfl,oy,rfl,(show 1<3 by omega),rfl,hI,rfl,oy,rfl,oy,oy⟩
  rintro⟨k,v1,dk,new⟩ ⟨hk,⟨hm⟩⟩;simp only at hk hm ⊢;have hI:ltV 3 (.lst 1 ((ruI d.rules s).map e1)):=AL _ _ pI;rcases Aj k (ruI d.rules s).length with hkl|hkl
  ·obtain⟨i,hi⟩:∃i,i=nth (ruI d.rules s) k:=⟨_,rfl⟩
   have him:i∈ruI d.rules s:=by rw[hi];exact Bi hkl
   obtain⟨i1,i2⟩:=Je.1 him;have aI:((ruI d.rules s).map e1).getD k .any=.int .i64 i:=by rw[hi];simp[nth,List.getD,hkl]
   have hto:=(hl _ (Bi i1)).2;have hmid:=λdn2 new2 h=>zi6 (dn:=dn) (ord:=ord) (s:=s) (dk:=dk) (new:=new) (dn2:=dn2) (new2:=new2) hm hp hkl hi h;have hskip:=zi5 (dn:=dn) (ord:=ord) (s:=s) (dk:=dk) (new:=new) hm hkl hi;have hpre:=λh=>zph (dn:=dn) (ord:=ord) (s:=s) (dk:=dk) (new:=new) (i:=i) hm hp him h;generalize hre:nth d.rules i=r at *;obtain⟨j,hj⟩:∃j:Nat,r.to_=j:=⟨r.to_.toNat,om⟩;have hjn:j<n:=om
   rw[srtL];unfold rnB ruV;rw[hRe];refine W_T ?_;cases he:DL r with
   |true =>
    have he0:(r.guards.length:Int)=0:=by simpa [DL] using he
    have hIH:=ih (KE dk n) (hlt dk (λa ha h=>(hm.m3 a ha).2 (.inl h)) ((hm.m3 s hs).2 (.inr (.inl rfl)))) j v1 dk (ord++new) (Ab _) hjn (hpre he j hj);have f_:=Aa hFI (Aa lB (Aa pB (Aa pI (Aa aI (Aa hre (Aa hj (Aa i1 he0)))))));refine ywB ?_;clear f_;refine z1u (l0:=srtL d x n FI v1 dk (ord++new)) (extra:=[_]) (by rw[srtL];unfold rnB ruV;rw[hRe,Ai];rfl) hIH ?_ (Gx d x n FI hFI _ _ _) ?_
    ·exact⟨(show 0<3 by omega),oy,(show 1<3 by omega),oy⟩
    rintro y H' ⟨v2,dn2,new2,rfl,rfl,hpost⟩;refine⟨_,rfl,rfl,oy,Gx d x n FI hFI _ _ _,?_⟩;have hM:=hmid dn2 new2 ⟨he,j,hj,hpost⟩;rw[A3];refine ywA ?_;refine⟨(k+1,v2,dn2,new++new2),B3 (gar:=[_]) _ rfl (by simp[srtL,hl_n]) (Gx d x n FI hFI _ _ _) ?_,⟨om,⟨hM⟩⟩,by simp only;omega⟩;exact⟨rfl,(show 0<3 by omega),rfl,oy,rfl,(show 1<3 by omega),rfl,hI,rfl,oy,rfl,oy,oy⟩
   |false =>
    have he0:¬(r.guards.length:Int)=0:=by simpa [DL] using he
    have f_:=Aa hFI (Aa lB (Aa pB (Aa pI (Aa aI (Aa hre (Aa hj (Aa i1 he0)))))));refine ywB ?_;clear f_;refine⟨(k+1,v1,dk,new),B3 (gar:=[⟨5,1,true,[.agg [.int .i64 r.from_,.int .i64 j,AQ r.guards,.int .i64 r.eat,C5 r.out]]⟩]) _ ?_ (by simp[srtL,hl_n]) (Gx d x n FI hFI _ _ _) ?_,⟨om,⟨hskip he⟩⟩,by simp only;omega⟩
    ·simp only
     rw[srtL];unfold rnB ruV;rw[hRe,Ai];rfl
    ·exact⟨rfl,(show 0<3 by omega),rfl,oy,rfl,(show 1<3 by omega),rfl,hI,rfl,oy,rfl,oy,oy⟩
  ·obtain rfl:k=(ruI d.rules s).length:=om
   have hend:=zpi hm hp hs hsno hd
   have hol:(ord++new).length<=n:=by
    have:=MY (l:=ord++new) (m:=List.range n) hm.m5.1 λa ha=>AF.2 (hm.m5.2 a ha);simpa using this
   have hEx:=YM (e:=e1) (ord++new);have pO:AJ ((ord++new).map e1)=true:=Fg (λ_=>rfl) _;have eO:(ord++(new++[s])).map e1=(ord++new).map e1++[.int .i64 (s:Int)]:=oc
   have eL:(ord++(new++[s])).length=(ord++new).length+1:=by simp;omega
   have hfin:∀v1,srtL d x n FI (v1+1) dk (ord++(new++[s]))=[⟨11,1,true,[rnB d x (ruV d.rules n) FI (.ref 2 (v1+1) 0 ((ord++new).length+1)) .nilS]⟩,⟨1,1,true,spB n dk⟩,⟨1,v1+1,false,(ord++new).map e1++[.int .i64 (s:Int)]⟩]:=λv1=>by
    have he:(ord++(new++[s])).isEmpty=false:=oc
    rw[srtL,gG,eO,eL,he]
   rw[srtL,gG];generalize ord++new=on at *;unfold rnB ruV;rw[hRe];refine W_T ?_;have f_:=Aa hFI (Aa lB (Aa pB (Aa pI (Aa hEx pO))));refine ywB ?_;clear f_;refine⟨_,_,IU (l0:=srtL d x n FI (v1+1) dk (ord++(new++[s]))) (gar:=[⟨1,1,true,[.int .i64 (s:Int)]⟩]) ?_ (by simp[srtL,hl_n]) (Gx d x n FI hFI _ _ _) trivial,v1+1,dk,new++[s],rfl,rfl,hend⟩;rw[hfin];unfold rnB ruV;rw[hRe];rfl
def lvB(n m:Nat)(L:Nat->Nat->Bool):List AV:=(List.range m).map λp=>AV.bool (L (p / n) (p % n))
def setP{β:Type}(L:Nat->Nat->β)(a t:Nat)(v:β):Nat->Nat->β:=λb u=>if b=a/\u=t then v else L b u
section
variable {n m a t:Nat}{L:Nat->Nat->Bool}
theorem Na(h:t<n):(a * n+t) / n=a:=by
 rw[D9,Nat.mul_add_div om,Nat.div_eq_of_lt h,Nat.add_zero]
theorem Nb(h:t<n):(a * n+t) % n=t:=by
 rw[D9,Nat.mul_add_mod,FC h]
theorem z1v{p:Nat}(h:t<n)(hp:p / n=a/\p % n=t):p=a * n+t:=by
 have:=GL p n;rw[hp.1,hp.2,D9] at this;exact this.symm
theorem Il{k:Nat}(h:t<n)(ha:a<=k):a * n+t<(k+1) * n:=by
 have h1:a * n<=k * n:=Bf n ha;have h2:(k+1) * n=k * n+n:=Nat.succ_mul k n;omega
theorem Mk:(lvB n m L).length=m:=by simp[lvB]
theorem Pi:AJ (lvB n m L)=true:=Bz.2 λx hx=>by
 obtain⟨i,_,rfl⟩:=Al.1 hx;rfl
theorem zku{z:AV}(ht:t<n)(hp:a * n+t<m):(lvB n m L).getD (a * n+t) z=.bool (L a t):=by
 rw[lvB,Dn hp,Na ht,Nb ht]
theorem zbt{v:Bool}(ht:t<n)(hp:a * n+t<m):(lvB n m L).set (a * n+t) (.bool v)=lvB n m (setP L a t v):=by
 rw[lvB,E0 hp,lvB];refine A6 λp _=>?_;simp only[setP];by_cases e:p=a * n+t
 ·subst e;rw[Ae rfl,Na ht,Nb ht,Ae ⟨rfl,rfl⟩]
 ·rw[Ad e,Ad λh=>e (z1v ht h)]
theorem zi8:List.replicate m (AV.bool false)=lvB n m λ_ _=>false:=by
 refine BL (by simp[lvB]) λi h1 h2=>?_;simp[lvB]
end
structure Liv(d:Desc)(x:List Int)(n:Nat)(ord:List Nat)(at_ j:Nat)(L:Nat->Nat->Bool):Prop where
 start:L 0 d.start.toNat=true
 lead:∀a t,L a t=true->t<n/\a<=x.length/\∃u,W8 d x 0 d.start u a t
 clos:∀a t,(a<at_\/(a=at_/\t∈ord.drop (n-j)))->L a t=true->∀r∈d.rules,r.from_=(t:Nat)->goB x r.guards a=true->L (a+r.eat.toNat) r.to_.toNat=true
structure LivS(d:Desc)(x:List Int)(n:Nat)(ord:List Nat)(at_ j s k:Nat)(L:Nat->Nat->Bool):Prop where
 liv:Liv d x n ord at_ j L
 on:L at_ s=true
 some_:∀i,i<k->goB x (nth d.rules (nth (ruI d.rules s) i)).guards at_=true->L (at_+(nth d.rules (nth (ruI d.rules s) i)).eat.toNat) (nth d.rules (nth (ruI d.rules s) i)).to_.toNat=true
structure LivE(d:Desc)(x:List Int)(n:Nat)(L:Nat->Nat->Bool):Prop where
 start:L 0 d.start.toNat=true
 lead:∀a t,L a t=true->t<n/\a<=x.length/\∃u,W8 d x 0 d.start u a t
 clos:∀a t,L a t=true->∀r∈d.rules,r.from_=(t:Nat)->goB x r.guards a=true->L (a+r.eat.toNat) r.to_.toNat=true
section
variable {d:Desc}{x:List Int}{n:Nat}{ord:List Nat}{at_ j s k:Nat}{L:Nat->Nat->Bool}
theorem FD(ht:Topo d.rules n ord):ord.length=n:=by
 have h1:=MY (l:=ord) (m:=List.range n) ht.nodup λa ha=>AF.2 ((ht.all a).1 ha);have h2:=MY (l:=List.range n) (m:=ord) EL λa ha=>(ht.all a).2 (AF.1 ha);simp at h1 h2;omega
theorem zi9(hs:0<=d.start/\d.start<n)(hol:ord.length=n):Liv d x n ord 0 0 (setP (λ_ _=>false) 0 d.start.toNat true):=by
 refine⟨by simp[setP],λa t h=>?_,λa t h hL=>?_⟩
 ·simp only[setP] at h
  split at h
  ·rename_i e
   obtain⟨rfl,rfl⟩:=e;refine⟨om,Ap _,[],?_⟩;rw[BS hs.1];exact .here
  ·cases h
 ·rcases h with h|⟨_,h⟩
  ·omega
  ·rw[Ao om] at h;cases h
theorem zbu(h:Liv d x n ord at_ j L)(ho:L at_ s=true):LivS d x n ord at_ j s 0 L:=⟨h,ho,λi hi=>absurd hi (AZ _)⟩
theorem zpj(h:LivS d x n ord at_ j s k L)(hno:goB x (nth d.rules (nth (ruI d.rules s) k)).guards at_=false):LivS d x n ord at_ j s (k+1) L:=by
 refine⟨h.liv,h.on,λi hi hg=>?_⟩;rcases Aj i k with h1|h1
 ·exact h.some_ i h1 hg
 ·obtain rfl:i=k:=om
  rw[hno] at hg;cases hg
theorem zia(h:LivS d x n ord at_ j s k L)(hg:Goes d n)(ht:Topo d.rules n ord)(hj:j<n)(hs:s=nth ord (n-1-j))(hk:k<(ruI d.rules s).length)(hgo:goB x (nth d.rules (nth (ruI d.rules s) k)).guards at_=true):
 LivS d x n ord at_ j s (k+1) (setP L (at_+(nth d.rules (nth (ruI d.rules s) k)).eat.toNat) (nth d.rules (nth (ruI d.rules s) k)).to_.toNat true):=by
 obtain⟨i1,i2⟩:=Je.1 (Bi hk);have hr:=Bi i1;generalize hre:nth d.rules (nth (ruI d.rules s) k)=r at *;obtain⟨hf,htt,he1,he2⟩:=hg.r r hr;have hle:=L8 hgo
 have mono:∀a t,L a t=true->setP L (at_+r.eat.toNat) r.to_.toNat true a t=true:=λa t hl=>by
  simp only[setP];split
  ·rfl
  ·exact hl
 have hol:=FD ht;refine⟨⟨mono _ _ h.liv.start,λa t hl=>?_,λa t hp hl q hq hqf hqg=>mono _ _ ?_⟩,mono _ _ h.on,λi hi hgi=>?_⟩
 ·simp only[setP] at hl
  split at hl
  ·rename_i e
   obtain⟨rfl,rfl⟩:=e;obtain⟨_,_,u,hu⟩:=h.liv.lead _ _ h.on;refine⟨om,om,u++GR x r.out r.guards at_,?_⟩;have:=hu.step r hr i2 hgo
   rwa [BS htt.1]
  ·exact h.liv.lead a t hl
 ·refine h.liv.clos a t hp ?_ q hq hqf hqg
  simp only[setP] at hl;split at hl
  ·rename_i e
   exfalso;obtain⟨rfl,rfl⟩:=e;rcases hp with hp|⟨hp,hm⟩
   ·omega
   ·have e0:r.eat.toNat=0:=om
    have heps:DL r=true:=by
     cases hh:DL r with
     |true=>rfl
     |false=>have:=he2 hh;omega
    obtain⟨t,t1,t2⟩:=ht.eps (n-1-j) om r hr heps (by rw[<-hs];exact i2);have e3:r.to_.toNat=t:=om
    rw[e3] at hm;have hm2:t∈ord.drop (n-1-j):=Bc (i:=1) (by rw[Fw,show n-1-j+1=n-j by omega];exact hm);have hnd:=ht.nodup;rw[<-D3 (n-1-j) ord,Dg] at hnd;exact hnd.2.2 t t2 t hm2 rfl
  ·exact hl
 ·rcases Aj i k with h1|h1
  ·exact mono _ _ (h.some_ i h1 hgi)
  ·obtain rfl:i=k:=om
   rw[hre];simp[setP]
theorem O8{l:List Nat}{i t:Nat}(hi:i<l.length)(h:t∈l.drop i):t=nth l i\/t∈l.drop (i+1):=by
 rw[drop_at hi,Af] at h;exact h
theorem zib(h:LivS d x n ord at_ j s (ruI d.rules s).length L)(ht:Topo d.rules n ord)(hj:j<n)(hs:s=nth ord (n-1-j)):Liv d x n ord at_ (j+1) L:=by
 have hol:=FD ht;refine⟨h.liv.start,h.liv.lead,λa t hp hl q hq hqf hqg=>?_⟩;rcases hp with hp|⟨rfl,hm⟩
 ·exact h.liv.clos a t (.inl hp) hl q hq hqf hqg
 ·rw[show n-(j+1)=n-1-j by omega] at hm
  rcases O8 om hm with h1|h1
  ·rw[<-hs] at h1
   subst h1;obtain⟨i,hi,rfl⟩:=Bw hq;have e:nth d.rules i=d.rules[i]:=JM hi;obtain⟨p,hp,hpe⟩:=Bw (Je.2 ⟨hi,by rw[e];exact hqf⟩);have e2:nth (ruI d.rules t) p=i:=by rw[JM hp];exact hpe
   have:=h.some_ p hp (by rw[e2,e];exact hqg)
   rwa [e2,e] at this
  ·exact h.liv.clos a t (.inr ⟨rfl,by rwa [show n-j=n-1-j+1 by omega]⟩) hl q hq hqf hqg
theorem zic(h:Liv d x n ord at_ j L)(ht:Topo d.rules n ord)(hj:j<n)(hs:s=nth ord (n-1-j))(ho:L at_ s=false):Liv d x n ord at_ (j+1) L:=by
 have hol:=FD ht;refine⟨h.start,h.lead,λa t hp hl q hq hqf hqg=>?_⟩;rcases hp with hp|⟨rfl,hm⟩
 ·exact h.clos a t (.inl hp) hl q hq hqf hqg
 ·rw[show n-(j+1)=n-1-j by omega] at hm
  rcases O8 om hm with h1|h1
  ·rw[<-hs] at h1
   subst h1;rw[ho] at hl;cases hl
  ·exact h.clos a t (.inr ⟨rfl,by rwa [show n-j=n-1-j+1 by omega]⟩) hl q hq hqf hqg
theorem zpk(h:Liv d x n ord at_ n L)(ht:Topo d.rules n ord):Liv d x n ord (at_+1) 0 L:=by
 have hol:=FD ht;refine⟨h.start,h.lead,λa t hp hl q hq hqf hqg=>?_⟩;rcases hp with hp|⟨_,hm⟩
 ·rcases Aj a at_ with h1|h1
  ·exact h.clos a t (.inl h1) hl q hq hqf hqg
  ·refine h.clos a t (.inr ⟨om,?_⟩) hl q hq hqf hqg
   rw[Nat.sub_self,BH];exact (ht.all t).2 (h.lead a t hl).1
 ·rw[Nat.sub_zero,Ao om] at hm;cases hm
theorem zpl(h:Liv d x n ord (x.length+1) 0 L):LivE d x n L :=
 ⟨h.start,h.lead,λa t hl q hq hqf hqg=>h.clos a t (.inl (by have:=(h.lead a t hl).2.1;omega)) hl q hq hqf hqg⟩
structure SR(l:List Rule)(n k:Nat)(dn:Nat->Bool)(ord:List Nat):Prop where
 a1:∀a,a<n->(dn a=true↔a∈ord)
 a2:z5u l ord
 a3:ord.Nodup/\∀a∈ord,a<n
 a4:∀a,a<k->a∈ord
theorem YQ(l:List Rule)(n:Nat):SR l n 0 (λ_=>false) [] :=
 ⟨λa _=>by simp,λi hi=>absurd hi (AZ _),⟨Cm,λa h=>by cases h⟩,λa h=>absurd h (AZ _)⟩
theorem z5v{l:List Rule}{dn:Nat->Bool}(h:SR l n k dn ord):SQ l n dn ord k :=
 ⟨λa ha=>(h.a1 a (h.a3.2 a ha)).2 ha,λa ha hd=>.inl ((h.a1 a ha).1 hd),h.a2,h.a3⟩
theorem YR{l:List Rule}{dn dn':Nat->Bool}{new:List Nat}(h:SR l n k dn ord)(hp:U2 l n dn ord k dn' new):SR l n (k+1) dn' (ord++new):=by
 refine⟨λa ha=>?_,hp.q4,hp.q5,λa ha=>?_⟩
 ·rw[hp.q3 a ha,h.a1 a ha,Av]
 ·rcases Aj a k with h1|h1
  ·exact DG _ (h.a4 a h1)
  ·obtain rfl:a=k:=om
   exact hp.q2
theorem YS{l:List Rule}{dn:Nat->Bool}(h:SR l n n dn ord):Topo l n ord :=
 ⟨h.a3.1,λs=>⟨h.a3.2 s,h.a4 s⟩,h.a2⟩
end
section
variable {d:Desc}{x:List Int}{n:Nat}{ord:List Nat}{L:Nat->Nat->Bool}
def Past(ord:List Nat)(at_ j a t:Nat):Prop:=at_<a\/(a=at_/\t∈ord.take j)
theorem zid{at_ a t:Nat}(hol:ord.length=n)(ht:t∈ord)(h:Past ord at_ 0 a t):Past ord (at_+1) n a t:=by
 rcases h with h|⟨_,h⟩
 ·rcases Aj (at_+1) a with h1|h1
  ·exact .inl h1
  ·exact .inr ⟨om,by rw[Ay om];exact ht⟩
 ·simp at h
theorem WI{at_ j a t:Nat}(hj:j<ord.length)(h:Past ord at_ (j+1) a t):Past ord at_ j a t\/(a=at_/\t=nth ord j):=by
 rcases h with h|⟨h1,h⟩
 ·exact .inl (.inl h)
 ·rw[take_at hj,Av,Am] at h
  rcases h with h|h
  ·exact .inl (.inr ⟨h1,h⟩)
  ·exact .inr ⟨h1,h⟩
theorem YT(hg:Goes d n)(ht:Topo d.rules n ord){at_ j:Nat}(hj:j<n){r:Rule}(hr:r∈d.rules)(hf:r.from_=(nth ord j:Nat)):Past ord at_ j (at_+r.eat.toNat) r.to_.toNat:=by
 obtain⟨_,htt,he1,he2⟩:=hg.r r hr;cases he:DL r with
 |true =>
  have e0:=zbm hg hr he;obtain⟨t,t1,t2⟩:=ht.eps j (by rw[FD ht];exact hj) r hr he hf;refine .inr ⟨om,?_⟩;rw[show r.to_.toNat=t by omega];exact t2
 |false=>exact .inl (by have:=he2 he;omega)
theorem zpm(hg:Goes d n)(ht:Topo d.rules n ord)(ho:(∀r∈d.rules,r.out.length<=64)/\∀f∈d.finals,f.out.length<=64):∀(k at_:Nat),x.length-at_<k->at_<=x.length->∀i,i<=n->∀s∈ord.take i,∀w,RelW d x at_ (s:Nat) w->w.length<=64 * ((x.length-at_) * n+i):=by
 have hl:∀(out:List Term) gs a,(GR x out gs a).length=out.length:=λout gs a=>by simp[GR,Gv]
 have hol:=FD ht;intro k
 induction k with
 |zero=>intro at_ h;omega
 |succ k ih =>
  intro at_ hk ha i
  induction i with
  |zero=>intro _ s hs;simp at hs
  |succ i ihi =>
   intro hi s hs w hw;rw[take_at om,Av,Am] at hs;rcases hs with hs|rfl
   ·have:=ihi om s hs w hw
    omega
   ·rcases Pg.1 hw with⟨f,hf,_,_,rfl⟩|⟨r,hr,hf,hgo,v,hv,rfl⟩
    ·rw[hl]
     have:=ho.2 f hf;have:64 * ((x.length-at_) * n+i+1)≥64:=om
     omega
    ·rw[Ai,hl]
     have h64:=ho.1 r hr;obtain⟨_,htt,e1,e2⟩:=hg.r r hr;have hle:=L8 hgo;have hv2:RelW d x (at_+r.eat.toNat) (r.to_.toNat:Nat) v:=by rw[BS htt.1];exact hv
     have key:v.length<=64 * ((x.length-at_) * n+i):=by
      rcases YT (at_:=at_) hg ht (by omega:i<n) hr hf with hp|⟨hp,hm⟩
      ·have h1:=ih (at_+r.eat.toNat) om om n (Ab _) r.to_.toNat (by rw[Ay om];exact (ht.all _).2 om) v hv2
       have h2:(x.length-(at_+r.eat.toNat)) * n+n<=(x.length-at_) * n:=by
        rw[<-Nat.succ_mul];exact Bf n om
       omega
      ·rw[hp] at hv2
       exact ihi om _ hm v hv2
     omega
theorem z1w(hg:Goes d n)(ht:Topo d.rules n ord)(ho:(∀r∈d.rules,r.out.length<=64)/\∀f∈d.finals,f.out.length<=64)(hn:n<=1024)(hx:x.length<=1024){at_ s:Nat}(ha:at_<=x.length)(hs:s<n){w:List Int}(hw:RelW d x at_ s w):w.length<=100000000:=by
 have h1:=zpm hg ht ho (x.length-at_+1) at_ om ha n (Ab _) s (by rw[Ay (by rw[FD ht];omega)];exact (ht.all s).2 hs) w hw;have h2:(x.length-at_) * n<=1024 * 1024:=CS om hn;omega
structure OutI(d:Desc)(x:List Int)(L:Nat->Nat->Bool)(ord:List Nat)(most:Nat)(at_ j:Nat)(S:Nat->Nat->List (List Int))(many:Bool):Prop where
 no:many=false->∀a t,a<=x.length->L a t=true->Past ord at_ j a t->S a t=outW d x a t/\(S a t).length<=most
 yes:many=true->∃a t,L a t=true/\most<(outW d x a t).length
variable {most at_ j:Nat}{S:Nat->Nat->List (List Int)}{many:Bool}
theorem zbv(ho:ord.length=n):OutI d x L ord most x.length 0 (λ_ _=>[]) false:=by
 refine⟨λ_ a t ha _ hp=>?_,λh=>by cases h⟩;rcases hp with h|⟨_,h⟩
 ·omega
 ·simp at h
theorem zbw(h:OutI d x L ord most at_ j S true)(at2 j2:Nat):OutI d x L ord most at2 j2 S true:=⟨λh=>(by cases h),h.yes⟩
theorem zbx(h:OutI d x L ord most at_ j S many)(hj:j<ord.length)(ho:L at_ (nth ord j)=false):OutI d x L ord most at_ (j+1) S many:=by
 refine⟨λhm a t ha hl hp=>?_,h.yes⟩;rcases WI hj hp with h1|⟨rfl,rfl⟩
 ·exact h.no hm a t ha hl h1
 ·rw[ho] at hl;cases hl
theorem zie(h:OutI d x L ord most (at_+1) n S many)(hl:LivE d x n L)(ht:Topo d.rules n ord):OutI d x L ord most at_ 0 S many:=⟨λhm a t ha hlt hp=>h.no hm a t ha hlt (zid (FD ht) ((ht.all t).2 (hl.lead a t hlt).1) hp),h.yes⟩
theorem QL(hg:Goes d n)(ht:Topo d.rules n ord){a t:Nat}(ha:a<=x.length)(hs:t<n):Mj d x a t (outW d x a t):=W7 (zuq hg ht (x.length-a+1) a om ha t hs)
theorem zpn(h:OutI d x L ord most at_ j S false)(hl:LivE d x n L)(hg:Goes d n)(ht:Topo d.rules n ord)(hj:j<n)(ha:at_<=x.length)(hlv:L at_ (nth ord j)=true):Lv (outL d x (λa t=>S a t.toNat) at_ (nth ord j:Nat))=outW d x at_ (nth ord j:Nat):=by
 refine (zbn (z1q λr hr hf hgo=>?_)).symm;obtain⟨_,htt,e1,e2⟩:=hg.r r hr;have hle:=L8 hgo;have h1:=h.no rfl (at_+r.eat.toNat) r.to_.toNat om (hl.clos _ _ hlv r hr hf hgo) (YT hg ht hj hr hf);have h2:=QL hg ht (x:=x) (a:=at_+r.eat.toNat) (t:=r.to_.toNat) om om;rw[<-h1.1,BS htt.1] at h2;exact h2
theorem zby(h:OutI d x L ord most at_ j S false)(hl:LivE d x n L)(hg:Goes d n)(ht:Topo d.rules n ord)(hj:j<n)(ha:at_<=x.length)(hlv:L at_ (nth ord j)=true){M:List (List Int)}(hM:M=outW d x at_ (nth ord j:Nat)):OutI d x L ord most at_ (j+1) (setP S at_ (nth ord j) M) (decide (most<M.length)):=by
 refine⟨λhm a t hal hlt hp=>?_,λhm=>?_⟩
 ·simp only[BB,Nat.not_lt] at hm
  simp only[setP];by_cases e:a=at_/\t=nth ord j
  ·rw[Ae e]
   obtain⟨rfl,rfl⟩:=e;exact⟨hM,hm⟩
  ·rw[Ad e]
   rcases WI (by rw[FD ht];exact hj) hp with h1|h1
   ·exact h.no rfl a t hal hlt h1
   ·exact absurd h1 e
 ·simp only[Ah] at hm
  exact⟨at_,nth ord j,hlv,by rw[<-hM];exact hm⟩
theorem zif(h:OutI d x L ord most 0 n S many)(hl:LivE d x n L)(hg:Goes d n)(ht:Topo d.rules n ord)(hs:0<=d.start/\d.start<n):many=decide (most<(outW d x 0 d.start).length)/\(many=false->S 0 d.start.toNat=outW d x 0 d.start):=by
 have hst:((d.start.toNat:Nat):Int)=d.start:=BS hs.1;have hO:=QL hg ht (x:=x) (a:=0) (t:=d.start.toNat) (Ap _) om;rw[hst] at hO;cases many with
 |false =>
  have h1:=h.no rfl 0 d.start.toNat (Ap _) hl.start (.inr ⟨rfl,by rw[Ay (by rw[FD ht];omega)];exact (ht.all _).2 om⟩);rw[hst] at h1;have h2:=h1.2;rw[h1.1] at h2;refine⟨?_,λ_=>h1.1⟩;rw[eq_comm,BB];omega
 |true =>
  obtain⟨a,t,h1,h2⟩:=h.yes rfl;obtain⟨k1,k2,u,hu⟩:=hl.lead a t h1;have:=z1r hu (QL hg ht k2 k1) hO;refine⟨?_,λh=>by cases h⟩;rw[eq_comm,Ah];omega
theorem zig(hl:LivE d x n L)(hg:Goes d n)(ht:Topo d.rules n ord)(hs:0<=d.start/\d.start<n){a t:Nat}(h:L a t=true):(outW d x a t).length<=(outW d x 0 d.start).length:=by
 have hst:((d.start.toNat:Nat):Int)=d.start:=BS hs.1;have hO:=QL hg ht (x:=x) (a:=0) (t:=d.start.toNat) (Ap _) om;rw[hst] at hO;obtain⟨k1,k2,u,hu⟩:=hl.lead a t h;exact z1r hu (QL hg ht k2 k1) hO
end
theorem KF(n:Nat):AJ (List.replicate n AV.nilS)=true:=Bz.2 λx hx=>by rw[Ca hx];rfl
def WJ(xs:List Nat):List (List AV):=(List.range xs.length).map λ(k:Nat)=>[AV.int .i64 ((xs.length:Int)-1-(k:Int)),e1 (nth xs (xs.length-1-k))]
theorem QM(xs:List Nat):(WJ xs).length=xs.length:=by simp[WJ]
theorem z1x{xs:List Nat}{k:Nat}(h:k<xs.length):(WJ xs)[k]? = some [AV.int .i64 ((xs.length:Int)-1-k),e1 (nth xs (xs.length-1-k))]:=by
 simp[WJ,h]
theorem zbz{xs:List Nat}{k:Nat}{row:List AV}(h:(WJ xs)[k]? = some row):k<xs.length/\row=[AV.int .i64 ((xs.length:Int)-1-k),e1 (nth xs (xs.length-1-k))]:=by
 have hk:k<xs.length:=by rw[<-QM xs];exact (Bh.1 h).1
 rw[z1x hk] at h;exact⟨hk,(A5 h).symm⟩
theorem z5w(xs:List Nat):∀r∈WJ xs,∀x∈r,Flat x:=λr hr x hx=>by
 obtain⟨k,_,rfl⟩:=Al.1 hr;simp only[Af,An,A7] at hx;rcases hx with rfl|rfl<;>exact λS=>rfl
theorem zc0(xs:List Nat):∀r∈WJ xs,r.length=2:=λr hr=>by
 obtain⟨k,_,rfl⟩:=Al.1 hr;rfl
theorem zc1(xs:List Nat)(hl:xs.length<=1000000000000):Qn Tryz.prog 134 [.cptr (.lst 1 (xs.map e1))] (WJ xs):=by
 have pX:AJ (xs.map e1)=true:=Fg (λ_=>rfl) _;refine Yx I5 λI hP hr=>?_;show TI I _ Fa _ _ _ _;unfold Fa;refine Hr (TI_v hP (by rfl) ?_);have f_:=pX;refine ywB ?_;clear f_;refine (Ig (TW (λ(t:Nat) s env H=>t<=xs.length/\s=some t/\∀p∈[(0,AV.yld I.l),(1,AV.cptr (.lst 1 (xs.map e1))),(3,AV.int .i64 ((xs.length:Int)-1-t))],env p.1=p.2) (λt=>xs.length-t) 0 ?_ ?_):TI I 19 _ _ _ _ _)
 ·refine⟨Ap _,rfl,?_⟩
  simp only[Af,An,A7,B6,Cr];refine⟨rfl,rfl,?_⟩;show AV.int .i64 ((xs.length:Int)-1)=AV.int .i64 ((xs.length:Int)-1-((0:Nat):Int));simp
 rintro t s env H ⟨ht,rfl,hlv⟩;refine Y4 (live:=[(0,AV.yld I.l),(1,AV.cptr (.lst 1 (xs.map e1))),(3,AV.int .i64 ((xs.length:Int)-1-t))]) (λp hp=>⟨hlv p hp,?_⟩) ?_
 ·simp only[Af,An,A7] at hp
  rcases hp with rfl|rfl|rfl<;>first|rfl|exact pX
 refine Hr (TI_v hP (by rfl) ?_);(with_reducible repeat'(first|simp(disch:=omega)only[push_cast,↓zz,seval]|refine sp_ ?_ ?_<;>try(intro hc;push_cast at hc)|omega|intro _))
 ·have htl:t<xs.length:=om
  have hrow:=z1x htl
  have aX:(xs.map e1).getD (xs.length-1-t) .any=.int .i64 (nth xs (xs.length-1-t):Nat):=by
   have:xs.length-1-t<xs.length:=om
   simp[nth,List.getD,this]
  have hcast:((xs.length:Int)-1-t).toNat=xs.length-1-t:=om
  have hnx:(xs.length:Int)-1-t-1=(xs.length:Int)-1-((t+1:Nat):Int):=by push_cast;omega
  rw[show e1 (nth xs (xs.length-1-t))=AV.int .i64 ((nth xs (xs.length-1-t):Nat):Int) from rfl] at hrow;generalize nth xs (xs.length-1-t)=z at *;refine (Hr (Ig (Hr ?_)):TI I 19 _ _ _ _ _);refine TX (pre:=[_,_,_,_,_,_]) (post:=[_]) rfl rfl ?_;rw[hP,<-Ls];have f_:=Aa pX (Aa aX hcast);refine ywB ?_;clear f_;refine⟨[AV.int .i64 ((xs.length:Int)-1-t),AV.int .i64 (z:Int)],rfl,?_,by rw[hr];exact hrow,?_,?_⟩
  ·intro x hx
   simp only[Af,An,A7] at hx;rcases hx with rfl|rfl<;>exact λS v hv=>hv
  ·rw[<-Ls]
   refine ywA ?_;refine (TI_v hP ?q1 ?_:TI I 19 _ _ _ _ _)
   case q1=>rfl
   (with_reducible repeat'(first|simp(disch:=omega)only[push_cast,↓zz,seval]|refine sp_ ?_ ?_<;>try(intro hc;push_cast at hc)|omega|intro _));refine (TI_v hP ?q2 ?_:TI I 19 _ _ _ _ _)
   case q2=>rfl
   (with_reducible repeat'(first|simp(disch:=omega)only[push_cast,↓zz,seval]|refine sp_ ?_ ?_<;>try(intro hc;push_cast at hc)|omega|intro _));refine⟨t+1,⟨om,rfl,rfl,rfl,?_⟩,om⟩;show AV.int .i64 ((xs.length:Int)-1-t-1)=AV.int .i64 ((xs.length:Int)-1-((t+1:Nat):Int));rw[hnx]
  ·rw[<-Ls]
   refine ywA ?_;refine (TI_v hP ?q3 ?_:TI I 19 _ _ _ _ _)
   case q3=>rfl
   (with_reducible repeat'(first|simp(disch:=omega)only[push_cast,↓zz,seval]|refine sp_ ?_ ?_<;>try(intro hc;push_cast at hc)|omega|intro _));exact⟨oy,.inr rfl⟩
 ·refine⟨oy,.inl ?_⟩
  rw[QM];congr 1;omega
theorem QN(xs:List Nat)(hl:xs.length<=1000000000000):PC Tryz.prog 99 [.lst 1 (xs.map e1)] (.fn 134 [.cptr (.lst 1 (xs.map e1))]):=by
 have pX:AJ (xs.map e1)=true:=Fg (λ_=>rfl) _;refine Cd Ja ?_;unfold GE;have f_:=pX;exact gwB
def JW{β:Type}[Inhabited β](fr:β->Int)(l:List β)(k:Nat)(s:Nat):List Nat:=(List.range k).filter λi=>decide (fr (nth l i)=(s:Int))
section
variable {β:Type}[Inhabited β]{fr:β->Int}{l:List β}
theorem QO(k s:Nat):(JW fr l k s).length<=k:=by
 have:=Bg (λi=>decide (fr (nth l i)=(s:Int))) (List.range k);simpa [JW] using this
theorem SS{k i:Nat}(hi:fr (nth l k)=i):JW fr l (k+1)=setD (JW fr l k) i (JW fr l k i++[k]):=by
 funext s;simp only[JW,Dh,BZ,BV,List.filter_nil,hi,Ah,setD];by_cases e:s=i
 ·subst e;simp
 ·rw[Ad om,Ad e];simp
end
def fiI(l:List DO)(s:Nat):List Nat:=JW (·.from_) l l.length s
theorem zih(l:List Rule):JW (·.from_) l l.length=ruI l:=rfl
def bgL(d:Desc)(x:List Int)(R F:AV)(n:Nat)(T1 T2:Grp):List Grp:=[⟨1,1,true,[.ptr 1 1 0 0]⟩,⟨11,1,true,[rnB d x R F .nilS .nilS]⟩,T1,T2,⟨6,1,true,[C6 d]⟩]
def bgR(d:Desc)(x:List Int)(n k:Nat)(V:Nat->Nat):List Grp:=bgL d x (.ref 2 1 0 n) (.ref 3 1 0 n) n ⟨1,1,true,fT 5 n V (JW (·.from_) d.rules k)⟩ ⟨1,1,true,List.replicate n .nilS⟩++fF 1 e1 n V (JW (·.from_) d.rules k)
def bgF(d:Desc)(x:List Int)(n k:Nat)(V:Nat->Nat):List Grp:=bgL d x (ruV d.rules n) (.ref 3 1 0 n) n ⟨0,2,false,[]⟩ ⟨1,1,true,fT 5 n V (JW (·.from_) d.finals k)⟩++fF 1 e1 n V (JW (·.from_) d.finals k)
theorem YU(d:Desc)(x:List Int)(n k:Nat)(V:Nat->Nat):(bgR d x n k V).length=n+5:=by simp[bgR,bgL,Ha]
theorem YV(d:Desc)(x:List Int)(n k:Nat)(V:Nat->Nat):(bgF d x n k V).length=n+5:=by simp[bgF,bgL,Ha]
theorem JA{d:Desc}{x:List Int}{R F:AV}{n m:Nat}{T1 T2:Grp}(hm:5<=m)(hR:ltV m R)(hF:ltV m F)(h1:ltL m T1.xs)(h2:ltL m T2.xs):∀G∈bgL d x R F n T1 T2,ltL m G.xs:=λG hG=>by
 have q1:ltV m (CB d.rules):=AL _ _ (BJ _);have q2:ltV m (Cv d.finals):=AL _ _ (BD _);have q3:ltV m (Bp x):=AL _ _ (C4 .i32 _);simp only[bgL,Af,An,A7] at hG;rcases hG with rfl|rfl|rfl|rfl|rfl
 ·exact⟨(show 1<m by omega),oy⟩
 ·exact⟨⟨oy,oy,oy,oy,q1,q2,q3,hR,hF,oy,oy,oy⟩,oy⟩
 ·exact h1
 ·exact h2
 ·exact BU _ _ (by simp[AJ,J7])
theorem z5x(d:Desc)(x:List Int)(n k:Nat)(V:Nat->Nat):∀G∈bgR d x n k V,ltL (bgR d x n k V).length G.xs:=λG hG=>by
 rw[YU];rcases Av.1 hG with hG|hG
 ·have a1:ltV (n+5) (.ref 2 1 0 n):=show 2<n+5 by omega
  have a2:ltV (n+5) (.ref 3 1 0 n):=show 3<n+5 by omega
  exact JA om a1 a2 (WB om) (BU _ _ (KF n)) G hG
 ·exact O7 (λ_=>rfl) G hG
theorem z5y(d:Desc)(x:List Int)(n k:Nat)(V:Nat->Nat):∀G∈bgF d x n k V,ltL (bgF d x n k V).length G.xs:=λG hG=>by
 rw[YV];rcases Av.1 hG with hG|hG
 ·have a1:ltV (n+5) (ruV d.rules n):=AL _ _ (show AJ _=true from GT λ_=>rfl)
  have a2:ltV (n+5) (.ref 3 1 0 n):=show 3<n+5 by omega
  exact JA (T1:=⟨0,2,false,[]⟩) om a1 a2 trivial (WB om) G hG
 ·exact O7 (λ_=>rfl) G hG
theorem z1y{d:Desc}{x:List Int}{R F:AV}{n:Nat}{T1 T2:Grp}{Fm:List Grp}(hF:Fm.length=n)(t:Nat)(ht:t=2\/t=3):Ec 0 (fKs t 5 n) (bgL d x R F n T1 T2++Fm)=bgL d x R F n (if t=2 then T1.dead else T1) (if t=3 then T2.dead else T2)++Fm.map Grp.dead:=by
 have m0:(0:Nat)∉fKs t 5 n:=Jd om om;have m1:(1:Nat)∉fKs t 5 n:=Jd om om;have m4:(4:Nat)∉fKs t 5 n:=Jd om om
 have hK:Ec 5 (fKs t 5 n) Fm=Fm.map Grp.dead:=MZ λj hj=>by
  rw[BX];exact QI om
 rw[WC];have e5:0+(bgL d x R F n T1 T2).length=5:=rfl;rw[e5,hK,bgL,CM,CM,CM,CM,CM,ZO,Ad m0,Ad m1,Ad m4];rcases ht with rfl|rfl
 ·rw[Ae (show (0+1+1:Nat)∈fKs 2 5 n by simp[fKs]),Ad (show (0+1+1+1:Nat)∉fKs 2 5 n from Jd om om)]
  rfl
 ·rw[Ad (show (0+1+1:Nat)∉fKs 3 5 n from Jd om om),Ae (show (0+1+1+1:Nat)∈fKs 3 5 n by simp[fKs])]
  rfl
theorem z5z{m b:Nat}{env:Env}(d:Desc)(x:List Int)(n:Nat)(V:Nat->Nat):Ent m b env (Abs.hl (bgR d x n d.rules.length V)) env (Abs.hl (bgL d x (ruV d.rules n) (.ref 3 1 0 n) n ⟨0,2,false,[]⟩ ⟨1,1,true,List.replicate n .nilS⟩++(fF 1 e1 n V (ruI d.rules)).map Grp.dead)):=by
 have h1:(Abs.hl (bgR d x n d.rules.length V)).at_ 2=⟨1,1,true,fT 5 n V (ruI d.rules)⟩:=rfl
 have h2:∀i,i<n->(Abs.hl (bgR d x n d.rules.length V)).at_ (i+5)=gG 1 e1 (V i) (ruI d.rules i):=λi hi=>by
  rw[bgR,Da,bgL];simp only[List.cons_append,List.nil_append,BK];exact OH hi
 obtain⟨f1,f2⟩:=QJ (w:=1) (e:=e1) ox (λ_=>rfl) h1 h2;refine Gw (g:=1) (w:=11) (v:=1) (d:=2) (ex:=true) (xs:=[rnB d x (.ref 2 1 0 n) (.ref 3 1 0 n) .nilS .nilS]) (ys:=[rnB d x (ruV d.rules n) (.ref 3 1 0 n) .nilS .nilS]) (fKs 2 5 n) ox (by rw[YU];omega) rfl (Jd ox om) ?_ ?_
 ·refine⟨_,[],rfl,.inr ⟨_,_,rfl,rfl,?_⟩,rfl⟩
  refine⟨_,_,rfl,.inl rfl,_,_,rfl,.inl rfl,_,_,rfl,.inl rfl,_,_,rfl,.inl rfl,_,_,rfl,.inl rfl,_,_,rfl,.inl rfl,_,_,rfl,.inl rfl,_,_,rfl,.inr ⟨f1,f2.symm⟩,_,_,rfl,.inl rfl,_,_,rfl,.inl rfl,_,_,rfl,.inl rfl,rfl⟩
 ·rw[bgR,z1y Ha 2 (.inl rfl),zih]
  rfl
theorem z60{m b:Nat}{env:Env}(d:Desc)(x:List Int)(n:Nat)(V:Nat->Nat):Ent m b env (Abs.hl (bgF d x n d.finals.length V)) env (Abs.hl (bgL d x (ruV d.rules n) (.lst 1 (fD 1 e1 n (fiI d.finals))) n ⟨0,2,false,[]⟩ ⟨0,2,false,[]⟩++(fF 1 e1 n V (fiI d.finals)).map Grp.dead)):=by
 have h1:(Abs.hl (bgF d x n d.finals.length V)).at_ 3=⟨1,1,true,fT 5 n V (fiI d.finals)⟩:=rfl
 have h2:∀i,i<n->(Abs.hl (bgF d x n d.finals.length V)).at_ (i+5)=gG 1 e1 (V i) (fiI d.finals i):=λi hi=>by
  rw[bgF,Da,bgL];simp only[List.cons_append,List.nil_append,BK];exact OH hi
 obtain⟨f1,f2⟩:=QJ (w:=1) (e:=e1) ox (λ_=>rfl) h1 h2;refine Gw (g:=1) (w:=11) (v:=1) (d:=2) (ex:=true) (xs:=[rnB d x (ruV d.rules n) (.ref 3 1 0 n) .nilS .nilS]) (ys:=[rnB d x (ruV d.rules n) (.lst 1 (fD 1 e1 n (fiI d.finals))) .nilS .nilS]) (fKs 3 5 n) ox (by rw[YV];omega) rfl (Jd ox om) ?_ ?_
 ·refine⟨_,[],rfl,.inr ⟨_,_,rfl,rfl,?_⟩,rfl⟩
  refine⟨_,_,rfl,.inl rfl,_,_,rfl,.inl rfl,_,_,rfl,.inl rfl,_,_,rfl,.inl rfl,_,_,rfl,.inl rfl,_,_,rfl,.inl rfl,_,_,rfl,.inl rfl,_,_,rfl,.inl rfl,_,_,rfl,.inr ⟨f1,f2.symm⟩,_,_,rfl,.inl rfl,_,_,rfl,.inl rfl,rfl⟩
 ·rw[bgF,z1y Ha 3 (.inr rfl)]
  rfl
theorem zkv(d:Desc)(x:List Int)(n k:Nat)(V:Nat->Nat):bgR d x n k V=⟨1,1,true,[.ptr 1 1 0 0]⟩::⟨11,1,true,[rnB d x (.ref 2 1 0 n) (.ref 3 1 0 n) .nilS .nilS]⟩::⟨1,1,true,fT 5 n V (JW (·.from_) d.rules k)⟩::⟨1,1,true,List.replicate n .nilS⟩::⟨6,1,true,[C6 d]⟩::fF 1 e1 n V (JW (·.from_) d.rules k):=rfl
theorem zkw(d:Desc)(x:List Int)(n k:Nat)(V:Nat->Nat):bgF d x n k V=⟨1,1,true,[.ptr 1 1 0 0]⟩::⟨11,1,true,[rnB d x (ruV d.rules n) (.ref 3 1 0 n) .nilS .nilS]⟩::⟨0,2,false,[]⟩::⟨1,1,true,fT 5 n V (JW (·.from_) d.finals k)⟩::⟨6,1,true,[C6 d]⟩::fF 1 e1 n V (JW (·.from_) d.finals k):=rfl
def fiV(l:List DO)(n:Nat):AV:=.lst 1 (fD 1 e1 n (fiI l))
theorem zus(n:Nat):List.replicate n (AV.bool false)=spB n λ_=>false:=by
 refine BL (by simp[spB]) λi h1 h2=>?_;simp[spB]
theorem zii{H:A4}{g v:Nat}{l:List Nat}(h:H.at_ g=gG 1 e1 v l):DX 2 (H.only [g]) (.ref g v 0 l.length)/\frzV 2 (H.only [g]) (.ref g v 0 l.length)=.lst 1 (l.map e1):=by
 have hat:(H.only [g]).at_ g=gG 1 e1 v l:=by
  show (if g∈[g] then H.at_ g else (H.at_ g).dead)=_;rw[Ae oc,h]
 have htl:(((gG 1 e1 v l).xs.drop 0).take l.length)=l.map e1:=by
  rw[BH];exact Ay (by simp[gG])
 have hp:AJ (l.map e1)=true:=Fg (λ_=>rfl) _;constructor
 ·refine⟨by rw[hat];rfl,by rw[hat];exact Nat.one_pos,by rw[hat];simp[gG],?_⟩
  rw[hat,htl];exact (HH _ 1 hp).1
 ·show AV.lst _ _=_
  rw[hat,htl];congr 1;exact (HH _ 1 hp).2
def bgS(d:Desc)(x:List Int)(n v:Nat)(dn:Nat->Bool)(ord:List Nat):List Grp:=srtL d x n (fiV d.finals n) v dn ord++[⟨1,1,true,[.ptr 0 1 0 0]⟩,⟨6,1,true,[C6 d]⟩]
theorem z61(d:Desc)(x:List Int)(n v:Nat)(dn:Nat->Bool)(ord:List Nat):∀G∈bgS d x n v dn ord,ltL 5 G.xs:=λG hG=>by
 rcases Av.1 hG with hG|hG
 ·have h1:ltV 5 (CB d.rules):=AL _ _ (BJ _)
  have h2:ltV 5 (Cv d.finals):=AL _ _ (BD _);have h3:ltV 5 (Bp x):=AL _ _ (C4 .i32 _);have h4:ltV 5 (ruV d.rules n):=AL _ _ (GT λ_=>rfl);have h5:ltV 5 (fiV d.finals n):=AL _ _ (GT λ_=>rfl);simp only[srtL,Af,An,A7] at hG;rcases hG with rfl|rfl|rfl
  ·exact⟨⟨oy,oy,oy,oy,h1,h2,h3,h4,h5,(show 2<5 by omega),oy,oy⟩,oy⟩
  ·exact BU _ _ (Bz.2 λy hy=>by obtain⟨i,_,rfl⟩:=Al.1 hy;rfl)
  ·exact BU _ _ (Fg (λ_=>rfl) _)
 ·simp only[Af,An,A7] at hG
  rcases hG with rfl|rfl
  ·exact⟨(show 0<5 by omega),oy⟩
  ·exact BU _ _ (by simp[AJ,J7])
theorem z62{m b:Nat}{env:Env}(d:Desc)(x:List Int)(n v:Nat)(dn:Nat->Bool)(ord:List Nat):Ent m b env (Abs.hl (bgS d x n v dn ord)) env (Abs.hl [⟨11,1,true,[rnB d x (ruV d.rules n) (fiV d.finals n) (.lst 1 (ord.map e1)) .nilS]⟩,⟨1,1,true,spB n dn⟩,(gG 1 e1 v ord).dead,⟨1,1,true,[.ptr 0 1 0 0]⟩,⟨6,1,true,[C6 d]⟩]):=by
 have h1:(Abs.hl (bgS d x n v dn ord)).at_ 2=gG 1 e1 v ord:=rfl;obtain⟨f1,f2⟩:=zii h1;refine Gw (g:=0) (w:=11) (v:=1) (d:=2) (ex:=true) (xs:=[rnB d x (ruV d.rules n) (fiV d.finals n) (.ref 2 v 0 ord.length) .nilS]) (ys:=[rnB d x (ruV d.rules n) (fiV d.finals n) (.lst 1 (ord.map e1)) .nilS]) [2] ox (by simp[bgS,srtL]) rfl ox ?_ rfl;refine⟨_,[],rfl,.inr ⟨_,_,rfl,rfl,?_⟩,rfl⟩;exact⟨_,_,rfl,.inl rfl,_,_,rfl,.inl rfl,_,_,rfl,.inl rfl,_,_,rfl,.inl rfl,_,_,rfl,.inl rfl,_,_,rfl,.inl rfl,_,_,rfl,.inl rfl,_,_,rfl,.inl rfl,_,_,rfl,.inl rfl,_,_,rfl,.inr ⟨f1,f2.symm⟩,_,_,rfl,.inl rfl,rfl⟩
theorem zij{y:AV}{l:List Grp}(d:Nat)(ks:List Nat)(hok:DX d ((Abs.hl l).only ks) y){z:AV}(hz:frzV d ((Abs.hl l).only ks) y=z)(hp:z.pure=true):Ent 1 0 (λ_=>y) (Abs.hl l) (λ_=>z) (Abs.hl []):=by
 refine (Qz 0 d ks hok).trans ((K7 (H':=Abs.hl ([]++Ec 0 ks l)) ?_ ?_).trans ((I9 (Ap _) (λG hG=>by cases hG) λi hi=>?_).trans (GY trivial λi hi=>?_)))
 ·simp[Abs.hl,A4.kill,Gm]
 ·intro g hg
  show (Ec 0 ks l).getD g default=if g∈ks then (l.getD g default).dead else l.getD g default
  rw[IL 0 ks l g hg,AY]
 ·obtain rfl:i=0:=om
  show ltV 0 (if (0:Nat)=0 then frzV d ((Abs.hl l).only ks) y else y);rw[Ae rfl,hz];exact AL _ _ hp
 ·obtain rfl:i=0:=om
  show leS [] (if (0:Nat)=0 then frzV d ((Abs.hl l).only ks) y else y) z;rw[Ae rfl,hz];exact Bn _ _
def bgV(d:Desc)(x:List Int)(n m:Nat)(ord:List Nat)(at_:Nat)(L:Nat->Nat->Bool):List Grp:=[⟨11,1,true,[rnB d x (ruV d.rules n) (fiV d.finals n) (.lst 1 (ord.map e1)) (.ref 3 1 0 m)]⟩,⟨1,1,true,[.ptr 0 1 0 0]⟩,⟨6,1,true,[C6 d]⟩,⟨1,1,true,lvB n m L⟩,⟨1,1,true,[.int .i64 at_]⟩]
theorem zc2(d:Desc)(x:List Int){n:Nat}(hdn:d.states=n)(hn:n<=1024)(hrl:d.rules.length<=4096)(hfl:d.finals.length<=4096)(hs:0<=d.start/\d.start<n)(hgo:Goes d n)(hcy:¬cycP d.rules n)(hlf:∀r∈d.finals,0<=r.from_/\r.from_<n)(hxl:x.length<=1024)(h32:∀v∈x,-2147483648<=v/\v<=2147483647)
 (hgb:∀r∈d.rules,(r.guards.length<=1000000/\∀g∈r.guards,g.length<=1000000)/\0<=r.eat/\r.eat<=1000000) :
 B9 Tryz.prog 60 [C6 d,Bp x] (Abs.hl []) λy H'=>H'=Abs.hl []/\∃ord L,y=Fe d x (ruV d.rules n) (fiV d.finals n) (.lst 1 (ord.map e1)) (.lst 1 (lvB n ((x.length+1) * n) L))/\Topo d.rules n ord/\LivE d x n L:=by
 have pR:=BJ d.rules;have pFi:=BD d.finals;have pX:=Gb x;have pN:=KF n;have hl:∀r∈d.rules,0<=r.from_/\r.from_<n:=λr hr=>(hgo.r r hr).1;have hl2:∀r∈d.rules,(0<=r.from_/\r.from_<n)/\0<=r.to_/\r.to_<n:=λr hr=>⟨(hgo.r r hr).1,(hgo.r r hr).2.1⟩;refine EU (IK Yc (W_T ?_));unfold PR;have f_:=hdn;refine ywB ?_;clear f_;refine za2 [1,2,3,4] [1,1,11,1] [none,none,none,none,some 1,none,none,some 2,none,some 3,some 4] oc ox ?_;(with_reducible repeat'(first|simp(disch:=omega)only[push_cast,↓zz,seval,yy,Af,An,A7,BC,Ch,AT,Co,Cn,hdn]|refine sp_ ?_ ?_<;>try(intro hc;push_cast at hc)|omega|intro _))
 refine Ba (PH (srcs:=[.grp 4,.grp 3,.grp 1,.grp 2,.grp 0]) (live:=[(1,Bp x),(2,.ptr 4 1 0 0),(5,.ptr 0 1 0 0),(29,CB d.rules),(30,.int .i64 d.rules.length),(31,.int .i64 0)])
  (heap:=bgL d x (.ref 2 1 0 n) (.ref 3 1 0 n) n ⟨1,1,true,List.replicate n .nilS⟩ ⟨1,1,true,List.replicate n .nilS⟩) ?_ (I8 (U0 (α:=Nat) (w:=1) (e:=e1) (n:=n) (t:=2) ox (by simp[bgL]) rfl) ?_))
 ·unfold bgL rnB
  have f_:=Aa hdn pN;exact gwB
 refine D6 (λ(q:Nat × (Nat->Nat))=>q.1<=d.rules.length) (λq=>d.rules.length-q.1)
  (λq=>BO [(1,Bp x),(2,.ptr 4 1 0 0),(5,.ptr 0 1 0 0),(29,CB d.rules),(30,.int .i64 d.rules.length),(31,.int .i64 q.1)]) (λq=>Abs.hl (bgR d x n q.1 q.2)) (0,λ_=>1) oc Ent.refl ?_
 rintro⟨k,V⟩ hk;simp only at hk ⊢;rcases Aj k d.rules.length with hkl|hkl
 ·have hr:=hl _ (Bi hkl)
  have hsu:=λi=>SS (fr:=λ(r:Rule)=>r.from_) (l:=d.rules) (k:=k) (i:=i);generalize hre:nth d.rules k=r at *;obtain⟨i,hi⟩:∃i:Nat,r.from_=i:=⟨r.from_.toNat,om⟩;have hin:i<n:=om
  obtain⟨D,hD⟩:∃D,D=JW (λ(r:Rule)=>r.from_) d.rules k:=⟨_,rfl⟩;have hFl:(fF 1 e1 n V D).length=n:=Ha;have hTl:(fT 5 n V D).length=n:=W9;have gI:∀G,(fF 1 e1 n V D++[G]).getD i default=gG 1 e1 (V i) (D i):=λG=>by rw[SO hFl hin];exact OH hin
  have gR:∀G,(fF 1 e1 n V D++[G]).getD n default=G:=λG=>by rw[IT hFl];rfl
  have sR:∀G G',setQ (fF 1 e1 n V D++[G]) n G'=some (fF 1 e1 n V D++[G']):=λG G'=>by rw[KC _ _ hFl];rfl
  have tI:(fT 5 n V D).getD i .any=.ref (i+5) (V i) 0 (D i).length:=zbo hin;have sI:∀G G',setQ (fF 1 e1 n V D++[G]) i G'=some ((fF 1 e1 n V D).set i G'++[G]):=λG G'=>NL om;have gR2:∀G G',((fF 1 e1 n V D).set i G'++[G]).getD n default=G:=λG G'=>by rw[IT (by rw[C3];exact hFl)];rfl
  have hSB:∀R G,Cw 5 [i+5] (fF 1 e1 n V D++[R]) ((fF 1 e1 n V D).set i G++[R]):=λR G=>Ph om (by simp;omega);have hEx:=YM (e:=e1) (D i);have hel:(D i).length<=k:=by rw[hD];exact QO k i
  have eT:(fT 5 n V D).set i (.ref (i+5) (V i+1) 0 ((D i).length+1))=fT 5 n (setV V i (V i+1)) (setD D i (D i++[k])):=by
   have:=WA (o:=5) (V:=V) (D:=D) (l:=D i++[k]) hin
   rwa [Ai] at this
  have eF:(fF 1 e1 n V D).set i ⟨1,V i+1,false,(D i).map e1++[.int .i64 k]⟩=fF 1 e1 n (setV V i (V i+1)) (setD D i (D i++[k])):=by
   have:=SN (V:=V) (D:=D) (w:=1) (e:=e1) (l:=D i++[k]) oc hin;rw[Aw] at this;exact this
  have hsu:=hsu i hi;rw[<-hD] at hsu;rw[zkv,<-hD];unfold rnB;have hni:¬n=i:=om
  simp only[gG] at gI;refine W_T ?_;(with_reducible repeat'(first|simp(disch:=omega)only[push_cast,↓zz,seval,xx,Af,An,A7,BC,Ch,AT,Co,Cn,hdn,hre,hi,hFl,hTl,gI,gR,sR,tI,sI,gR2,hEx,hni]|refine sp_ ?_ ?_<;>try(intro hc;push_cast at hc)|refine Gr [i+5] ?_|omega|intro _))
  ·exact hSB _ _
  refine⟨(k+1,setV V i (V i+1)),B3 (gar:=[⟨5,1,true,[.agg [.int .i64 i,.int .i64 r.to_,AQ r.guards,.int .i64 r.eat,C5 r.out]]⟩]) _ ?_ (Ap _) (z5x _ _ _ _ _) ?_,by simp only;omega,by simp only;omega⟩
  ·rw[zkv,hsu,<-eT,<-eF]
   unfold rnB;rw[hdn];rfl
  ·have hRv:ltV (n+5) (CB d.rules):=AL _ _ pR
   have hXv:ltV (n+5) (Bp x):=AL _ _ pX;rw[YU];exact⟨rfl,hXv,rfl,(show 4<n+5 by omega),rfl,(show 0<n+5 by omega),rfl,hRv,rfl,oy,rfl,oy,oy⟩
 obtain rfl:k=d.rules.length:=om
 have cl1:∀G∈bgL d x (ruV d.rules n) (.ref 3 1 0 n) n ⟨0,2,false,[]⟩ ⟨1,1,true,List.replicate n .nilS⟩,ltL 5 G.xs:=JA om (AL _ _ (show AJ _=true from GT λ_=>rfl)) (show 3<5 by omega) trivial (BU _ _ pN);refine I8 ((z5z d x n V).trans (B3 (l0:=bgL d x (ruV d.rules n) (.ref 3 1 0 n) n ⟨0,2,false,[]⟩ ⟨1,1,true,List.replicate n .nilS⟩) [(1,Bp x),(2,.ptr 4 1 0 0),(5,.ptr 0 1 0 0),(29,CB d.rules),(30,.int .i64 d.rules.length),(31,.int .i64 d.rules.length)] rfl (Ap _) cl1 ?_)) ?_
 ·have hRv:ltV 5 (CB d.rules):=AL _ _ pR
  have hXv:ltV 5 (Bp x):=AL _ _ pX;exact⟨rfl,hXv,rfl,(show 4<5 by omega),rfl,(show 0<5 by omega),rfl,hRv,rfl,oy,rfl,oy,oy⟩
 clear cl1 V;unfold bgL rnB;refine W_T ?_;have f_:=hdn;refine ywB ?_;clear f_;have cl2:∀G∈bgL d x (ruV d.rules n) (.ref 3 1 0 n) n ⟨0,2,false,[]⟩ ⟨1,1,true,List.replicate n .nilS⟩,ltL 5 G.xs:=JA om (AL _ _ (show AJ _=true from GT λ_=>rfl)) (show 3<5 by omega) trivial (BU _ _ pN);refine Ba (I8 ((B3 (l0:=bgL d x (ruV d.rules n) (.ref 3 1 0 n) n ⟨0,2,false,[]⟩ ⟨1,1,true,List.replicate n .nilS⟩) (gar:=[]) [(1,Bp x),(2,.ptr 4 1 0 0),(5,.ptr 0 1 0 0),(56,Cv d.finals),(57,.int .i64 d.finals.length),(58,.int .i64 0)] ?_ (Ap _) cl2 ?_).trans (U0 (α:=Nat) (w:=1) (e:=e1) (n:=n) (t:=3) ox (by simp[bgL]) rfl)) ?_)
 ·unfold bgL rnB
  rw[hdn];rfl
 ·have hFv:ltV 5 (Cv d.finals):=AL _ _ pFi
  have hXv:ltV 5 (Bp x):=AL _ _ pX;exact⟨rfl,hXv,rfl,(show 4<5 by omega),rfl,(show 0<5 by omega),rfl,hFv,rfl,oy,rfl,oy,oy⟩
 clear cl2
 refine D6 (λ(q:Nat × (Nat->Nat))=>q.1<=d.finals.length) (λq=>d.finals.length-q.1)
  (λq=>BO [(1,Bp x),(2,.ptr 4 1 0 0),(5,.ptr 0 1 0 0),(56,Cv d.finals),(57,.int .i64 d.finals.length),(58,.int .i64 q.1)]) (λq=>Abs.hl (bgF d x n q.1 q.2)) (0,λ_=>1) oc Ent.refl ?_
 rintro⟨k,V⟩ hk;simp only at hk ⊢;rcases Aj k d.finals.length with hkl|hkl
 ·have hr:=hlf _ (Bi hkl)
  have hsu:=λi=>SS (fr:=λ(r:DO)=>r.from_) (l:=d.finals) (k:=k) (i:=i);generalize hre:nth d.finals k=r at *;obtain⟨i,hi⟩:∃i:Nat,r.from_=i:=⟨r.from_.toNat,om⟩;have hin:i<n:=om
  obtain⟨D,hD⟩:∃D,D=JW (λ(r:DO)=>r.from_) d.finals k:=⟨_,rfl⟩;have hFl:(fF 1 e1 n V D).length=n:=Ha;have hTl:(fT 5 n V D).length=n:=W9;have gI:∀G,(fF 1 e1 n V D++[G]).getD i default=gG 1 e1 (V i) (D i):=λG=>by rw[SO hFl hin];exact OH hin
  have gR:∀G,(fF 1 e1 n V D++[G]).getD n default=G:=λG=>by rw[IT hFl];rfl
  have sR:∀G G',setQ (fF 1 e1 n V D++[G]) n G'=some (fF 1 e1 n V D++[G']):=λG G'=>by rw[KC _ _ hFl];rfl
  have tI:(fT 5 n V D).getD i .any=.ref (i+5) (V i) 0 (D i).length:=zbo hin;have sI:∀G G',setQ (fF 1 e1 n V D++[G]) i G'=some ((fF 1 e1 n V D).set i G'++[G]):=λG G'=>NL om;have gR2:∀G G',((fF 1 e1 n V D).set i G'++[G]).getD n default=G:=λG G'=>by rw[IT (by rw[C3];exact hFl)];rfl
  have hSB:∀R G,Cw 5 [i+5] (fF 1 e1 n V D++[R]) ((fF 1 e1 n V D).set i G++[R]):=λR G=>Ph om (by simp;omega);have hEx:=YM (e:=e1) (D i);have hel:(D i).length<=k:=by rw[hD];exact QO k i
  have eT:(fT 5 n V D).set i (.ref (i+5) (V i+1) 0 ((D i).length+1))=fT 5 n (setV V i (V i+1)) (setD D i (D i++[k])):=by
   have:=WA (o:=5) (V:=V) (D:=D) (l:=D i++[k]) hin
   rwa [Ai] at this
  have eF:(fF 1 e1 n V D).set i ⟨1,V i+1,false,(D i).map e1++[.int .i64 k]⟩=fF 1 e1 n (setV V i (V i+1)) (setD D i (D i++[k])):=by
   have:=SN (V:=V) (D:=D) (w:=1) (e:=e1) (l:=D i++[k]) oc hin;rw[Aw] at this;exact this
  have hsu:=hsu i hi;rw[<-hD] at hsu;rw[zkw,<-hD];unfold rnB;have hni:¬n=i:=om
  simp only[gG] at gI;refine W_T ?_;(with_reducible repeat'(first|simp(disch:=omega)only[push_cast,↓zz,seval,xx,Af,An,A7,BC,Ch,AT,Co,Cn,hdn,hre,hi,hFl,hTl,gI,gR,sR,tI,sI,gR2,hEx,hni]|refine sp_ ?_ ?_<;>try(intro hc;push_cast at hc)|refine Gr [i+5] ?_|omega|intro _))
  ·exact hSB _ _
  refine⟨(k+1,setV V i (V i+1)),B3 (gar:=[⟨3,1,true,[.agg [.int .i64 i,AQ r.guards,C5 r.out]]⟩]) _ ?_ (Ap _) (z5y _ _ _ _ _) ?_,by simp only;omega,by simp only;omega⟩
  ·rw[zkw,hsu,<-eT,<-eF]
   unfold rnB;rw[hdn];rfl
  ·have hFv:ltV (n+5) (Cv d.finals):=AL _ _ pFi
   have hXv:ltV (n+5) (Bp x):=AL _ _ pX;rw[YV];exact⟨rfl,hXv,rfl,(show 4<n+5 by omega),rfl,(show 0<n+5 by omega),rfl,hFv,rfl,oy,rfl,oy,oy⟩
 obtain rfl:k=d.finals.length:=om
 have cl1:∀G∈bgL d x (ruV d.rules n) (fiV d.finals n) n ⟨0,2,false,[]⟩ ⟨0,2,false,[]⟩,ltL 5 G.xs:=JA om (AL _ _ (show AJ _=true from GT λ_=>rfl)) (AL _ _ (show AJ _=true from GT λ_=>rfl)) trivial trivial;refine I8 ((z60 d x n V).trans (B3 (l0:=bgL d x (ruV d.rules n) (fiV d.finals n) n ⟨0,2,false,[]⟩ ⟨0,2,false,[]⟩) [(1,Bp x),(2,.ptr 4 1 0 0),(5,.ptr 0 1 0 0),(56,Cv d.finals),(57,.int .i64 d.finals.length),(58,.int .i64 d.finals.length)] rfl (Ap _) cl1 ?_)) ?_
 ·have hFv:ltV 5 (Cv d.finals):=AL _ _ pFi
  have hXv:ltV 5 (Bp x):=AL _ _ pX;exact⟨rfl,hXv,rfl,(show 4<5 by omega),rfl,(show 0<5 by omega),rfl,hFv,rfl,oy,rfl,oy,oy⟩
 clear cl1 V;unfold bgL rnB;have pB:∀on,AJ (spB n on)=true:=λon=>Bz.2 λy hy=>by obtain⟨i,_,rfl⟩:=Al.1 hy;rfl
 have pRU:AJ (fD 1 e1 n (ruI d.rules))=true:=GT λ_=>rfl;have pFI:AJ (fD 1 e1 n (fiI d.finals))=true:=GT λ_=>rfl;have pFIv:(fiV d.finals n).pure=true:=pFI;refine W_T ?_;have f_:=hdn;refine ywB ?_;clear f_
 refine Ba (PH (srcs:=[.grp 1,.grp 5,.virt 1,.grp 0,.grp 4]) (live:=[(1,Bp x),(2,.ptr 4 1 0 0),(5,.ptr 3 1 0 0),(10,.ref 1 1 0 n),(86,.int .i64 n),(87,.int .i64 0)])
  (heap:=bgS d x n 1 (λ_=>false) []) ?_ ?_)
 ·unfold bgS srtL rnB ruV fiV gG
  (with_reducible repeat'(first|simp(disch:=omega)only[push_cast,↓zz,seval,hdn,pB,zus,pRU,pFI,List.length_nil,AX]|refine sp_ ?_ ?_<;>try(intro hc;push_cast at hc)|omega|intro _))
 refine D6 (λ(q:Nat × Nat × (Nat->Bool) × List Nat)=>q.1<=n/\Hold (SR d.rules n q.1 q.2.2.1 q.2.2.2)) (λq=>n-q.1)
  (λq=>BO [(1,Bp x),(2,.ptr 4 1 0 0),(5,.ptr 3 1 0 0),(10,.ref 1 1 0 n),(86,.int .i64 n),(87,.int .i64 q.1)]) (λq=>Abs.hl (bgS d x n q.2.1 q.2.2.1 q.2.2.2)) (0,1,(λ_=>false),[]) ⟨Ap _,⟨YQ _ _⟩⟩ Ent.refl ?_
 rintro⟨k,v,dn,ord⟩ ⟨hk,⟨hA⟩⟩;simp only at hk hA ⊢;have hXv:ltV 5 (Bp x):=AL _ _ pX;rcases Aj k n with hkn|hkn
 ·have hS:=zi7 d x hn hrl hl2 hcy (fiV d.finals n) pFIv (KE dn n) k v dn ord (Ab _) hkn (z5v hA)
  rw[bgS,srtL];refine W_T ?_;(with_reducible repeat'(first|simp(disch:=omega)only[push_cast,↓zz,seval]|refine sp_ ?_ ?_<;>try(intro hc;push_cast at hc)|omega|intro _));refine z1u (l0:=srtL d x n (fiV d.finals n) v dn ord) (extra:=[⟨1,1,true,[.ptr 0 1 0 0]⟩,⟨6,1,true,[C6 d]⟩]) rfl hS ?_ (Gx d x n _ pFIv _ _ _) ?_
  ·exact⟨(show 0<3 by omega),oy,(show 1<3 by omega),oy⟩
  rintro y H' ⟨v2,dn2,new,rfl,rfl,hpost⟩;refine⟨_,rfl,rfl,oy,Gx d x n _ pFIv _ _ _,?_⟩;have hA2:=YR hA hpost;(with_reducible repeat'(first|simp(disch:=omega)only[push_cast,↓zz,seval]|refine sp_ ?_ ?_<;>try(intro hc;push_cast at hc)|omega|intro _));refine⟨(k+1,v2,dn2,ord++new),B3 (gar:=[]) _ (Ax _).symm (Ap _) (z61 d x n _ _ _) ?_,⟨om,⟨hA2⟩⟩,by simp only;omega⟩;exact⟨rfl,hXv,rfl,(show 4<5 by omega),rfl,(show 3<5 by omega),rfl,(show 1<5 by omega),rfl,oy,rfl,oy,oy⟩
 obtain rfl:k=n:=om
 have hT:=YS hA
 refine I8 (z62 d x k v dn ord) (PH (srcs:=[.grp 0,.grp 3,.grp 4]) (live:=[(1,Bp x),(2,.ptr 2 1 0 0),(5,.ptr 1 1 0 0),(86,.int .i64 k),(87,.int .i64 k)])
  (heap:=[⟨11,1,true,[rnB d x (ruV d.rules k) (fiV d.finals k) (.lst 1 (ord.map e1)) .nilS]⟩,⟨1,1,true,[.ptr 0 1 0 0]⟩,⟨6,1,true,[C6 d]⟩]) ?_ ?_)
 ·have pO:AJ (ord.map e1)=true:=Fg (λ_=>rfl) _
  unfold rnB ruV fiV;have f_:=Aa hdn (Aa pRU (Aa pFI pO));exact gwB
 have pO:AJ (ord.map e1)=true:=Fg (λ_=>rfl) _;have hmx:(x.length+1) * k<=1025 * 1024:=CS om hn;obtain⟨m,hm⟩:∃m,m=(x.length+1) * k:=⟨_,rfl⟩;have hmi:((x.length:Int)+1) * (k:Int)=(m:Int):=by rw[hm];norm_cast
 rw[<-hm] at hmx;obtain⟨s0,hs0⟩:∃s0:Nat,d.start=s0:=⟨d.start.toNat,om⟩
 have hsm:s0<m:=by
  have:=Il (a:=0) (k:=x.length) (t:=s0) (n:=k) om (Ap _);rw[hm];omega
 have hst:(List.replicate m (AV.bool false)).set s0 (.bool true)=lvB k m (setP (λ_ _=>false) 0 s0 true):=by
  have:=zbt (n:=k) (m:=m) (a:=0) (t:=s0) (L:=λ_ _=>false) (v:=true) om om;rw[Ft,AY,<-zi8] at this;exact this
 have pLv:∀L,AJ (lvB k m L)=true:=λL=>Pi;unfold rnB;refine W_T ?_;(with_reducible repeat'(first|simp(disch:=omega)only[push_cast,↓zz,seval,hdn,hmi,hs0,hst,pLv,List.length_replicate]|refine sp_ ?_ ?_<;>try(intro hc;push_cast at hc)|omega|intro _));have hstn:d.start.toNat=s0:=om
 refine Ba (B7 (λ(q:Nat × (Nat->Nat->Bool))=>q.1<=x.length+1/\Hold (Liv d x k ord q.1 0 q.2)) (λq=>x.length+1-q.1)
  (λq=>[(1,Bp x),(2,.ptr 2 1 0 0),(5,.ptr 1 1 0 0),(12,.ptr 4 1 0 0)]) (λq=>bgV d x k m ord q.1 q.2) (λenv _=>[.grp 0,.grp 1,.grp 2,.grp 3,D4 1 (env 12)]) (0,setP (λ_ _=>false) 0 d.start.toNat true) ⟨Ap _,⟨zi9 hs (FD hT)⟩⟩ ?_ ?_)
 ·unfold bgV rnB ruV fiV
  (with_reducible repeat'(first|simp(disch:=omega)only[push_cast,↓zz,seval,hdn,hs0,hstn,pLv,pRU,pFI,pO,Int.toNat_natCast]|refine sp_ ?_ ?_<;>try(intro hc;push_cast at hc)|omega|intro _))
 rintro⟨at_,L⟩ ⟨ha,⟨hI⟩⟩;simp only at ha hI ⊢;have hol:=FD hT;rcases Aj at_ (x.length+1) with hal|hal
 ·have hB:=QN ord om
  have hit:=zc1 ord om;unfold bgV rnB ruV fiV;refine W_T ?_;(with_reducible repeat'(first|simp(disch:=omega)only[push_cast,↓zz,seval,hdn,pLv,pRU,pFI,pO]|refine sp_ ?_ ?_<;>try(intro hc;push_cast at hc)|refine ee hB ?_|(refine cc hB ?_;simp(disch:=omega)only[push_cast,↓zz,seval,hdn,pLv,pRU,pFI,pO];fail_if_success change False)|omega|intro _))
  refine Kv (Sf (σ:=Nat->Nat->Bool) (λj L=>Hold (Liv d x k ord at_ j L)) [(1,Bp x),(2,.ptr 2 1 0 0),(5,.ptr 1 1 0 0),(12,.ptr 4 1 0 0),(122,.fn 134 [.cptr (.lst 1 (ord.map e1))])] (λL=>bgV d x k m ord at_ L)
   [.grp 0,.grp 1,.grp 2,.grp 3,.grp 4] 5 L hit ?_ (λ_=>rfl) rfl ?_ rfl rfl (z5w _) (zc0 _) oc ⟨hI⟩ ?_ ?_)
  ·unfold bgV rnB ruV fiV
   have f_:=Aa hdn (Aa pLv (Aa pRU (Aa pFI pO)));exact gwB
  ·have f_:=pO;exact gwB
  ·rintro j row L hrow ⟨hI⟩
   obtain⟨hj,rfl⟩:=zbz hrow;clear hrow hit;have hjk:j<k:=om
   obtain⟨s,hse⟩:∃s,s=nth ord (k-1-j):=⟨_,rfl⟩;have hsn:s<k:=(hT.all _).1 (by rw[hse];exact Bi om);rw[hol,<-hse,show e1 s=AV.int .i64 ((s:Nat):Int) from rfl];have hat:at_<=x.length:=om
   have hpm:=Il hsn hat;rw[<-hm] at hpm;have aL:∀L,(lvB k m L).getD (at_ * k+s) .any=.bool (L at_ s):=λL=>zku hsn hpm;have lL:∀L,(lvB k m L).length=m:=λL=>Mk;have hmul:(at_:Int) * (k:Int)=((at_ * k:Nat):Int):=by norm_cast
   have hmulb:at_ * k<=1024 * 1024:=CS om hn
   have hset:∀L e t,at_+e<=x.length->t<k->(lvB k m L).set ((at_+e) * k+t) (.bool true)=lvB k m (setP L (at_+e) t true)/\(at_+e) * k+t<m:=λL e t he htk=>by
    have:=Il htk he;rw[<-hm] at this;exact⟨zbt htk this,this⟩
   generalize hpe:at_ * k+s=p at *;generalize at_ * k=an at *;have hpi:(an:Int)+(s:Int)=(p:Int):=om
   have aLv:=aL L;have aR:(fD 1 e1 k (ruI d.rules)).getD s .any=.lst 1 ((ruI d.rules s).map e1):=zi3 hsn;have aR2:(fD 1 e1 k (ruI d.rules))[s]? = some (.lst 1 ((ruI d.rules s).map e1)):=z1t hsn;have lRU:(fD 1 e1 k (ruI d.rules)).length=k:=z1s;have pRI:AJ ((ruI d.rules s).map e1)=true:=Fg (λ_=>rfl) _;refine W_T ?_;(with_reducible repeat'(first|simp(disch:=omega)only[push_cast,↓zz,seval]|refine sp_ ?_ ?_<;>try(intro hc;push_cast at hc)|omega|intro _));unfold bgV rnB ruV fiV;refine W_T ?_;cases hLs:L at_ s with
   |false =>
    rw[hLs] at aLv;have f_:=Aa hdn (Aa pLv (Aa lL (Aa pRU (Aa pFI (Aa pO (Aa hmul (Aa hpi (Aa aLv (Aa aR (Aa aR2 (Aa lRU pRI)))))))))));refine ywB ?_;clear f_;exact⟨L,AN _ _,⟨zic hI hT hjk hse hLs⟩⟩
   |true =>
    rw[hLs] at aLv;have f_:=Aa hdn (Aa pLv (Aa lL (Aa pRU (Aa pFI (Aa pO (Aa hmul (Aa hpi (Aa aLv (Aa aR (Aa aR2 (Aa lRU pRI)))))))))));refine ywB ?_;clear f_
    refine Ba (B7 (λ(q:Nat × (Nat->Nat->Bool))=>q.1<=(ruI d.rules s).length/\Hold (LivS d x k ord at_ j s q.1 q.2)) (λq=>(ruI d.rules s).length-q.1)
     (λq=>[(1,Bp x),(2,.ptr 2 1 0 0),(5,.ptr 1 1 0 0),(12,.ptr 4 1 0 0),(144,.lst 1 ((ruI d.rules s).map e1)),(145,.int .i64 (ruI d.rules s).length),(146,.int .i64 q.1)]) (λq=>bgV d x k m ord at_ q.2) (λ_ _=>[]) (0,L) ⟨Ap _,⟨zbu hI hLs⟩⟩ ?_ ?_)
    ·unfold bgV rnB ruV fiV
     have f_:=Aa hdn (Aa pLv (Aa pRU (Aa pFI (Aa pO pRI))));exact gwB
    rintro⟨i0,L2⟩ ⟨hi0,⟨hI2⟩⟩;simp only at hi0 hI2 ⊢;unfold bgV rnB ruV fiV;have hIl:=YO d.rules s;rcases Aj i0 (ruI d.rules s).length with hil|hil
    ·obtain⟨i,hi⟩:∃i,i=nth (ruI d.rules s) i0:=⟨_,rfl⟩
     have him:i∈ruI d.rules s:=by rw[hi];exact Bi hil
     obtain⟨i1,i2⟩:=Je.1 him;have aI:((ruI d.rules s).map e1).getD i0 .any=.int .i64 i:=by rw[hi];simp[nth,List.getD,hil]
     have hr:=Bi i1;obtain⟨hg1,hg2⟩:=hgb _ hr;obtain⟨_,htt,_,_⟩:=hgo.r _ hr;have hF:=Uu d x (.lst 1 (fD 1 e1 k (ruI d.rules))) (.lst 1 (fD 1 e1 k (fiI d.finals))) (.lst 1 (ord.map e1)) (.lst 1 (lvB k m L2)) (nth d.rules i).guards at_ pRU pFI pO (pLv L2) om h32 hg1.2 hg1.1 om;simp only[Fe,hdn] at hF;have hyes:=λhg=>zia hI2 hgo hT hjk hse hil hg;have hno:=λhg=>zpj hI2 (k:=i0) hg;rw[<-hi] at hyes hno;have tL:List.take m (lvB k m L2)=lvB k m L2:=Ay (by rw[Mk];exact Ab _);generalize hre:nth d.rules i=r at *;obtain⟨e,he⟩:∃e:Nat,r.eat=e:=⟨r.eat.toNat,om⟩;obtain⟨t,htq⟩:∃t:Nat,r.to_=t:=⟨r.to_.toNat,om⟩;have het:r.eat.toNat=e:=om
     have htt2:r.to_.toNat=t:=om
     rw[het,htt2] at hyes;cases hb:goB x r.guards at_ with
     |false =>
      rw[hb] at hF;have hno:=hno hb;refine W_T ?_;have f_:=Aa hdn (Aa pLv (Aa lL (Aa pRU (Aa pFI (Aa pO (Aa pRI (Aa aI (Aa hre tL))))))));have e_:=hF;refine ywD ?_;clear f_ e_;exact⟨(i0+1,L2),⟨oc,AN _ _⟩,⟨om,⟨hno⟩⟩,by simp only;omega⟩
     |true =>
      rw[hb] at hF;have hyes:=hyes hb;have hle:=L8 hb;have hge:=(hgo.r _ hr).2.2.1;rw[het] at hge;obtain⟨hs1,hs2⟩:=hset L2 e t om om;have hae:(at_:Int)+(e:Int)=((at_+e:Nat):Int):=by norm_cast
      have hmul2:((at_+e:Nat):Int) * (k:Int)=(((at_+e) * k:Nat):Int):=by norm_cast
      have hmulb2:(at_+e) * k<=1024 * 1024:=CS om hn;generalize hpe2:(at_+e) * k+t=p2 at *;generalize (at_+e) * k=an2 at *;have hpi2:(an2:Int)+(t:Int)=(p2:Int):=om
      generalize hbe:at_+e=b2 at *;refine W_T ?_;have f_:=Aa hdn (Aa pLv (Aa lL (Aa pRU (Aa pFI (Aa pO (Aa pRI (Aa aI (Aa hre (Aa tL (Aa he (Aa htq (Aa hae (Aa hmul2 (Aa hpi2 hs1))))))))))))));have e_:=hF;refine ywD ?_;clear f_ e_;exact⟨(i0+1,setP L2 b2 t true),⟨oc,AN _ _⟩,⟨om,⟨hyes⟩⟩,by simp only;omega⟩
    ·obtain rfl:i0=(ruI d.rules s).length:=om
     have hend:=zib hI2 hT hjk hse;refine W_T ?_;have f_:=Aa hdn (Aa pLv (Aa lL (Aa pRU (Aa pFI (Aa pO pRI)))));refine ywB ?_;clear f_;exact⟨L2,AN _ _,⟨hend⟩⟩
  ·rintro L ⟨hI⟩
   rw[QM,hol] at hI;have hI2:=zpk hI hT;unfold bgV rnB ruV fiV;(with_reducible repeat'(first|simp(disch:=omega)only[push_cast,↓zz,seval,hdn,pLv,pRU,pFI,pO]|refine sp_ ?_ ?_<;>try(intro hc;push_cast at hc)|omega|intro _));refine⟨(at_+1,L),⟨AN _ _,oc⟩,⟨om,⟨hI2⟩⟩,by simp only;omega⟩
 ·obtain rfl:at_=x.length+1:=om
  have hE:=zpl hI;have tL:∀L,List.take m (lvB k m L)=lvB k m L:=λL=>Ay (by rw[Mk];exact Ab _);unfold bgV rnB ruV fiV;refine W_T ?_;have f_:=Aa hdn (Aa pLv (Aa pRU (Aa pFI pO)));refine ywB ?_;clear f_;refine⟨_,_,zij 4 [0,3] (z:=Fe d x (ruV d.rules k) (fiV d.finals k) (.lst 1 (ord.map e1)) (.lst 1 (lvB k m L))) ?_ ?_ ?_,rfl,ord,L,?_,hT,hE⟩
  ·(simp(disch:=omega)only[push_cast,↓zz,seval,pR,pFi,pX,pLv,pRU,pFI,pO,Mk,tL])
  ·(simp(disch:=omega)only[push_cast,↓zz,seval,pR,pFi,pX,pLv,pRU,pFI,pO,Mk,tL])
   have e:(k:Int)=d.states:=hdn.symm;rw[e];rfl
  ·simp[AV.pure,AJ,pR,pFi,pX,pLv,pRU,pFI,pO,ruV,fiV]
  ·rw[hm];rfl
def ES:List Int->List Int->Nat
 |[],_=>0
 |_,[]=>0
 |a::l,b::m=>if a=b then ES l m+1 else 0
def cmpL:List Int->List Int->Int
 |[],[]=>0
 |[],_::_=>-1
 |_::_,[]=>1
 |a::l,b::m=>if a<b then -1 else if b<a then 1 else cmpL l m
theorem z1z:∀a b:List Int,ES a b<=a.length/\ES a b<=b.length
 |[],_=>by simp[ES]
 |_::_,[]=>by simp[ES]
 |a::l,b::m=>by
  have:=z1z l m;simp only[ES];split<;>simp<;>omega
theorem z63{a b:List Int}{k:Nat}(h1:k<a.length)(h2:k<b.length)(he:nth a k=nth b k):ES (a.drop k) (b.drop k)=ES (a.drop (k+1)) (b.drop (k+1))+1:=by
 rw[drop_at h1,drop_at h2,ES,Ae he]
theorem z64{a b:List Int}{k:Nat}(h:¬(k<a.length/\k<b.length/\nth a k=nth b k)):ES (a.drop k) (b.drop k)=0:=by
 by_cases h1:k<a.length
 ·by_cases h2:k<b.length
  ·rw[drop_at h1,drop_at h2,ES,Ad λe=>h ⟨h1,h2,e⟩]
  ·rw[Ao (l:=b) om]
   cases a.drop k<;>rfl
 ·rw[Ao (l:=a) om];rfl
theorem WK:∀a b:List Int,cmpL a b=if ES a b=a.length/\ES a b=b.length then 0 else if ES a b=a.length then -1 else if ES a b=b.length then 1 else if nth a (ES a b)<nth b (ES a b) then -1 else if nth b (ES a b)<nth a (ES a b) then 1 else 0
 |[],[]=>rfl
 |[],_::_=>by simp[cmpL,ES]
 |_::_,[]=>by simp[cmpL,ES]
 |a::l,b::m=>by
  by_cases e:a=b
  ·subst e
   have h1:ES (a::l) (a::m)=ES l m+1:=by rw[ES,Ae rfl]
   have h2:cmpL (a::l) (a::m)=cmpL l m:=by rw[cmpL,Ad (Int.lt_irrefl _),Ad (Int.lt_irrefl _)]
   rw[h1,h2,WK l m];simp only[List.length_cons,Nat.add_right_cancel_iff,zfl];rfl
  ·have h1:ES (a::l) (b::m)=0:=by rw[ES,Ad e]
   have n1:¬(0=l.length+1):=om
   have n2:¬(0=m.length+1):=om
   rw[h1,cmpL];rw[List.length_cons,List.length_cons,Ad (show ¬(0=l.length+1/\0=m.length+1) from λh=>n1 h.1),Ad n1,Ad n2];by_cases h2:a<b
   ·rw[Ae h2,Ae (show nth (a::l) 0<nth (b::m) 0 from h2)]
   ·have h3:b<a:=om
    rw[Ad h2,Ad (show ¬nth (a::l) 0<nth (b::m) 0 from h2),Ae h3,Ae (show nth (b::m) 0<nth (a::l) 0 from h3)]
theorem z65(a b:List Int)(hl:a.length<=1000000000):PC Tryz.prog 140 [Bp a,Bp b] (.int .i64 (ES a b)):=by
 refine Cd VA ?_;unfold Oj;refine ywA ?_
 refine Ba (B7 (λ(k:Nat)=>k<=a.length/\ES a b=k+ES (a.drop k) (b.drop k)) (λk=>a.length-k)
  (λk=>[(0,Bp a),(1,Bp b),(5,.int .i64 k)]) (λs=>[]) (λenv _=>[]) 0 oc ?_ ?_)
 ·exact gwA
 rintro k ⟨hk,hr⟩;refine W_T ?_;by_cases h:k<a.length/\k<b.length/\nth a k=nth b k
 ·obtain⟨h1,h2,h3⟩:=h
  have hs:=z63 h1 h2 h3;have f_:=h3;refine ywB ?_;clear f_
  all_goals
   refine⟨k+1,?_⟩;exact gwA
 ·have hs:=z64 h
  rw[hs] at hr;by_cases h1:k<a.length
  ·by_cases h2:k<b.length
   ·have h3:¬nth a k=nth b k:=λe=>h ⟨h1,h2,e⟩
    have f_:=h3;exact gwB
    all_goals first|omega
   ·exact gwA
    all_goals first|omega
  ·exact gwA
   all_goals first|omega
theorem WL(x:Int):PC Tryz.prog 166 [.int .i32 x] (.bool false):=by
 refine Cd OF ?_;unfold JZ;exact gwA
theorem zik(x y:Int):PC Tryz.prog 141 [.int .i32 x,.int .i32 y] (.int .i64 (if x<y then -1 else if y<x then 1 else 0)):=by
 have hx:=WL x;have hy:=WL y;refine Cd MD ?_;unfold IN;by_cases h1:x<y
 ·rw[Ae h1]
  have f_:=h1;have e_:=hx;have e_1:=hy;exact gwD
 ·rw[Ad h1]
  by_cases h2:y<x
  ·rw[Ae h2]
   have f_:=Aa h1 h2;have e_:=hx;have e_1:=hy;exact gwD
  ·rw[Ad h2]
   have f_:=Aa h1 h2;have e_:=hx;have e_1:=hy;exact gwD
theorem O9(a b:List Int)(ha:a.length<=1000000000)(hb:b.length<=1000000000):PC Tryz.prog 105 [Bp a,Bp b] (.int .i64 (cmpL a b)):=by
 have hF:=z65 a b ha;have hfl:=z1z a b;have hC:=zik (nth a (ES a b)) (nth b (ES a b));rw[WK];generalize hf:ES a b=f at *;refine Cd Rv ?_;unfold Lw;by_cases h1:f=a.length
 ·by_cases h2:f=b.length
  ·rw[Ae ⟨h1,h2⟩]
   have e_:=hF;exact gwC
   all_goals first|omega
  ·rw[Ad (λh=>h2 h.2),Ae h1]
   have e_:=hF;exact gwC
   all_goals first|omega
 ·rw[Ad (λh=>h1 h.1),Ad h1]
  by_cases h2:f=b.length
  ·rw[Ae h2]
   have e_:=hF;exact gwC
   all_goals first|omega
  ·rw[Ad h2]
   have e_:=hF;have e_1:=hC;exact gwC
   all_goals first|omega
theorem z2a:∀a b:List Int,cmpL a b=0↔a=b
 |[],[]=>by simp[cmpL]
 |[],_::_=>by simp[cmpL]
 |_::_,[]=>by simp[cmpL]
 |a::l,b::m=>by
  simp only[cmpL,EW];by_cases h1:a<b
  ·rw[Ae h1];constructor
   ·intro h;cases h
   ·intro h;omega
  ·rw[Ad h1]
   by_cases h2:b<a
   ·rw[Ae h2];constructor
    ·intro h;cases h
    ·intro h;omega
   ·rw[Ad h2,z2a l m]
    have:a=b:=om
    simp[this]
theorem zc3:∀a b:List Int,cmpL a b<0↔ltW a b=true
 |[],[]=>by simp[cmpL,ltW]
 |[],_::_=>by simp[cmpL,ltW]
 |_::_,[]=>by simp[cmpL,ltW]
 |a::l,b::m=>by
  simp only[cmpL,ltW];by_cases h1:a<b
  ·rw[Ae h1,Ae h1];simp
  ·rw[Ad h1,Ad h1]
   by_cases h2:b<a
   ·rw[Ae h2,Ae h2];simp
   ·rw[Ad h2,Ad h2];exact zc3 l m
theorem zc4(a b:List Int)(ha:a.length<=1000000000)(hb:b.length<=1000000000):PC Tryz.prog 107 [Bp a,Bp b] (.bool (decide (a=b))):=by
 have hC:=O9 a b ha hb;have hz:decide (cmpL a b=0)=decide (a=b):=Dv.2 (z2a a b);refine Cd TK ?_;unfold M9;rw[<-hz];generalize cmpL a b=c at *;have e_:=hC;exact gwC
def Dk(l:List (List Int)):Nat->List (List Int)
 |0=>[]
 |k+1=>if 0<k/\nth l k=nth l (k-1) then Dk l k else Dk l k++[nth l k]
theorem QP{l:List (List Int)}:∀(k:Nat),k<=l.length->∀w,w∈Dk l k↔w∈l.take k
 |0,_,w=>by simp[Dk]
 |k+1,hk,w=>by
  have ih:=QP (l:=l) k om w;rw[take_at om,Dk];split
  ·rename_i h
   rw[ih,Av,Am];constructor
   ·exact .inl
   ·rintro (h1|rfl)
    ·exact h1
    ·rw[h.2]
     have e:l.take k=l.take (k-1)++[nth l (k-1)]:=by
      have:=take_at (l:=l) (i:=k-1) om
      rwa [show k-1+1=k by omega] at this
     rw[e];simp
  ·rw[Av,ih,Av]
theorem WM{l:List (List Int)}{k:Nat}(hk:k<=l.length){w:List Int}(h:w∈l.take k):∃i,i<k/\w=nth l i:=by
 obtain⟨i,hi,rfl⟩:=Bw h;rw[Bb] at hi;refine⟨i,om,?_⟩;rw[JM om,List.getElem_take]
theorem SU{l:List (List Int)}(hs:l.Pairwise λa b=>ltW b a=false):∀(k:Nat),k<=l.length->NK (Dk l k)
 |0,_=>List.Pairwise.nil
 |k+1,hk=>by
  have ih:=SU hs k om
  have hle:∀i j,i<j->j<l.length->ltW (nth l j) (nth l i)=false:=λi j hij hj=>by
   rw[JM hj,JM om];exact D8.1 hs i j om hj hij
  rw[Dk];split
  ·exact ih
  ·rename_i hne
   refine DI.2 ⟨ih,EX _ _,λa ha b hb=>?_⟩;rw[Am.1 hb];obtain⟨i,hi,rfl⟩:=WM om ((QP k om a).1 ha);cases hlt:ltW (nth l i) (nth l k) with
   |true=>rfl
   |false =>
    exfalso;have e:=KA _ _ hlt (hle i k hi om);refine hne ⟨om,?_⟩;by_cases h1:i=k-1
    ·rw[<-e,h1]
    ·have h2:=hle i (k-1) om om
     have h3:=hle (k-1) k om om;rw[<-e] at h3 ⊢;exact KA _ _ h3 h2
theorem WN(l:List (List Int)):∀k,(Dk l k).length<=k
 |0=>by simp[Dk]
 |k+1=>by
  have:=WN l k;rw[Dk];split
  ·omega
  ·simp;omega
theorem z67{l m:List (List Int)}(h:m.Pairwise λa b=>ltW b a=false)(hp:m.Perm l):Lv l=Dk m m.length:=z1n (SU h _ (Ab _)) λw=>by
 rw[QP _ (Ab _),As];exact hp.mem_iff
theorem zc5{α:Type}[Inhabited α](a b:List α)(k:Nat):nth (a++b) (a.length+k)=nth b k:=by
 simp[nth,List.getD,AG]
theorem U3{α:Type}[Inhabited α](l:List α)(i k:Nat):nth (l.drop i) k=nth l (i+k):=by
 simp[nth,List.getD]
theorem set_mid{α:Type}(C J D:List α)(h v:α):(C++(h::J)++D).set C.length v=(C++[v])++J++D:=oc
theorem Nc(ex:Bool)(l:List (List Int))(hl:l.length<=1000000000)(hw:∀w∈l,w.length<=1000000000):B9 Tryz.prog 106 [.ref 0 1 0 l.length,.fn 107 []] (Abs.hl [⟨1,1,ex,l.map Bp⟩]) λy H' =>
 y=.ref 0 1 0 (Dk l l.length).length/\∃z,AJ z=true/\H'=Abs.hl [⟨1,1,ex,(Dk l l.length).map Bp++z⟩]:=by
 have hc1:=WN l l.length;refine ZV (b:=1) Hm rfl ?_;unfold F8;by_cases h2:l.length<2
 ·have hce:Dk l l.length=l:=by
   match l,h2 with
   |[],_=>rfl
   |[a],_=>rfl
  refine ywA ?_
  all_goals
   refine VO [] (.ref 0 1 0 (Dk l l.length).length) [⟨1,1,ex,(Dk l l.length).map Bp++[]⟩] ?_ ⟨rfl,[],rfl,rfl⟩;rw[hce,Ax];exact gwA
 ·have hcl:∀i,(∀j,1<=j->j<i->nth l j≠nth l (j-1))->i<=l.length->Dk l i=l.take i:=λi=>by
   induction i with
   |zero=>intro _ _;simp[Dk]
   |succ i ih =>
    intro hj hi;rw[Dk,ih (λj h1 h2=>hj j h1 om) om,take_at om];by_cases h0:0<i
    ·rw[Ad λh=>hj i om om h.2]
    ·rw[Ad λh=>h0 h.1]
  have hfn:∀a∈l,∀b∈l,PC Tryz.prog 107 [Bp a,Bp b] (.bool (decide (a=b))):=λa ha b hb=>zc4 a b (hw a ha) (hw b hb);refine ywA ?_
  refine Ba (B7 (λ(i:Nat)=>(1<=i/\i<=l.length)/\Hold (∀j,1<=j->j<i->nth l j≠nth l (j-1))) (λi=>l.length-i)
   (λi=>[(0,.ref 0 1 0 l.length),(1,.fn 107 []),(5,.int .i64 i)]) (λ_=>[⟨1,1,ex,l.map Bp⟩]) (λ_ _=>[]) 1 ⟨om,⟨λj h1 h2=>by omega⟩⟩ ?_ ?_)
  ·exact gwA
  rintro i ⟨⟨hi1,hi⟩,⟨hno⟩⟩;rcases Aj i l.length with hil|hil
  ·have m1:nth l i∈l:=Bi hil
   have m2:nth l (i-1)∈l:=Bi om;have hF:=hfn _ m1 _ m2;have a1:((l.map Bp).getD i .any)=Bp (nth l i):=by simp[nth,List.getD,hil]
   have a2:((l.map Bp).getD (i-1) .any)=Bp (nth l (i-1)):=by
    have:i-1<l.length:=om
    simp[nth,List.getD,this]
   have hci:=hcl i hno om;have hi0:((i:Int)-1).toNat=i-1:=om
   generalize hu:nth l i=u at *;generalize hv:nth l (i-1)=v at *;have pu:=Gb u;have pv:=Gb v;refine W_T ?_;by_cases he:u=v
   ·rw[Bv he] at hF
    have f_:=Aa hu (Aa hv (Aa hi0 (Aa a1 a2)));have e_:=hF;refine ywD ?_;clear f_ e_;have hst:Dk l (i+1)=l.take i:=by rw[Dk,Ae ⟨om,by rw[hu,hv];exact he⟩,hci]
    have hstep:∀k,Dk l (i+k+1)=if nth l (i+k)=nth l (i+k-1) then Dk l (i+k) else Dk l (i+k)++[nth l (i+k)]:=λk=>by
     rw[Dk];by_cases h:nth l (i+k)=nth l (i+k-1)
     ·rw[Ae ⟨om,h⟩,Ae h]
     ·rw[Ad λhh=>h hh.2,Ad h]
    clear hno hcl hF a1 a2 pu pv
    refine Ba (B7 (λ(q:Nat × List (List Int))=>(1<=q.1/\i+q.1<=l.length)/\(Dk l (i+q.1)).length+q.2.length=i+q.1-1) (λq=>l.length-q.1)
     (λq=>[(0,.ref 0 1 0 l.length),(1,.fn 107 []),(5,.int .i64 (Dk l (i+q.1)).length),(6,.ref 0 1 i (l.length-i)),(7,.int .i64 q.1)])
     (λq=>[⟨1,1,ex,(Dk l (i+q.1)++q.2++l.drop (i+q.1-1)).map Bp⟩]) (λ_ _=>[]) (1,[]) ⟨om,by simp only[hst];simp;omega⟩ ?_ ?_)
    ·have hX:Dk l (i+1)++[]++l.drop (i+1-1)=l:=by rw[hst,Ax,Nat.add_sub_cancel,D3]
     have hCl:(Dk l (i+1)).length=i:=by rw[hst,Bb];omega
     simp only[hX,hCl];exact gwA
    rintro⟨k,J⟩ ⟨⟨hk1,hk⟩,hJ⟩;simp only at hk1 hk hJ ⊢;have hXl:(Dk l (i+k)++J++l.drop (i+k-1)).length=l.length:=by simp only[Ai,List.length_drop];omega
    have hCJ:(Dk l (i+k)++J).length=i+k-1:=by rw[Ai];exact hJ
    rcases Aj (i+k) l.length with hkl|hkl
    ·have n1:nth (Dk l (i+k)++J++l.drop (i+k-1)) (i+k)=nth l (i+k):=by
      have:=zc5 (Dk l (i+k)++J) (l.drop (i+k-1)) 1;rw[hCJ,U3] at this
      rwa [show i+k-1+1=i+k by omega] at this
     have n2:nth (Dk l (i+k)++J++l.drop (i+k-1)) (i+k-1)=nth l (i+k-1):=by
      have:=zc5 (Dk l (i+k)++J) (l.drop (i+k-1)) 0;rw[hCJ,U3,Nat.add_zero] at this;exact this
     have m1:nth l (i+k)∈l:=Bi hkl;have m2:nth l (i+k-1)∈l:=Bi om;have hF:=hfn _ m1 _ m2;have hs:=hstep k
     have hdr:l.drop (i+k-1)=nth l (i+k-1)::l.drop (i+k):=by
      have:=drop_at (l:=l) (i:=i+k-1) om
      rwa [show i+k-1+1=i+k by omega] at this
     obtain⟨h,J',hJ'⟩:∃h J',J++[nth l (i+k-1)]=h::J':=by
      cases J with
      |nil=>exact⟨_,[],rfl⟩
      |cons a J=>exact⟨a,J++[_],rfl⟩
     have hJl:J'.length=J.length:=by have:=Bt List.length hJ';simp at this;omega
     have hXe:Dk l (i+k)++J++l.drop (i+k-1)=Dk l (i+k)++(h::J')++l.drop (i+k):=by
      rw[hdr,<-hJ'];simp
     have hset:(Dk l (i+k)++J++l.drop (i+k-1)).set (Dk l (i+k)).length (nth l (i+k))=Dk l (i+k)++[nth l (i+k)]++J'++l.drop (i+k):=by rw[hXe,set_mid]
     have hsame:Dk l (i+k)++J++l.drop (i+k-1)=Dk l (i+k)++(J++[nth l (i+k-1)])++l.drop (i+k):=by rw[hdr];simp
     have hmset:((Dk l (i+k)++J++l.drop (i+k-1)).map Bp).set (Dk l (i+k)).length (Bp (nth l (i+k)))=(Dk l (i+k)++[nth l (i+k)]++J'++l.drop (i+k)).map Bp:=by rw[<-List.map_set,hset]
     have hidx:(i:Int)+k=((i+k:Nat):Int):=om
     have e1':i+(k-1)=i+k-1:=om
     have hk0:((k:Int)-1).toNat=k-1:=om
     have hcl2:(Dk l (i+k)).length<l.length:=om
     generalize hX:Dk l (i+k)++J++l.drop (i+k-1)=X at *;generalize hu2:nth l (i+k)=u2 at *;generalize hv2:nth l (i+k-1)=v2 at *;have pu:=Gb u2;have pv:=Gb v2;refine W_T ?_;by_cases he2:u2=v2
     ·rw[Bv he2] at hF
      rw[Ae he2] at hs;have f_:=Aa hXl (Aa n1 (Aa n2 (Aa hk0 e1')));have e_:=hF;refine ywD ?_;clear f_ e_
      all_goals
       refine⟨(k+1,J++[v2]),?_⟩;have e2:i+(k+1)-1=i+k:=om
       have hsm:(Dk l (i+k)).map Bp++(J.map Bp++Bp v2::(l.drop (i+k)).map Bp)=X.map Bp:=by rw[hsame];simp
       simp only[<-Bu,hs,e2];have f_:=hsm;exact gwB
     ·rw[By he2] at hF
      rw[Ad he2] at hs;have f_:=Aa hXl (Aa n1 (Aa n2 (Aa hk0 (Aa e1' hmset))));have e_:=hF;refine ywD ?_;clear f_ e_
      all_goals
       refine⟨(k+1,J'),?_⟩;have e2:i+(k+1)-1=i+k:=om
       simp only[<-Bu,hs,e2];(with_reducible repeat'(first|simp(disch:=omega)only[push_cast,↓zz,seval,Ai,List.length_cons,List.length_nil]|refine sp_ ?_ ?_<;>try(intro hc;push_cast at hc)|omega|intro _))
    ·have hkn:i+k=l.length:=om
     rw[hkn] at hXl hCJ hJ ⊢;have hm:(Dk l l.length++J++l.drop (l.length-1)).map Bp=(Dk l l.length).map Bp++(J++l.drop (l.length-1)).map Bp:=by rw[A3,Aw]
     have hmt:((Dk l l.length++J++l.drop (l.length-1)).map Bp).take (Dk l l.length).length=(Dk l l.length).map Bp:=by rw[hm];exact DF oc
     have hmd:((Dk l l.length++J++l.drop (l.length-1)).map Bp).drop l.length=[]:=Ao (by rw[Au,hXl];exact Ab _);have pN:=KF (l.length-(Dk l l.length).length);generalize Dk l l.length++J++l.drop (l.length-1)=X at *;generalize Dk l l.length=C at *;have hcn:C.length+(l.length-C.length)=l.length:=om
     refine W_T ?_;(with_reducible repeat'(first|simp(disch:=omega)only[push_cast,↓zz,seval,hXl,hmt,hmd,hcn,Ax]|refine sp_ ?_ ?_<;>try(intro hc;push_cast at hc)|omega|intro _))
     all_goals
      refine VO [] (.ref 0 1 0 C.length) [⟨1,1,ex,C.map Bp++List.replicate (l.length-C.length) .nilS⟩] ?_ ⟨rfl,_,pN,rfl⟩;have f_:=pN;exact gwB
   ·rw[By he] at hF
    have hnx:Hold (∀j,1<=j->j<i+1->nth l j≠nth l (j-1)):=⟨λj h1 h2=>by
     by_cases e:j=i
     ·subst e;rw[hu,hv];exact he
     ·exact hno j h1 om⟩
    clear hno hcl;have f_:=Aa hu (Aa hv (Aa hi0 (Aa a1 a2)));have e_:=hF;refine ywD ?_;clear f_ e_
    all_goals
     refine⟨i+1,?_⟩;exact gwA
     all_goals first|exact⟨om,hnx⟩|exact hnx
  ·obtain rfl:i=l.length:=om
   have hce:=hcl l.length hno (Ab _);rw[As] at hce;clear hno hcl;refine W_T ?_;refine ywA ?_
   all_goals
    refine VO [] (.ref 0 1 0 (Dk l l.length).length) [⟨1,1,ex,(Dk l l.length).map Bp++[]⟩] ?_ ⟨rfl,[],rfl,rfl⟩;rw[hce,Ax];exact gwA
theorem YW{l:List DO}{s i:Nat}:i∈fiI l s↔i<l.length/\(nth l i).from_=s:=by simp[fiI,JW]
theorem zpo(l:List DO)(s:Nat):(fiI l s).length<=l.length:=QO _ _
section
variable (d:Desc)(x:List Int)(S:Nat->Nat->List (List Int))(at_ s:Nat)
def finW(k:Nat):List (List Int):=((fiI d.finals s).take k).flatMap λi=>if (nth d.finals i).guards.length+at_=x.length/\goB x (nth d.finals i).guards at_=true then [GR x (nth d.finals i).out (nth d.finals i).guards at_] else []
def toW(i:Nat):List (List Int):=S (at_+(nth d.rules i).eat.toNat) (nth d.rules i).to_.toNat
def rulW(k:Nat):List (List Int):=((ruI d.rules s).take k).flatMap λi=>if goB x (nth d.rules i).guards at_=true then (toW d S at_ i).map (GR x (nth d.rules i).out (nth d.rules i).guards at_++·) else []
def allW:List (List Int):=finW d x at_ s (fiI d.finals s).length++rulW d x S at_ s (ruI d.rules s).length
variable {d x S at_ s}{k:Nat}
theorem zc6:finW d x at_ s 0=[]:=rfl
theorem zc7:rulW d x S at_ s 0=[]:=rfl
theorem zil(hk:k<(fiI d.finals s).length){f:DO}(hf:nth d.finals (nth (fiI d.finals s) k)=f)(h:(decide (f.guards.length+at_=x.length)&&goB x f.guards at_)=true):finW d x at_ s (k+1)=finW d x at_ s k++[GR x f.out f.guards at_]:=by
 simp only[Ac,Ah] at h;rw[finW,take_at hk,Do,Dr,hf,Ae h];rfl
theorem zpp(hk:k<(fiI d.finals s).length){f:DO}(hf:nth d.finals (nth (fiI d.finals s) k)=f)(h:(decide (f.guards.length+at_=x.length)&&goB x f.guards at_)=false):finW d x at_ s (k+1)=finW d x at_ s k:=by
 rw[finW,take_at hk,Do,Dr,hf,Ad,Ax]
 ·rfl
 rintro⟨h1,h2⟩;rw[h2,Bv h1] at h;cases h
theorem z2b(hk:k<(ruI d.rules s).length){r:Rule}(hf:nth d.rules (nth (ruI d.rules s) k)=r)(h:goB x r.guards at_=true):rulW d x S at_ s (k+1)=rulW d x S at_ s k++(S (at_+r.eat.toNat) r.to_.toNat).map (GR x r.out r.guards at_++·):=by
 rw[rulW,take_at hk,Do,Dr,hf,Ae h,toW,hf];rfl
theorem zc8(hk:k<(ruI d.rules s).length){r:Rule}(hf:nth d.rules (nth (ruI d.rules s) k)=r)(h:goB x r.guards at_=false):rulW d x S at_ s (k+1)=rulW d x S at_ s k:=by
 rw[rulW,take_at hk,Do,Dr,hf,Ad (by rw[h];simp),Ax];rfl
theorem z2c:(finW d x at_ s k).length<=k:=by
 induction k with
 |zero=>simp[finW]
 |succ k ih =>
  rcases Aj k (fiI d.finals s).length with h|h
  ·rw[finW,take_at h,Do,Ai,Dr]
   rw[finW] at ih;split
   ·rw[List.length_singleton];omega
   ·rw[List.length_nil];omega
  ·rw[finW,Ay om]
   rw[finW,Ay h] at ih;omega
theorem zim{w:List Int}:w∈finW d x at_ s (fiI d.finals s).length↔∃f∈d.finals,f.from_=(s:Nat)/\(f.guards.length+at_=x.length/\goB x f.guards at_=true)/\w=GR x f.out f.guards at_:=by
 rw[finW,As,EK];constructor
 ·rintro⟨i,hi,hw⟩
  obtain⟨i1,i2⟩:=YW.1 hi;split at hw
  ·rename_i h
   exact⟨_,Bi i1,i2,h,by simpa using hw⟩
  ·cases hw
 ·rintro⟨f,hf,h1,h2,rfl⟩
  obtain⟨i,hi,rfl⟩:=Bw hf;have e:nth d.finals i=d.finals[i]:=JM hi;exact⟨i,YW.2 ⟨hi,by rw[e];exact h1⟩,by rw[e,Ae h2];simp⟩
theorem zin{w:List Int}:w∈rulW d x S at_ s (ruI d.rules s).length↔∃r∈d.rules,r.from_=(s:Nat)/\goB x r.guards at_=true/\∃v∈S (at_+r.eat.toNat) r.to_.toNat,w=GR x r.out r.guards at_++v:=by
 rw[rulW,As,EK];constructor
 ·rintro⟨i,hi,hw⟩
  obtain⟨i1,i2⟩:=Je.1 hi;split at hw
  ·rename_i h
   obtain⟨v,hv,rfl⟩:=Al.1 hw;exact⟨_,Bi i1,i2,h,v,hv,rfl⟩
  ·cases hw
 ·rintro⟨r,hr,h1,h2,v,hv,rfl⟩
  obtain⟨i,hi,rfl⟩:=Bw hr;have e:nth d.rules i=d.rules[i]:=JM hi;refine⟨i,Je.2 ⟨hi,by rw[e];exact h1⟩,?_⟩;rw[e,Ae h2,toW,e];exact Al.2 ⟨v,hv,rfl⟩
theorem zc9:Lv (allW d x S at_ s)=Lv (outL d x (λa t=>S a t.toNat) at_ (s:Nat)):=by
 refine (z1n (Li _) λw=>?_);rw[KB,allW,Av,zim,zin,outL,Av,Al,EK];constructor
 ·rintro (⟨f,hf,rfl⟩|⟨r,hr,hw⟩)
  ·obtain⟨h1,h2⟩:=AW.1 hf
   simp only[Ac,Ah] at h2;exact .inl ⟨f,h1,h2.1,h2.2,rfl⟩
  ·obtain⟨h1,h2⟩:=AW.1 hr
   simp only[Ac,Ah] at h2;obtain⟨v,hv,rfl⟩:=Al.1 hw;exact .inr ⟨r,h1,h2.1,h2.2,v,hv,rfl⟩
 ·rintro (⟨f,h1,h2,h3,rfl⟩|⟨r,h1,h2,h3,v,hv,rfl⟩)
  ·exact .inl ⟨f,AW.2 ⟨h1,by simp[h2,h3.1,h3.2]⟩,rfl⟩
  ·exact .inr ⟨r,AW.2 ⟨h1,by simp[h2,h3]⟩,Al.2 ⟨v,hv,rfl⟩⟩
end
def Kn(o:Option (List Int))(w:List Int):Option (List Int):=match o with
 |none=>some w
 |some m=>if cmpL w m<0 then some w else some m
structure LeastI(C:List (List Int))(o:Option (List Int)):Prop where
 no:o=none->C=[]
 yes:∀m,o=some m->m∈C/\∀c∈C,ltW c m=false
section
variable {d:Desc}{x:List Int}{n:Nat}{ord:List Nat}{L:Nat->Nat->Bool}{at_ j:Nat}
structure LeaI(d:Desc)(x:List Int)(L:Nat->Nat->Bool)(ord:List Nat)(at_ j:Nat)(B:Nat->Nat->Option (List Int)):Prop where
 past:∀a t,a<=x.length->L a t=true->Past ord at_ j a t->B a t=(outW d x a t).head?
 rest:∀a t,¬Past ord at_ j a t->B a t=none
variable {B:Nat->Nat->Option (List Int)}
variable {y:List Int}{M:Nat->Nat->Nat->Bool}
end
theorem zio{σ:Type}(d:Desc)(x:List Int){n:Nat}{ord:List Nat}{L:Nat->Nat->Bool}(RU FI:AV)(hRU:RU.pure=true)(hFI:FI.pure=true)(hdn:d.states=n)(hn:n<=1024)(hx:x.length<=1024)(ht:Topo d.rules n ord)
 (f:Nat) (caps:List AV) (N:Nat) (heap:σ->List Grp) (hN:∀s,(heap s).length=N) (hcl:∀s,∀G∈heap s,ltL N G.xs) (hcaps:ltL N caps)
 (Inv:Nat->Nat->σ->Prop) (s0:σ) (h0:Inv x.length 0 s0)
 (call:∀a j s,a<=x.length->j<n->Inv a j s->L a (nth ord j)=true->B9 Tryz.prog f (.int .i64 a::.int .i64 (nth ord j:Nat)::caps) (Abs.hl (heap s)) λy H'=>y=.tup []/\∃s',H'=Abs.hl (heap s')/\Inv a (j+1) s')
 (skip:∀a j s,a<=x.length->j<n->Inv a j s->L a (nth ord j)=false->Inv a (j+1) s)
 (row:∀a s,a+1<=x.length->Inv (a+1) n s->Inv a 0 s) :
 B9 Tryz.prog 61 [Fe d x RU FI (.lst 1 (ord.map e1)) (.lst 1 (lvB n ((x.length+1) * n) L)),.fn f caps] (Abs.hl (heap s0)) λy H'=>y=.tup []/\∃s,H'=Abs.hl (heap s)/\Inv 0 n s:=by
 have pR:=BJ d.rules;have pFi:=BD d.finals;have pX:=Gb x;have pO:AJ (ord.map e1)=true:=Fg (λ_=>rfl) _;have hol:=FD ht;have lL:(lvB n ((x.length+1) * n) L).length=(x.length+1) * n:=Mk;have pL:AJ (lvB n ((x.length+1) * n) L)=true:=Pi;have hmx:(x.length+1) * n<=1025 * 1024:=CS om hn;have pN:(Fe d x RU FI (.lst 1 (ord.map e1)) (.lst 1 (lvB n ((x.length+1) * n) L))).pure=true:=by simp[AV.pure,AJ,pR,pFi,pX,pO,pL,hRU,hFI]
 have aL:∀a t,a<=x.length->t<n->(lvB n ((x.length+1) * n) L).getD (a * n+t) .any=.bool (L a t):=λa t ha htn=>zku htn (Il htn ha);have pl:∀a t,a<=x.length->t<n->a * n+t<(x.length+1) * n:=λa t ha htn=>Il htn ha;generalize hm:(x.length+1) * n=m at *;generalize hLV:lvB n m L=LV at *;refine EU (IK Nu (W_T ?_));unfold Jr;have f_:=Aa pO (Aa pL (Aa hRU hFI));refine ywB ?_;clear f_
 refine Ba (D6 (λ(q:Nat × σ)=>q.1<=x.length+1/\Hold ((q.1=0->Inv 0 n q.2)/\∀a,q.1=a+1->Inv a 0 q.2)) (λq=>q.1)
  (λq=>BO [(0,Fe d x RU FI (.lst 1 (ord.map e1)) (.lst 1 LV)),(1,.fn f caps),(4,.int .i64 ((q.1:Int)-1))]) (λq=>Abs.hl (heap q.2)) (x.length+1,s0) ⟨Ab _,⟨⟨λh=>(by cases h),λa h=>?_⟩⟩⟩ ?_ ?_)
 ·obtain rfl:x.length=a:=by simpa using h
  exact h0
 ·refine B3 (gar:=[]) _ (Ax _).symm (Ef ((hN _).trans (hN _).symm)) (by rw[hN];exact hcl _) ?_
  rw[hN];refine⟨rfl,oy,rfl,hcaps,?_,oy,oy⟩;show AV.int _ _=_;congr 1;simp only;omega
 rintro⟨k,s⟩ ⟨hk,⟨⟨hI0,hI⟩⟩⟩;simp only at hk hI0 hI ⊢;rcases Nat.eq_zero_or_pos k with rfl|hk0
 ·have hI0:=hI0 rfl
  refine W_T ?_;have f_:=Aa pO (Aa pL (Aa hRU hFI));refine ywB ?_;clear f_
  all_goals exact⟨_,_,Ent.refl,rfl,s,rfl,hI0⟩
 ·obtain⟨a,rfl⟩:∃a,k=a+1:=⟨k-1,om⟩
  have hIa:=hI a rfl;clear hI0 hI;have ha:a<=x.length:=om
  refine W_T ?_;have f_:=Aa pO (Aa pL (Aa hRU hFI));refine ywB ?_;clear f_
  refine Ba (D6 (λ(q:Nat × σ)=>q.1<=n/\Hold (Inv a q.1 q.2)) (λq=>n-q.1)
   (λq=>BO [(0,Fe d x RU FI (.lst 1 (ord.map e1)) (.lst 1 LV)),(1,.fn f caps),(4,.int .i64 a),(19,.lst 1 (ord.map e1)),(20,.int .i64 n),(21,.int .i64 q.1)]) (λq=>Abs.hl (heap q.2)) (0,s) ⟨Ap _,⟨hIa⟩⟩ ?_ ?_)
  ·refine B3 (gar:=[]) _ (Ax _).symm (Ef ((hN _).trans (hN _).symm)) (by rw[hN];exact hcl _) ?_
   rw[hN];have hO:ltV N (.lst 1 (ord.map e1)):=AL _ _ pO;refine⟨rfl,oy,rfl,hcaps,?_,oy,rfl,hO,?_,oy,rfl,oy,oy⟩
   ·show AV.int _ _=_
    congr 1;omega
   ·show AV.int _ _=_
    congr 1;omega
  rintro⟨j,s1⟩ ⟨hj,⟨hI⟩⟩;simp only at hj hI ⊢;have hO:ltV N (.lst 1 (ord.map e1)):=AL _ _ pO;rcases Aj j n with hjn|hjn
  ·have aO:(ord.map e1).getD j .any=.int .i64 (nth ord j:Nat):=by simp[nth,List.getD,hol,hjn]
   have htn:nth ord j<n:=(ht.all _).1 (Bi om);have hcall:=call a j s1 ha hjn hI;have hskip:=skip a j s1 ha hjn hI;have aK:=aL a _ ha htn;have hpm:=pl a _ ha htn;generalize nth ord j=t at *;have hmul:((a:Int) * (n:Int))=((a * n:Nat):Int):=by norm_cast
   generalize hpe:a * n+t=p at *;generalize a * n=an at *;have hpi:(an:Int)+(t:Int)=(p:Int):=om
   cases hL:L a t with
   |true =>
    rw[hL] at aK;refine W_T ?_;have f_:=Aa pO (Aa pL (Aa hRU (Aa hFI (Aa aO (Aa hdn (Aa hmul (Aa hpi aK)))))));refine ywB ?_;clear f_;refine z1u (extra:=[]) (Ax _).symm (hcall hL) ?_ (by rw[hN];exact hcl _) ?_
    ·rw[hN];exact⟨oy,oy,hcaps⟩
    rintro y H' ⟨rfl,s2,rfl,hI2⟩;refine⟨_,rfl,by rw[hN,hN],oy,by rw[hN];exact hcl _,?_⟩;rw[Ax];(with_reducible repeat'(first|simp(disch:=omega)only[push_cast,↓zz,seval]|refine sp_ ?_ ?_<;>try(intro hc;push_cast at hc)|omega|intro _));refine⟨(j+1,s2),B3 (gar:=[]) _ (Ax _).symm (Ef ((hN _).trans (hN _).symm)) (by rw[hN];exact hcl _) ?_,⟨om,⟨hI2⟩⟩,by simp only;omega⟩;rw[hN];exact⟨rfl,oy,rfl,hcaps,rfl,oy,rfl,hO,rfl,oy,rfl,oy,oy⟩
   |false =>
    rw[hL] at aK;refine W_T ?_;have f_:=Aa pO (Aa pL (Aa hRU (Aa hFI (Aa aO (Aa hdn (Aa hmul (Aa hpi aK)))))));refine ywB ?_;clear f_;refine⟨(j+1,s1),B3 (gar:=[]) _ (Ax _).symm (Ef ((hN _).trans (hN _).symm)) (by rw[hN];exact hcl _) ?_,⟨om,⟨hskip hL⟩⟩,by simp only;omega⟩;rw[hN];exact⟨rfl,oy,rfl,hcaps,rfl,oy,rfl,hO,rfl,oy,rfl,oy,oy⟩
  ·obtain rfl:j=n:=om
   refine W_T ?_;have f_:=Aa pO (Aa pL (Aa hRU hFI));refine ywB ?_;clear f_;refine⟨(a,s1),B3 (gar:=[]) _ (Ax _).symm (Ef ((hN _).trans (hN _).symm)) (by rw[hN];exact hcl _) ?_,⟨om,⟨⟨λh=>?_,λa' h=>?_⟩⟩⟩,by simp only;omega⟩
   ·rw[hN]
    exact⟨rfl,oy,rfl,hcaps,rfl,oy,oy⟩
   ·have h:a=0:=h
    subst h;exact hI
   ·have h:a=a'+1:=h
    subst h;exact row a' s1 om hI
end Go.Proofs.YtflibbceibjddaaGreat
namespace Go.Proofs
open Go.Shelf
def Tryz.sortWd_ren:Go.Shelf.Ren:=⟨fun|6=>104|15=>139|14=>138|28=>164|29=>165|20=>156|21=>157|22=>158|23=>159|24=>160|25=>161|26=>162|27=>163|46=>181|47=>182|48=>183|49=>184|50=>185|57=>205|n=>n,fun|22=>41|24=>23|25=>136|3=>3|39=>179|0=>0|53=>196|55=>198|4=>4|46=>190|45=>189|50=>141|5=>5|9=>9|66=>212|70=>216|76=>237|77=>103|n=>n,fun|n=>n⟩
theorem Tryz.sortWd:Go.Proofs.SlLaysF.n6 Tryz.prog Tryz.sortWd_ren:={
 mixed:=by kernel_rfl
 f6:=⟨Tryz.f104.name,by decide,Tryz.func104.trans (congrArg some (by kernel_rfl))⟩
 f14:=⟨Tryz.f138.name,by decide,Tryz.func138.trans (congrArg some (by kernel_rfl))⟩
 f15:=Tryz.func139.trans (congrArg some (by kernel_rfl))
 f20:=⟨Tryz.f156.name,by decide,Tryz.func156.trans (congrArg some (by kernel_rfl))⟩
 f21:=⟨Tryz.f157.name,by decide,Tryz.func157.trans (congrArg some (by kernel_rfl))⟩
 f22:=⟨Tryz.f158.name,by decide,Tryz.func158.trans (congrArg some (by kernel_rfl))⟩
 f23:=⟨Tryz.f159.name,by decide,Tryz.func159.trans (congrArg some (by kernel_rfl))⟩
 f24:=⟨Tryz.f160.name,by decide,Tryz.func160.trans (congrArg some (by kernel_rfl))⟩
 f25:=⟨Tryz.f161.name,by decide,Tryz.func161.trans (congrArg some (by kernel_rfl))⟩
 f26:=⟨Tryz.f162.name,by decide,Tryz.func162.trans (congrArg some (by kernel_rfl))⟩
 f27:=⟨Tryz.f163.name,by decide,Tryz.func163.trans (congrArg some (by kernel_rfl))⟩
 f28:=Tryz.func164.trans (congrArg some (by kernel_rfl))
 f29:=Tryz.func165.trans (congrArg some (by kernel_rfl))
 f46:=⟨Tryz.f181.name,by decide,Tryz.func181.trans (congrArg some (by kernel_rfl))⟩
 f47:=Tryz.func182.trans (congrArg some (by kernel_rfl))
 f48:=Tryz.func183.trans (congrArg some (by kernel_rfl))
 f49:=⟨Tryz.f184.name,by decide,Tryz.func184.trans (congrArg some (by kernel_rfl))⟩
 f50:=⟨Tryz.f185.name,by decide,Tryz.func185.trans (congrArg some (by kernel_rfl))⟩
 f57:=⟨Tryz.f205.name,by decide,Tryz.func205.trans (congrArg some (by kernel_rfl))⟩
 t0:=Tryz.underlying0
 a0:=Tryz.isAgg0
 z0:=Tryz.sizeOf0
 v0:=Tryz.zeroValue0
 t3:=Tryz.underlying3
 a3:=Tryz.isAgg3
 z3:=Tryz.sizeOf3
 v3:=Tryz.zeroValue3
 t4:=Tryz.underlying4
 a4:=Tryz.isAgg4
 z4:=Tryz.sizeOf4
 v4:=Tryz.zeroValue4
 t5:=Tryz.underlying5
 a5:=Tryz.isAgg5
 z5:=Tryz.sizeOf5
 v5:=Tryz.zeroValue5
 t9:=Tryz.underlying9
 a9:=Tryz.isAgg9
 z9:=Tryz.sizeOf9
 v9:=Tryz.zeroValue9
 t22:=Tryz.underlying41
 a22:=Tryz.isAgg41
 z22:=Tryz.sizeOf41
 v22:=Tryz.zeroValue41
 a24:=Tryz.isAgg23
 z24:=Tryz.sizeOf23
 t25:=Tryz.underlying136
 a25:=Tryz.isAgg136
 z25:=Tryz.sizeOf136
 v25:=Tryz.zeroValue136
 t39:=Tryz.underlying179
 a39:=Tryz.isAgg179
 z39:=Tryz.sizeOf179
 v39:=Tryz.zeroValue179
 t45:=Tryz.underlying189
 a45:=Tryz.isAgg189
 z45:=Tryz.sizeOf189
 v45:=Tryz.zeroValue189
 t46:=Tryz.underlying190
 a46:=Tryz.isAgg190
 z46:=Tryz.sizeOf190
 v46:=Tryz.zeroValue190
 t50:=Tryz.underlying141
 a50:=Tryz.isAgg141
 z50:=Tryz.sizeOf141
 v50:=Tryz.zeroValue141
 t53:=Tryz.underlying196
 a53:=Tryz.isAgg196
 z53:=Tryz.sizeOf196
 v53:=Tryz.zeroValue196
 t55:=Tryz.underlying198
 a55:=Tryz.isAgg198
 z55:=Tryz.sizeOf198
 v55:=Tryz.zeroValue198
 t66:=Tryz.underlying212
 a66:=Tryz.isAgg212
 z66:=Tryz.sizeOf212
 v66:=Tryz.zeroValue212
 t70:=Tryz.underlying216
 a70:=Tryz.isAgg216
 z70:=Tryz.sizeOf216
 v70:=Tryz.zeroValue216
 t76:=Tryz.underlying237
 a76:=Tryz.isAgg237
 z76:=Tryz.sizeOf237
 v76:=Tryz.zeroValue237
 t77:=Tryz.underlying103
 a77:=Tryz.isAgg103
 z77:=Tryz.sizeOf103
 v77:=Tryz.zeroValue103 }
end Go.Proofs
namespace Go.Proofs.YtflibbceibjddaaGreat
open Abs O1 O2 O3 Go.Shelf Go.RowKit Go.Lib Go.Sort
def WV(S:MS):Type:={ p:List Int × Value // VRel S (Bp p.1) p.2/\p.1.length<=1000000000 }
instance (S:MS):Inhabited (WV S):=⟨⟨([],.slice none 0 0),⟨rfl,Nat.one_pos,none,0,[],rfl,⟨Ab _,λ_=>rfl⟩,rfl,λh=>absurd rfl h⟩,Ap _⟩⟩
def encW(S:MS)(p:WV S):Value:=p.val.2
def cfW(S:MS)(p q:WV S):Int:=cmpL p.val.1 q.val.1
theorem ltCW(S:MS)(p q:WV S):ltOf (cfW S) p q=ltW p.val.1 q.val.1:=by
 unfold ltOf cfW;cases h:ltW p.val.1 q.val.1 with
 |true=>exact Bv ((zc3 _ _).2 h)
 |false=>exact By λhh=>by rw[(zc3 _ _).1 hh] at h;cases h
theorem z68(a b c:List Int)(h1:ltW a b=false)(h2:ltW b c=false):ltW a c=false:=by
 cases h:ltW a c with
 |false=>rfl
 |true =>
  exfalso;cases hba:ltW b a with
  |true=>have:=K9 b a c hba h;rw[h2] at this;cases this
  |false =>
   have e:=KA a b h1 hba;subst e;rw[h2] at h;cases h
theorem swoW(S:MS):SWO (ltOf (cfW S)) where
 irrefl x:=by rw[ltCW];exact Iu _
 trans x y z h1 h2:=by rw[ltCW] at *;exact K9 _ _ _ h1 h2
 ntrans x y z h1 h2:=by rw[ltCW] at *;exact z68 _ _ _ h1 h2
theorem WO:∀{a b:World},a.heap=b.heap->a.tape=b.tape->a.drawn=b.drawn->a.os=b.os->a.output=b.output->a=b
 |⟨_,_,_,_,_⟩,⟨_,_,_,_,_⟩,rfl,rfl,rfl,rfl,rfl=>rfl
theorem L9{α:Type}[Inhabited α](enc:α->Value)(w:World)(b m:Nat)(d:Array α)(os:Array Obj):w.heap.size<=(sortWorld enc w b 0 m d os).heap.size:=by
 show _<=((w.heap.modify _ _)++os).size;rw[Fu,Ci];omega
theorem KG{α:Type}[Inhabited α](enc:α->Value)(w:World)(b m:Nat)(d:Array α)(os:Array Obj){k:Nat}(hk:k<w.heap.size)(hb:b≠k):(sortWorld enc w b 0 m d os).heap[k]? = w.heap[k]? := by
 show ((w.heap.modify _ _)++os)[k]? = _;rw[B2 (by rw[Ci];exact hk),C2,Ad hb]
theorem z69(S:MS){H:A4}(hS:SRel S H){blk:Nat}(hni:¬(S.im blk\/S.keep blk))(size:Nat):CmpLays1 Tryz.prog 105 #[] (encW S) (cfW S) blk 0 size S.w:=by
 intro m os dk _ x y;obtain⟨W,hW⟩:∃W,W=sortWorld (encW S) S.w blk 0 m dk os:=⟨_,rfl⟩;rw[<-hW];have hsz:S.w.heap.size<=W.heap.size:=by rw[hW];exact L9 ..
 have hkept:∀b,S.im b->W.heap[b]? = S.w.heap[b]? := λb hb=>by rw[hW];exact KG _ _ _ _ _ _ (hS.im b (.inl hb)) λe=>hni (e ▸ .inl hb)
 have ev1:Evi S { S with w:=W }:=⟨hkept,λ_ h=>h,Ab _,λ_ _=>Ab _,λ_ _ _=>⟨rfl,rfl,rfl⟩⟩
 let S2:MS:=⟨W,S.im,λb=>b<W.heap.size,0,λ_=>0,λ_=>0,λ_=>0,λ_=>0,0⟩
 have down:∀p:WV S,VRel S2 (Bp p.val.1) p.val.2:=λp=>by
  have h:=VRel.moni ev1 _ p.property.1;rw[<-Ub (Bp p.val.1)] at h;exact OY (A:=S2) (B:={ S with w:=W }) (σ:=λg=>g) (m:=0) rfl (λb hb=>hb) (λg hg=>absurd hg (AZ _)) (Bp p.val.1) trivial h
 have hS2:SRel S2 A4.nil:=⟨rfl,λg hg=>absurd hg (AZ _),λg _ hg=>absurd hg (AZ _),λb hb=>hb.elim (λh=>AO (hS.im b (.inl h)) hsz) id⟩;refine ((O9 x.val.1 y.val.1 x.property.2 y.property.2).2 S2 [encW S x,encW S y] hS2 ⟨_,_,rfl,down x,_,_,rfl,down y,rfl⟩).mono λe w' hh=>?_;obtain⟨v,S',z,H',rfl,rfl,ev,_,hv,rfl,_⟩:=hh;have hv':v=.int .i64 (cmpL x.val.1 y.val.1):=hv;subst hv';have hsz2:W.heap.size<=S'.w.heap.size:=ev.size;refine⟨rfl,S'.w.drawn-W.drawn,S'.w.heap.extract W.heap.size S'.w.heap.size,WO ?_ ev.tape.1 ?_ ev.os ev.output⟩
 ·show S'.w.heap=W.heap++_
  refine Array.ext_getElem? λi=>?_;rcases Aj i W.heap.size with hi|hi
  ·rw[B2 hi]
   exact ev.kept i (.inr hi)
  ·rw[Array.getElem?_append_right hi,Array.getElem?_extract]
   rcases Aj i S'.w.heap.size with h2|h2
   ·rw[Ae om];congr 1;omega
   ·rw[Ad om,CF om]
 ·show S'.w.drawn=W.drawn+(S'.w.drawn-W.drawn)
  have:=ev.tape.2;have h2:W.drawn<=S'.w.drawn:=this;omega
theorem SV{S:MS}:∀{l:List (List Int)}{vs:List Value},(∀w∈l,w.length<=1000000000)->AB S (l.map Bp) vs->∃pl:List (WV S),pl.map (λp=>p.val.1)=l/\pl.map (encW S)=vs
 |[],vs,_,h=>⟨[],rfl,h.symm⟩
 |x::l,vs,hl,⟨v,r,hv,h1,h2⟩=>by
  obtain⟨pl,a,b⟩:=SV (λw hw=>hl w (by simp[hw])) h2;exact⟨⟨(x,v),h1,hl x oc⟩::pl,by show x::pl.map _=x::l;rw[a],by rw[hv,<-b];rfl⟩
theorem WQ{S:MS}(p:WV S):∃a n c,encW S p=.slice a n c:=by
 obtain⟨_,_,a,cap,vs,hv,_⟩:=p.property.1;exact⟨a,_,cap,hv⟩
theorem oneW(S:MS):OneCell (encW S):=λp=>by
 obtain⟨a,n,c,h⟩:=WQ p;rw[h];rfl
theorem z2d{S:MS}(p:WV S):(encW S p).cells=#[encW S p]:=by
 obtain⟨a,n,c,h⟩:=WQ p;rw[h];rfl
theorem ziq{S:MS}{b:Nat}{cells:Array Value}{T:TypeId}{pl:List (WV S)}(hb:S.w.heap[b]? = some (.cells cells T (0,0)))(hf:Hg cells 1 (pl.map (encW S))):Holds (encW S) S.w b 0 pl.toArray:=by
 intro j hj;have hi:j<pl.length:=by simpa using hj
 have he:(pl.map (encW S))[j]? = some (encW S pl[j]):=by simp[hi]
 obtain⟨_,_,h3⟩:=hf _ _ he;have h4:=h3 0 Nat.one_pos;rw[Nat.mul_one,Nat.add_zero,z2d] at h4;have hg:pl.toArray[j]! = pl[j]:=by simp[hi]
 refine⟨?_,?_⟩
 ·rw[hg]
  simp only[World.cell?,hb,AY,Option.isSome_none,A8,Bq,h4,id];rfl
 ·simp[World.frozen?,hb]
theorem zpq{S:MS}{b n:Nat}{cells:Array Value}{T:TypeId}{d:Array (WV S)}{os:Array Obj}(hb:S.w.heap[b]? = some (.cells cells T (0,0)))(hsz:d.size<=cells.size):
 ∃cells',(sortWorld (encW S) S.w b 0 n d os).heap[b]? = some (.cells cells' T (0,0))/\cells'.size=cells.size/\Hg cells' 1 (d.toList.map (encW S)):=by
 have hlt:b<S.w.heap.size:=(AU.1 hb).1;refine⟨putCells (encW S) 0 d cells,?_,by simp[putCells],λi v hv=>?_⟩
 ·show ((S.w.heap.modify b _)++os)[b]? = _
  rw[B2 (by rw[Ci];exact hlt),C2,Ae rfl,hb];rfl
 ·rw[Df] at hv
  obtain⟨x,hx,rfl⟩:=Ag.1 hv;have hi:i<d.size:=by have:=(Bh.1 hx).1;simpa using this
  refine⟨by rw[z2d];rfl,λc hc=>?_,λj hj=>?_⟩
  ·rw[z2d] at hc
   obtain rfl:c=encW S x:=by simpa using hc
   exact oneW S x
  ·obtain rfl:j=0:=om
   have hlt2:i<cells.size:=om
   have hd:d[i]! = x:=by
    rw[D2] at hx;rw[getElem!_pos d i hi];exact (AU.1 hx).2
   rw[Nat.mul_one,Nat.add_zero,putCells,Ev,D7 hlt2];simp only[Option.map_some,Ap,Dz,AY,Nat.sub_zero];rw[Ae hi,hd,z2d];rfl
def YX(l:List (List Int)):Prop:=l.Pairwise λa b=>ltW b a=false
theorem zca{S:MS}{d:Array (WV S)}(h:SortedIn (ltOf (cfW S)) 0 d.size d):YX (d.toList.map λp=>p.val.1):=by
 rw[YX,DJ,D8];intro i j hi hj hij;have hi':i<d.size:=by simpa using hi
 have hj':j<d.size:=by simpa using hj
 have:=h i j (Ap _) hij hj';rw[ltCW,getElem!_pos d j hj',getElem!_pos d i hi'] at this;simpa using this
theorem zcb{S:MS}:∀(pl:List (WV S)),AB S (pl.map λp=>Bp p.val.1) (pl.map (encW S))
 |[]=>rfl
 |p::pl=>⟨_,_,rfl,p.property.1,zcb pl⟩
theorem zpr{H:A4}{g ver:Nat}{ex:Bool}{l:List (List Int)}(hg:g<H.n)(hG:H.at_ g=⟨1,ver,ex,l.map Bp⟩)(h1:l≠[])(hl:l.length<4611686018427387904)(hw:∀w∈l,w.length<=1000000000):
 B9 Tryz.prog 104 [.ref g ver 0 l.length,.fn 105 []] H λy H'=>y=.tup []/\∃l':List (List Int),l'.Perm l/\YX l'/\H'=H.set g ⟨1,ver,ex,l'.map Bp⟩:=by
 have eg:∀args w,(callFunc 105 args).run Tryz.prog w=.ok (.enter 105 args) w:=enters_of Tryz.func105 (by kernel_rfl) rfl;refine⟨enters_of Tryz.func104 (by kernel_rfl) rfl,λS cargs hS hx=>?_⟩;obtain⟨v1,r1,rfl,⟨_,hgn,_,hv1⟩,v2,r2,rfl,⟨lb,rfl,rfl⟩,rfl⟩:=hx;have hgr:=hS.grp g hg;rw[hG] at hgr;obtain⟨a,cap',rfl,hcase⟩:=hv1 hgr.ver;have hpos:0<l.length:=by cases l;exact absurd rfl h1;simp
 obtain⟨rfl,rfl,hcap⟩:=hcase.resolve_right (λh=>by omega);have hlen:l.length<=S.cap g:=by have:=hgr.len (show 0<1 by decide);simpa using this
 obtain⟨⟨cells,T,vs,b1,b2,b3,b4⟩,hni⟩:=hgr.live (show 0<1 by decide) om;obtain⟨pl,e1,rfl⟩:=SV hw b3;have b2':cells.size=S.cap g * 1:=b2;have hpl:pl.length=l.length:=by rw[<-e1,Au]
 have hblk:S.place g<S.w.heap.size:=(AU.1 b1).1;have hcon:=Any.slices_SortFunc Tryz.sortWd (encW S) (oneW S) (cfW S) (swoW S) 105 #[] (S.place g) 0 (S.cap g-0) pl.toArray S.w eg (z69 S hS hni _) (ziq b1 b4) hblk (by simp;omega);change Calls Tryz.prog 104 _ _ _ at hcon;rw[BN,hpl] at hcon;rw[Ft];refine hcon.mono λe w' ⟨he,d',n,os,hp,hs,hw'⟩=>?_;subst he hw';obtain⟨q1,q2,q3⟩:=hp;have q1:d'.size=l.length:=by simpa [hpl] using q1
 have hperm:(d'.toList.map λp=>p.val.1).Perm l:=by
  rw[CU,CU] at q3;have q4:d'.toList.Perm pl:=by simpa [List.extract,q1,hpl,Ay (show d'.toList.length<=l.length by simp[q1]),Ay (show pl.length<=l.length by omega)] using q3
  rw[<-e1];exact q4.map _
 rw[<-q1] at hs;obtain⟨cells',c1,c2,c3⟩:=zpq (n:=n) (d:=d') (os:=os) b1 om;have hoth:∀b,b≠S.place g->b<S.w.heap.size->(sortWorld (encW S) S.w (S.place g) 0 n d' os).heap[b]? = S.w.heap[b]? := λb hb hlt=>KG _ _ _ _ _ _ hlt (Du hb);have ev1:Evi S { S with w:=sortWorld (encW S) S.w (S.place g) 0 n d' os }:=⟨λb hb=>hoth b (λe=>hni (e ▸ .inl hb)) (hS.im b (.inl hb)),λ_ h=>h,Ab _,λ_ _=>Ab _,λ_ _ _=>⟨rfl,rfl,rfl⟩⟩;have hmm:(d'.toList.map λp=>p.val.1).map Bp=d'.toList.map λp=>Bp p.val.1:=by rw[BP];rfl
 have hh:=hS.moved hg (by rw[hG];exact (show 0<1 by decide)) (sortWorld (encW S) S.w (S.place g) 0 n d' os) (S.place g) (S.cap g) ⟨1,ver,ex,(d'.toList.map λp=>p.val.1).map Bp⟩ rfl ⟨rfl,EM _ _⟩ rfl
  (L9 ..)
  (λb hb hlt=>hoth b (λe=>hb ⟨om,e⟩) hlt)
  (.inl ⟨om,rfl⟩) (λ_=>⟨cells',T,_,c1,by rw[c2];exact b2',by rw[hmm];exact zcb _,c3⟩) (by simp[q1];exact hlen)
  (λhx=>by have:=hgr.full (show 0<1 by decide) hx;simp at this;simp[q1];exact this) (show 0<1 by decide) (by rw[hgr.ver];exact Ab _) (λ_=>⟨rfl,rfl,by rw[hgr.wid]⟩)
 exact⟨_,_,.tup [],_,rfl,rfl,hh.1,hh.2,⟨[],rfl,rfl⟩,rfl,_,hperm,zca hs,rfl⟩
theorem zir(l:List (List Int)):B9 Tryz.prog 156 [.ref 0 1 0 0,.int .i64 0,.int .i64 0,.fn 105 []] (Abs.hl [⟨1,1,true,l.map Bp⟩]) λy H'=>y=.tup []/\H'=Abs.hl [⟨1,1,true,l.map Bp⟩]:=by
 refine Gh (b:=1) Hc rfl ?_;unfold Fh;refine ywA ?_
 refine Ba (B7 (λ(_:Unit)=>True) (λ_=>0) (λ_=>[(0,.ref 0 1 0 0),(1,.int .i64 0),(2,.int .i64 0),(3,.fn 105 []),(8,.int .i64 1)])
  (λ_=>[⟨1,1,true,l.map Bp⟩]) (λ_ _=>[]) () trivial ?_ ?_)
 ·exact gwA
 rintro _ _;refine W_T ?_;exact gwA
theorem pdqW0(l:List (List Int)):B9 Tryz.prog 138 [.ref 0 1 0 0,.int .i64 0,.int .i64 0,.int .i64 0,.fn 105 []] (Abs.hl [⟨1,1,true,l.map Bp⟩]) λy H'=>y=.tup []/\H'=Abs.hl [⟨1,1,true,l.map Bp⟩]:=by
 refine Gh (b:=1) If rfl ?_;unfold Gg;refine ywA ?_
 refine Ba (B7 (λ(_:Unit)=>True) (λ_=>0) (λ_=>[(0,.ref 0 1 0 0),(1,.int .i64 0),(2,.int .i64 0),(3,.int .i64 0),(4,.fn 105 []),(10,.bool true),(11,.bool true)])
  (λ_=>[⟨1,1,true,l.map Bp⟩]) (λ_ _=>[]) () trivial ?_ ?_)
 ·exact gwA
 rintro _ _;refine W_T ?_;refine ywA ?_;refine B9.mono (zir l) ?_;rintro y H' ⟨rfl,rfl⟩;exact gwA
theorem zut(l:List (List Int)):B9 Tryz.prog 104 [.ref 0 1 0 0,.fn 105 []] (Abs.hl [⟨1,1,true,l.map Bp⟩]) λy H'=>y=.tup []/\H'=Abs.hl [⟨1,1,true,l.map Bp⟩]:=by
 refine Gh (b:=1) HS rfl ?_;unfold FZ;have e_:=zt7;refine ywC ?_;clear e_;refine B9.mono (pdqW0 l) ?_;rintro y H' ⟨rfl,rfl⟩;exact gwA
theorem YY(l:List Int)(hl:l.length<=1000000000000):PC Tryz.prog 103 [Bp l] (Bp l):=by
 cases l with
 |nil =>
  refine z97 ?_ ?_
  ·refine Cd FJ ?_
   unfold EA;exact gwA
  ·refine Cd FJ ?_
   unfold EA;exact gwA
 |cons a l =>
  have hne:((a::l).map (AV.int .i32)).isEmpty=false:=rfl;have hm0:¬(a::l)=[]:=oc
  generalize (a::l)=m at *;refine Cd FJ ?_;unfold EA;have f_:=Aa hne hm0;exact gwB
theorem zcc(l:List (List Int))(hl:l.length<=1000000000)(hw:∀w∈l,w.length<=1000000000):PC Tryz.prog 67 [JY l] (JY (Lv l)):=by
 refine Cd Yd ?_;unfold PT;refine ywA ?_
 refine Ba (B7 (λ(k:Nat)=>k<=l.length) (λk=>l.length-k)
  (λk=>[(3,.ref 0 1 0 l.length),(9,JY l),(10,.int .i64 l.length),(11,.int .i64 k)]) (λk=>[⟨1,1,true,(l.take k).map Bp++List.replicate (l.length-k) .nilS⟩]) (λenv _=>[D4 1 (env 3)]) 0 oc ?_ ?_)
 ·(with_reducible repeat'(first|simp(disch:=omega)only[push_cast,↓zz,seval,KF,List.take_zero,AX,List.nil_append,Nat.sub_zero]|refine sp_ ?_ ?_<;>try(intro hc;push_cast at hc)|omega|intro _))
 intro k hk;rcases Aj k l.length with hkl|hkl
 ·have hC:=YY (nth l k) (by have:=hw _ (Bi hkl);omega)
  have lT:((l.take k).map Bp++List.replicate (l.length-k) AV.nilS).length=l.length:=by simp;omega
  have sT:((l.take k).map Bp++List.replicate (l.length-k) AV.nilS).set k (Bp (nth l k))=(l.take (k+1)).map Bp++List.replicate (l.length-(k+1)) AV.nilS:=by
   have e1:List.replicate (l.length-k) AV.nilS=AV.nilS::List.replicate (l.length-(k+1)) AV.nilS:=by rw[<-List.replicate_succ];congr 1;omega
   have e2:((l.take k).map Bp).length=k:=by simp;omega
   rw[e1,F5 _ _ om,e2,Nat.sub_self,List.set_cons_zero,take_at hkl,Aw,A3];rfl
  have pT:∀k,AJ ((l.take k).map Bp++List.replicate (l.length-k) AV.nilS)=true:=λk=>by rw[Jp,KX (l.take k),KF];rfl
  generalize hwk:nth l k=w at *;generalize hLk:(l.take k).map Bp++List.replicate (l.length-k) AV.nilS=T0 at *;have hp0:=pT k;have hp1:=pT (k+1);rw[hLk] at hp0;generalize hLk1:(l.take (k+1)).map Bp++List.replicate (l.length-(k+1)) AV.nilS=T1 at *;refine W_T ?_;have f_:=Aa hwk (Aa lT (Aa sT hp0));have e_:=hC;refine ywD ?_;clear f_ e_
  all_goals
   refine⟨k+1,?_⟩;have f_:=Aa hLk1 hp1;exact gwB
 ·obtain rfl:k=l.length:=om
  have e1:(l.take l.length).map Bp++List.replicate (l.length-l.length) AV.nilS=l.map Bp:=oc
  rw[e1];refine W_T ?_;refine ywA ?_;by_cases h0:l=[]
  ·subst h0
   refine B9.mono (zut []) ?_;rintro y H' ⟨rfl,rfl⟩;have hC:=Nc true [] oc (λw hw'=>by cases hw');refine ywA ?_;refine B9.mono hC ?_;rintro y H' ⟨rfl,z,pz,rfl⟩;have e0:Dk [] 0=[]:=rfl;have e1:Lv []=[]:=rfl;(with_reducible repeat'(first|simp(disch:=omega)only[push_cast,↓zz,seval,pz,e0,e1,List.length_nil,AX,List.nil_append,List.take_zero]|refine sp_ ?_ ?_<;>try(intro hc;push_cast at hc)|omega|intro _))
  have hS:=zpr (H:=Abs.hl [⟨1,1,true,l.map Bp⟩]) (g:=0) (ver:=1) (ex:=true) (l:=l) (by show 0<1;omega) rfl h0 om hw;refine B9.mono hS ?_;rintro y H' ⟨rfl,l',hp,hs,rfl⟩;have hl':l'.length=l.length:=hp.length_eq;have hC:=Nc true l' om λw hw'=>hw w (hp.mem_iff.1 hw');have hsw:=z67 hs hp;rw[hl'] at hC hsw;rw[hsw];refine ywA ?_;refine B9.mono hC ?_;rintro y H' ⟨rfl,z,pz,rfl⟩;generalize Dk l' l.length=M at *;have tM:∀z,List.take M.length (M.map Bp++z)=M.map Bp:=λz=>DF oc;have f_:=Aa pz tM;exact gwB
theorem z6a(n:Nat)(h0:0<n)(hn:n<=1000000000):B9 Tryz.prog 102 [.nilS,.int .i64 n] (Abs.hl []) λy H'=>y=.ref 0 1 0 0/\H'=Abs.hl [⟨1,1,false,List.replicate n (AV.int .i32 0)⟩]:=by
 refine Gh (b:=0) Hi rfl ?_;unfold FW;have e0:((n:Int)-0).toNat=n:=om
 have f_:=e0;exact gwB
theorem YZ:PC Tryz.prog 102 [.nilS,.int .i64 0] .nilS:=by
 refine Cd Hi ?_;unfold FW;exact gwA
theorem JB(l:List Int):AJ (l.map (AV.int .i32))=true:=C4 .i32 _
def HM(ws:List (List Int))(k:Nat):List AV:=(ws.take k).flatten.map (AV.int .i32)++List.replicate (ws.flatten.length-(ws.take k).flatten.length) (AV.int .i32 0)
theorem SX{α:Type}(ws:List (List α)){k:Nat}(h:k<ws.length):(ws.take (k+1)).flatten=(ws.take k).flatten++ws[k]:=by
 rw[List.take_succ_eq_append_getElem h,List.flatten_append];simp only[List.flatten_cons,List.flatten_nil,Ax]
theorem U4{α:Type}(ws:List (List α))(k:Nat):(ws.take k).flatten.length<=ws.flatten.length:=by
 have:ws.flatten=(ws.take k).flatten++(ws.drop k).flatten:=by rw[<-List.flatten_append,D3]
 rw[this];simp
theorem WR(ws:List (List Int))(hk:ws.length<=1000000000)(h0:0<ws.flatten.length)(hl:ws.flatten.length<=1000000000):PC Tryz.prog 66 [.lst 1 (ws.map Bp)] (Bp ws.flatten):=by
 have pW:AJ (ws.map Bp)=true:=Bz.2 λx hx=>by
  obtain⟨l,_,rfl⟩:=Al.1 hx;exact JB l
 have aW:∀k,k<ws.length->(ws.map Bp).getD k .any=Bp (nth ws k):=λk hk=>by simp[nth,List.getD,hk]
 have hG:=z6a ws.flatten.length h0 hl;refine Cd GD ?_;unfold F6;(with_reducible repeat'(first|simp(disch:=omega)only[push_cast,↓zz,seval,pW]|refine sp_ ?_ ?_<;>try(intro hc;push_cast at hc)|omega|intro _))
 refine Ba (B7 (λ(k:Nat)=>k<=ws.length) (λk=>ws.length-k)
  (λk=>[(0,.lst 1 (ws.map Bp)),(3,.int .i64 (ws.take k).flatten.length),(9,.lst 1 (ws.map Bp)),(10,.int .i64 ws.length),(11,.int .i64 k)]) (λ_=>[]) (λ_ _=>[]) 0 oc ?_ ?_)
 ·(with_reducible repeat'(first|simp(disch:=omega)only[push_cast,↓zz,seval,pW,List.flatten_nil,List.length_nil]|refine sp_ ?_ ?_<;>try(intro hc;push_cast at hc)|omega|intro _))
 intro k hkw;rcases Aj k ws.length with hkl|hkl
 ·have hn:nth ws k=ws[k]:=by simp[nth,hkl]
  have hf:=SX ws hkl;rw[<-hn] at hf;have h1:=U4 ws (k+1);have h2:(ws.take (k+1)).flatten.length=(ws.take k).flatten.length+(nth ws k).length:=by rw[hf];simp
  have aK:=aW k hkl;generalize (ws.take k).flatten.length=m at *;refine W_T ?_;(with_reducible repeat'(first|simp(disch:=omega)only[push_cast,↓zz,seval,pW,aK]|refine sp_ ?_ ?_<;>try(intro hc;push_cast at hc)|omega|intro _))
  all_goals
   refine⟨k+1,?_⟩;(with_reducible repeat'(first|simp(disch:=omega)only[push_cast,↓zz,seval,pW,h2]|refine sp_ ?_ ?_<;>try(intro hc;push_cast at hc)|omega|intro _))
 ·obtain rfl:k=ws.length:=om
  rw[Ay (Ab _)];have hzz:(ws.flatten.length:Int)≠0:=om
  refine W_T ?_;(with_reducible repeat'(first|simp(disch:=omega)only[push_cast,↓zz,seval,pW]|refine sp_ ?_ ?_<;>try(intro hc;push_cast at hc)|omega|intro _))
  (refine at_c [] (hG) ox oc (by refine⟨?_,?_,?_,?_⟩<;>(simp(disch:=omega)only[push_cast,↓zz,seval,Af,An,A7,B6,Cr,BG])) ?_)
  rintro y H' ⟨rfl,rfl⟩;refine⟨_,rfl,oc,?_⟩;(with_reducible repeat'(first|simp(disch:=omega)only[push_cast,↓zz,seval,pW]|refine sp_ ?_ ?_<;>try(intro hc;push_cast at hc)|omega|intro _))
  refine Ba (B7 (λ(k:Nat)=>k<=ws.length) (λk=>ws.length-k)
   (λk=>[(6,.ref 0 1 0 (ws.take k).flatten.length),(25,.lst 1 (ws.map Bp)),(26,.int .i64 ws.length),(27,.int .i64 k)]) (λk=>[⟨1,1,false,HM ws k⟩]) (λenv _=>[D4 1 (env 6)]) 0 oc ?_ ?_)
  ·have r0:HM ws 0=List.replicate ws.flatten.length (AV.int .i32 0):=by simp[HM]
   have pZ:∀n,AJ (List.replicate n (AV.int .i32 0))=true:=λn=>Bz.2 λx hx=>by rw[Ca hx];rfl
   (with_reducible repeat'(first|simp(disch:=omega)only[push_cast,↓zz,seval,pW,pZ,r0,List.flatten_nil,List.length_nil]|refine sp_ ?_ ?_<;>try(intro hc;push_cast at hc)|omega|intro _))
  intro k hkw
  have pL:∀k,AJ (HM ws k)=true:=λk=>by
   rw[HM,Jp,JB,Bj];exact Bz.2 λx hx=>by rw[Ca hx];rfl
  have h1:=U4 ws k;have lR:(HM ws k).length=ws.flatten.length:=by simp only[HM,Ai,Au,List.length_replicate];omega
  rcases Aj k ws.length with hkl|hkl
  ·have hn:nth ws k=ws[k]:=by simp[nth,hkl]
   have hf:=SX ws hkl;rw[<-hn] at hf;have h1':=U4 ws (k+1);have h2:(ws.take (k+1)).flatten.length=(ws.take k).flatten.length+(nth ws k).length:=by rw[hf];simp
   have aK:=aW k hkl;have pw:=JB (nth ws k)
   have hR:(HM ws k).take (ws.take k).flatten.length++(nth ws k).map (AV.int .i32)++(HM ws k).drop ((ws.take k).flatten.length+(nth ws k).length)=HM ws (k+1):=by
    have e1:(HM ws k).take (ws.take k).flatten.length=(ws.take k).flatten.map (AV.int .i32):=by
     rw[HM];exact DF (by rw[Au])
    have e2:(HM ws k).drop ((ws.take k).flatten.length+(nth ws k).length)=List.replicate (ws.flatten.length-(ws.take (k+1)).flatten.length) (AV.int .i32 0):=by
     rw[<-Fw,HM,List.drop_left' (by rw[Au]),List.drop_replicate,h2];congr 1;omega
    rw[e1,e2,HM,hf,Aw,A3]
   rw[A3] at hR
   have hQ:(HM ws k).length<=(ws.take k).flatten.length->HM ws k++(nth ws k).map (AV.int .i32)=HM ws (k+1):=λh=>by
    have h0:nth ws k=[]:=Az om;rw[HM,HM,hf,h0,Ax,AX,Ax]
   have pT:AJ ((HM ws k).take (ws.take k).flatten.length)=true:=Bz.2 λx hx=>Bz.1 (pL k) x (Be hx);have pD:AJ ((HM ws k).drop ((ws.take k).flatten.length+(nth ws k).length))=true:=Bz.2 λx hx=>Bz.1 (pL k) x (Bc hx);have hpk:=pL k;have hpk1:=pL (k+1);generalize (ws.take k).flatten.length=m at *;generalize hRk:HM ws k=R at *;generalize hRk1:HM ws (k+1)=R1 at *;refine W_T ?_;(with_reducible repeat'(first|simp(disch:=omega)only[push_cast,↓zz,seval,pW,aK,pw,hpk]|refine sp_ ?_ ?_<;>try(intro hc;push_cast at hc)|omega|intro _))
   all_goals
    refine⟨k+1,?_⟩;(with_reducible repeat'(first|simp(disch:=omega)only[push_cast,↓zz,seval,pW,h2,hRk1,hpk1,pw,hpk,pT,pD,hR,hQ]|refine sp_ ?_ ?_<;>try(intro hc;push_cast at hc)|omega|intro _))
  ·obtain rfl:k=ws.length:=om
   have rE:HM ws ws.length=ws.flatten.map (AV.int .i32):=by simp[HM]
   rw[rE,As] at *;refine W_T ?_;have f_:=Aa pW JB;exact gwB
theorem U5(ws:List (List Int))(hk:ws.length<=1000000000)(h0:ws.flatten.length=0):PC Tryz.prog 66 [.lst 1 (ws.map Bp)] (Bp ws.flatten):=by
 have pW:AJ (ws.map Bp)=true:=Bz.2 λx hx=>by
  obtain⟨l,_,rfl⟩:=Al.1 hx;exact JB l
 have hE:ws.flatten=[]:=Az h0
 have aW:∀k,k<ws.length->(ws.map Bp).getD k .any=.lst 1 []:=λk hk=>by
  have:ws[k]=[]:=by
   have:=List.flatten_eq_nil_iff.1 hE _ (BM hk);exact this
  simp[List.getD,hk,this,Bp]
 have hG:=YZ;rw[hE];refine Cd GD ?_;unfold F6;have f_:=pW;refine ywB ?_;clear f_
 refine Ba (B7 (λ(k:Nat)=>k<=ws.length) (λk=>ws.length-k)
  (λk=>[(0,.lst 1 (ws.map Bp)),(3,.int .i64 0),(9,.lst 1 (ws.map Bp)),(10,.int .i64 ws.length),(11,.int .i64 k)]) (λ_=>[]) (λ_ _=>[]) 0 oc ?_ ?_)
 ·have f_:=pW;exact gwB
 intro k hkw;rcases Aj k ws.length with hkl|hkl
 ·have aK:=aW k hkl
  refine W_T ?_;have f_:=Aa pW aK;refine ywB ?_;clear f_
  all_goals
   refine⟨k+1,?_⟩;have f_:=pW;exact gwB
 ·obtain rfl:k=ws.length:=om
  refine W_T ?_;have f_:=pW;have e_:=hG;refine ywD ?_;clear f_ e_
  refine Ba (B7 (λ(k:Nat)=>k<=ws.length) (λk=>ws.length-k)
   (λk=>[(6,.ref 0 1 0 0),(25,.lst 1 (ws.map Bp)),(26,.int .i64 ws.length),(27,.int .i64 k)]) (λk=>[⟨1,1,false,[]⟩]) (λenv _=>[D4 1 (env 6)]) 0 oc ?_ ?_)
  ·have f_:=pW;exact gwB
  intro k hkw;rcases Aj k ws.length with hkl|hkl
  ·have aK:=aW k hkl
   refine W_T ?_;have f_:=Aa pW aK;refine ywB ?_;clear f_
   all_goals
    refine⟨k+1,?_⟩;have f_:=pW;exact gwB
  ·obtain rfl:k=ws.length:=om
   refine W_T ?_;have f_:=pW;exact gwB
theorem U6(a b:List Int)(hl:a.length+b.length<=1000000000):PC Tryz.prog 66 [.lst 1 [Bp a,Bp b]] (Bp (a++b)):=by
 have e:[a,b].flatten=a++b:=oc
 have el:[a,b].flatten.length=a.length+b.length:=by rw[e,Ai]
 rw[<-e];rcases Nat.eq_zero_or_pos [a,b].flatten.length with h|h
 ·exact U5 [a,b] oc h
 ·exact WR [a,b] oc h om
end Go.Proofs.YtflibbceibjddaaGreat
