/-
  Parts of the proof that the law holds whatever the input; without conditions.
-/
import Derived.Test.YtbcjoeadpjfcfaaGreatRQ8
import Derived.Test.YtbcjoeadpjfcfaaGreatRQ9
set_option linter.unusedSimpArgs false
set_option linter.unusedVariables false
set_option linter.unusedSectionVars false
set_option maxRecDepth 100000
namespace Go.Proofs.YtbcjoeadpjfcfaaGreat
open Abs O1 O2 O3
def bstT(n m:Nat)(B:Nat->Nat->Option (List Int)):List AV:=(List.range m).map λp=>A4 ((B (p / n) (p % n)).getD [])
def hasT(n m:Nat)(B:Nat->Nat->Option (List Int)):List AV:=(List.range m).map λp=>AV.bool (B (p / n) (p % n)).isSome
section
variable {n m a t:Nat}{B:Nat->Nat->Option (List Int)}
theorem T8:(bstT n m B).length=m:=by simp[bstT]
theorem T9:(hasT n m B).length=m:=by simp[hasT]
theorem LX:A6 (bstT n m B)=true:=BQ.2 λx hx=>by
 obtain⟨i,_,rfl⟩:=Ar.1 hx;exact AE .i32 _
theorem LY:A6 (hasT n m B)=true:=BQ.2 λx hx=>by
 obtain⟨i,_,rfl⟩:=Ar.1 hx;rfl
theorem X9{z:AV}(ht:t<n)(hp:a * n+t<m):(bstT n m B).getD (a * n+t) z=A4 ((B a t).getD []):=by
 rw[bstT,Cq hp,Gc ht,Gd ht]
theorem XA{z:AV}(ht:t<n)(hp:a * n+t<m):(hasT n m B).getD (a * n+t) z=.bool (B a t).isSome:=by
 rw[hasT,Cq hp,Gc ht,Gd ht]
theorem zem{v:Option (List Int)}(ht:t<n)(hp:a * n+t<m):(bstT n m B).set (a * n+t) (A4 (v.getD []))=bstT n m (setP B a t v):=by
 rw[bstT,CJ hp,bstT];refine AD λp _=>?_;simp only[setP];by_cases e:p=a * n+t
 ·subst e;rw[Ae rfl,Gc ht,Gd ht,Ae ⟨rfl,rfl⟩]
 ·rw[Ac e,Ac λh=>e (LP ht h)]
theorem zen{v:Option (List Int)}(ht:t<n)(hp:a * n+t<m):(hasT n m B).set (a * n+t) (.bool v.isSome)=hasT n m (setP B a t v):=by
 rw[hasT,CJ hp,hasT];refine AD λp _=>?_;simp only[setP];by_cases e:p=a * n+t
 ·subst e;rw[Ae rfl,Gc ht,Gd ht,Ae ⟨rfl,rfl⟩]
 ·rw[Ac e,Ac λh=>e (LP ht h)]
theorem z9a{l:List Grp}:leSL l (List.replicate m .nilS) (bstT n m λ_ _=>none):=by
 have key:∀(q:List Nat),leSL l (List.replicate q.length .nilS) (q.map λ_=>A4 []):=λq=>by
  induction q with
  |nil=>exact rfl
  |cons a q ih=>exact⟨⟨Nat.one_pos,rfl⟩,ih⟩
 have:=key (List.range m)
 rwa [CG] at this
theorem z9b:List.replicate m (AV.bool false)=hasT n m λ_ _=>none:=by
 refine BI (by simp[hasT]) λi h1 h2=>?_;simp[hasT]
theorem VR{β:Type}{L:Nat->Nat->β}{v:β}(h:L a t=v):setP L a t v=L:=by
 funext b u;simp only[setP];split
 ·rename_i e;rw[e.1,e.2,h]
 ·rfl
theorem z9c{β:Type}{L:Nat->Nat->β}{v w:β}:setP (setP L a t v) a t w=setP L a t w:=by
 funext b u;simp only[setP];split<;>rfl
theorem z9d{β:Type}{L:Nat->Nat->β}{v:β}:setP L a t v a t=v:=by simp[setP]
theorem zeo{β:Type}{L:Nat->Nat->β}{v:β}{b u:Nat}(h:¬(b=a/\u=t)):setP L a t v b u=L b u:=by
 simp only[setP,Ac h]
end
theorem z2f(n m a s:Nat)(B:Nat->Nat->Option (List Int))(w:List Int)(hs:s<n)(hp:a * n+s<m)(hm:m<=2000000)(hw:w.length<=1000000000)(hB:∀v,B a s=some v->v.length<=1000000000):
 BB Tryz.prog 76 [A4 w,.ptr 3 1 0 0,.ptr 4 1 0 0,.ptr 1 1 0 0] (Abs.hl [⟨1,1,true,bstT n m B⟩,⟨1,1,true,[.ref 0 1 0 m]⟩,⟨1,1,true,hasT n m B⟩,⟨1,1,true,[.ref 2 1 0 m]⟩,⟨1,1,true,[.int .i64 (a * n+s:Nat)]⟩])
  λy H'=>y=.tup []/\H'=Abs.hl [⟨1,1,true,bstT n m (setP B a s (FR (B a s) w))⟩,⟨1,1,true,[.ref 0 1 0 m]⟩,⟨1,1,true,hasT n m (setP B a s (FR (B a s) w))⟩,⟨1,1,true,[.ref 2 1 0 m]⟩,⟨1,1,true,[.int .i64 (a * n+s:Nat)]⟩]:=by
 have pW:A6 (w.map (AV.int .i32))=true:=AE .i32 _;have b1:=zem (B:=B) (v:=FR (B a s) w) hs hp;have h1:=zen (B:=B) (v:=FR (B a s) w) hs hp;have b2:=X9 (B:=B) (z:=.any) hs hp;have h2:=XA (B:=B) (z:=.any) hs hp;have hsame:=λ(h:FR (B a s) w=B a s)=>VR (a:=a) (t:=s) (L:=B) h.symm;have lb:=T8 (n:=n) (m:=m) (B:=B);have lh:=T9 (n:=n) (m:=m) (B:=B);have pb:=LX (n:=n) (m:=m) (B:=B);have ph:=LY (n:=n) (m:=m) (B:=B);refine Gz (b:=5) Oy rfl ?_;unfold Jh;generalize hpe:a * n+s=p at *;cases hB0:B a s with
 |none =>
  rw[hB0] at b1 b2 h1 h2;simp only[FR,Option.getD_some,Option.isSome_some,Option.getD_none,Option.isSome_none] at *;rw[<-b1,<-h1];generalize bstT n m B=TB at *;generalize hasT n m B=TH at *;(with_reducible repeat'(first|simp (disch:=omega) only[push_cast,↓zz,seval,yy,Ai,As,AH,Cp,Dl,B4,D5,D4,pW,lb,lh,pb,ph,b2,h2]|apply Aa|refine sp_ ?_ ?_<;>intro hc<;>push_cast at hc|refine Ws [0,2] [] [] (by simp) (by decide) ?_|omega|intro _))
 |some v =>
  have hv:=hB v hB0;have hC:=J5 w v hw hv;have pV:A6 (v.map (AV.int .i32))=true:=AE .i32 _;rw[hB0] at b1 b2 h1 h2 hsame;simp only[FR,Option.getD_some,Option.isSome_some] at *;by_cases hc:cmpL w v<0
  ·rw[Ae hc] at *
   simp only[Option.getD_some,Option.isSome_some] at *;rw[<-b1,<-h1];generalize bstT n m B=TB at *;generalize hasT n m B=TH at *;generalize cmpL w v=c at *;(with_reducible repeat'(first|simp (disch:=omega) only[push_cast,↓zz,seval,yy,Ai,As,AH,Cp,Dl,B4,D5,D4,pW,pV,lb,lh,pb,ph,b2,h2,hc]|apply Aa|refine sp_ ?_ ?_<;>intro hc<;>push_cast at hc|refine ee hC ?_|refine Ws [0,2] [] [] (by simp) (by decide) ?_|(refine cc hC ?_;(simp(disch:=omega)only[push_cast,↓zz,seval,yy,Ai,As,AH,Cp,Dl,B4,D5,D4,pW,pV,lb,lh,pb,ph,b2,h2,hc]);(fail_if_success change False))|omega|intro _))
  ·rw[Ac hc] at *
   rw[hsame rfl];generalize bstT n m B=TB at *;generalize hasT n m B=TH at *;generalize cmpL w v=c at *;(with_reducible repeat'(first|simp (disch:=omega) only[push_cast,↓zz,seval,pW,pV,lb,lh,pb,ph,b2,h2,hc]|apply Aa|refine sp_ ?_ ?_<;>intro hc<;>push_cast at hc|refine ee hC ?_|(refine cc hC ?_;(simp(disch:=omega)only[push_cast,↓zz,seval,pW,pV,lb,lh,pb,ph,b2,h2,hc]);(fail_if_success change False))|omega|intro _))
   all_goals trace_state
set_option maxRecDepth 100000
def leaH(d:Desc)(R:AV)(n m:Nat)(B:Nat->Nat->Option (List Int)):List Grp:=[⟨6,1,true,[Cu d]⟩,⟨1,1,true,[R]⟩,⟨1,1,true,bstT n m B⟩,⟨1,1,true,[.ref 2 1 0 m]⟩,⟨1,1,true,hasT n m B⟩,⟨1,1,true,[.ref 4 1 0 m]⟩]
theorem PN{d:Desc}{R:AV}(hR:R.pure=true){n m:Nat}{B:Nat->Nat->Option (List Int)}:∀G∈leaH d R n m B,ltL 6 G.xs:=λG hG=>by
 simp only[leaH,Ai,As,AH] at hG;rcases hG with rfl|rfl|rfl|rfl|rfl|rfl
 ·exact C0 _ _ (by simp[A6,Gp])
 ·exact C0 _ _ (by simp[A6,hR])
 ·exact C0 _ _ LX
 ·exact⟨(show 2<6 by omega),trivial⟩
 ·exact C0 _ _ LY
 ·exact⟨(show 4<6 by omega),trivial⟩
section
variable {d:Desc}{x:List Int}{n:Nat}{ord:List Nat}{L:Nat->Nat->Bool}{a j s k:Nat}{S:Nat->Nat->List (List Int)}{B:Nat->Nat->Option (List Int)}{c:List Int}
theorem zep(h:c∈rulW d x S a s k):c∈rulW d x S a s (ruI d.rules s).length:=by
 rw[rulW,Cs] at h;obtain⟨i,hi,h⟩:=h;rw[rulW,A3,Cs];exact⟨i,By hi,h⟩
theorem zeq(h:c∈finW d x a s k):c∈finW d x a s (fiI d.finals s).length:=by
 rw[finW,Cs] at h;obtain⟨i,hi,h⟩:=h;rw[finW,A3,Cs];exact⟨i,By hi,h⟩
theorem zer(h:LeaI d x L ord a j B)(hl:LivE d x n L)(hg:Goes d n)(ht:Topo d.rules n ord)(hj:j<n)(ha:a<=x.length)(hlv:L a (nth ord j)=true)(hc:c∈allW d x (λa t=>(B a t).toList) a (nth ord j)):RelW d x a (nth ord j:Nat) c:=by
 rw[JV];rw[allW,Am,JW,NC] at hc;rcases hc with hc|⟨r,hr,hf,hgo,v,hv,rfl⟩
 ·exact .inl hc
 ·refine .inr ⟨r,hr,hf,hgo,v,?_,rfl⟩
  obtain⟨_,htt,e1,e2⟩:=hg.r r hr;have hle:=FE hgo;rw[h.past _ _ (by omega) (hl.clos _ _ hlv r hr hf hgo) (IM hg ht hj hr hf),Option.mem_toList] at hv;have h2:=Hy hg ht (x:=x) (a:=a+r.eat.toNat) (t:=r.to_.toNat) (by omega) (by omega);have:=(h2.2 v).1 (List.mem_of_mem_head? hv)
  rwa [Bl htt.1] at this
theorem zku(h:LeaI d x L ord a j B)(hl:LivE d x n L)(hg:Goes d n)(ht:Topo d.rules n ord)(hj:j<n)(ha:a<=x.length)(hlv:L a (nth ord j)=true){r:Rule}(hr:r∈d.rules)(hf:r.from_=(nth ord j:Nat))(hgo:goB x r.guards a=true):
 B (a+r.eat.toNat) r.to_.toNat=(outW d x (a+r.eat.toNat) (r.to_.toNat:Nat)).head? /\ a+r.eat.toNat<=x.length/\r.to_.toNat<n/\¬(a+r.eat.toNat=a/\r.to_.toNat=nth ord j):=by
 obtain⟨_,htt,e1,e2⟩:=hg.r r hr;have hle:=FE hgo;have hp:=IM (at_:=a) hg ht hj hr hf;refine⟨h.past _ _ (by omega) (hl.clos _ _ hlv r hr hf hgo) hp,by omega,by omega,λe=>?_⟩;rw[e.1,e.2] at hp;exact Zw ht.nodup (by rw[C5 ht];exact hj) hp
end
theorem z9e(d:Desc)(x:List Int){n:Nat}(hk:M2 d x n){ord:List Nat}{L:Nat->Nat->Bool}(ht:Topo d.rules n ord)(hl:LivE d x n L)
 (a j:Nat) (B:Nat->Nat->Option (List Int)) (ha:a<=x.length) (hj:j<n) (hI:LeaI d x L ord a j B) (hlv:L a (nth ord j)=true) :
 BB Tryz.prog 75 [.int .i64 a,.int .i64 (nth ord j:Nat),.ptr 0 1 0 0,.ptr 5 1 0 0,.ptr 3 1 0 0,.ptr 1 1 0 0]
  (Abs.hl (leaH d (Ct d x (ruV d.rules n) (fiV d.finals n) (.lst 1 (ord.map e1)) (.lst 1 (lvB n ((x.length+1) * n) L))) n ((x.length+1) * n) B)) λz H'=>z=.tup []/\∃B':Nat->Nat->Option (List Int),
   H'=Abs.hl (leaH d (Ct d x (ruV d.rules n) (fiV d.finals n) (.lst 1 (ord.map e1)) (.lst 1 (lvB n ((x.length+1) * n) L))) n ((x.length+1) * n) B')/\LeaI d x L ord a (j+1) B':=by
 have pR:=BF d.rules;have pFi:=B9 d.finals;have pX:A6 (x.map (AV.int .i32))=true:=AE .i32 _;have pO:A6 (ord.map e1)=true:=CU (λ_=>rfl) _;have pL:A6 (lvB n ((x.length+1) * n) L)=true:=HE;have pRU:A6 (fD 1 e1 n (ruI d.rules))=true:=Er λ_=>rfl;have pFI:A6 (fD 1 e1 n (fiI d.finals))=true:=Er λ_=>rfl;have lRU:(fD 1 e1 n (ruI d.rules)).length=n:=Nl;have lFI:(fD 1 e1 n (fiI d.finals)).length=n:=Nl;have hdn:=hk.st;have hn:=hk.n1;have hx:=hk.xl;have hol:=C5 ht;have htn:nth ord j<n:=(ht.all _).1 (AL (by omega));have hgoes:=hk.goes;have hmx:(x.length+1) * n<=1025 * 1024:=B6 (by omega) hn;have hpm:=Et htn ha;unfold ruV fiV;refine Hj (KX Si (W_T ?_));unfold Ll;have hto:=λr hr hf hgo=>zku hI hl hgoes ht hj ha hlv (r:=r) hr hf hgo;have hnext:=λo ho=>z89 hI hl hgoes ht hj ha hlv (o:=o) ho;have hB0:B a (nth ord j)=none:=hI.rest _ _ (Zw ht.nodup (by omega))
 have hlen:∀c∈allW d x (λa t=>(B a t).toList) a (nth ord j),c.length<=100000000:=λc hc =>
  LQ hgoes ht ⟨λr hr=>(hk.rb r hr).2.1.1,λf hf=>(hk.fb f hf).2.1⟩ hn hx ha htn (zer hI hl hgoes ht hj ha hlv hc)
 have hwl:∀b t v,b<=x.length->t<n->v∈(outW d x b (t:Nat)).head? -> v.length<=100000000:=λb t v hb htb hv =>
  LQ hgoes ht ⟨λr hr=>(hk.rb r hr).2.1.1,λf hf=>(hk.fb f hf).2.1⟩ hn hx hb htb (((Hy hgoes ht hb htb).2 v).1 (List.mem_of_mem_head? hv))
 have aR:(fD 1 e1 n (ruI d.rules)).getD (nth ord j) .any=.lst 1 ((ruI d.rules (nth ord j)).map e1):=V5 htn;have aR2:(fD 1 e1 n (ruI d.rules))[nth ord j]? = some (.lst 1 ((ruI d.rules (nth ord j)).map e1)):=Nm htn;have aF:(fD 1 e1 n (fiI d.finals)).getD (nth ord j) .any=.lst 1 ((fiI d.finals (nth ord j)).map e1):=V5 htn;have aF2:(fD 1 e1 n (fiI d.finals))[nth ord j]? = some (.lst 1 ((fiI d.finals (nth ord j)).map e1)):=Nm htn;have pRI:A6 ((ruI d.rules (nth ord j)).map e1)=true:=CU (λ_=>rfl) _;have pFJ:A6 ((fiI d.finals (nth ord j)).map e1)=true:=CU (λ_=>rfl) _;have hrI:=Pz d.rules (nth ord j);have hfI:=Xy d.finals (nth ord j);have hrl:=hk.rl;have hfl:=hk.fl;have bB:=λ(C:Nat->Nat->Option (List Int))=>T8 (n:=n) (m:=(x.length+1) * n) (B:=C);have bH:=λ(C:Nat->Nat->Option (List Int))=>T9 (n:=n) (m:=(x.length+1) * n) (B:=C);have pB:=λ(C:Nat->Nat->Option (List Int))=>LX (n:=n) (m:=(x.length+1) * n) (B:=C);have pH:=λ(C:Nat->Nat->Option (List Int))=>LY (n:=n) (m:=(x.length+1) * n) (B:=C);have aBt:∀(C:Nat->Nat->Option (List Int)) b t,b<=x.length->t<n->(bstT n ((x.length+1) * n) C).getD (b * n+t) .any=A4 ((C b t).getD []):=λC b t hb htn=>X9 htn (Et htn hb);have aHt:∀(C:Nat->Nat->Option (List Int)) b t,b<=x.length->t<n->(hasT n ((x.length+1) * n) C).getD (b * n+t) .any=.bool (C b t).isSome:=λC b t hb htn=>XA htn (Et htn hb);have pl:∀b t,b<=x.length->t<n->b * n+t<(x.length+1) * n:=λb t hb htn=>Et htn hb;generalize hRUe:fD 1 e1 n (ruI d.rules)=RU at *;generalize hFIe:fD 1 e1 n (fiI d.finals)=FI at *;generalize hme:(x.length+1) * n=m at *;generalize hLVe:lvB n m L=LV at *;generalize hODe:ord.map e1=OD at *;have hEnds:=λ(f:FS) (hf:f∈d.finals)=>Tn d x (.lst 1 RU) (.lst 1 FI) (.lst 1 OD) (.lst 1 LV) f a pRU pFI pO pL (by omega) hk.x32 (hk.fb f hf).1.2 (hk.fb f hf).1.1 (by omega);have hWf:=λ(f:FS) (hf:f∈d.finals) (hgo:goB x f.guards a=true)=>Hi d x (.lst 1 RU) (.lst 1 FI) (.lst 1 OD) (.lst 1 LV) f.out a f.guards.length pRU pFI pO pL (by omega) hk.x32 (by have:=(hk.fb f hf).2.1;omega) (hk.fb f hf).2.2 (by have:=FE hgo;omega);have hFits:=λ(r:Rule) (hr:r∈d.rules)=>LN d x (.lst 1 RU) (.lst 1 FI) (.lst 1 OD) (.lst 1 LV) r.guards a pRU pFI pO pL (by omega) hk.x32 (hk.rb r hr).1.2 (hk.rb r hr).1.1 (by omega);have hWr:=λ(r:Rule) (hr:r∈d.rules) (hgo:goB x r.guards a=true)=>Hi d x (.lst 1 RU) (.lst 1 FI) (.lst 1 OD) (.lst 1 LV) r.out a r.guards.length pRU pFI pO pL (by omega) hk.x32 (by have:=(hk.rb r hr).2.1.1;omega) (hk.rb r hr).2.1.2 (by have:=FE hgo;omega);have pRn:(Ct d x (.lst 1 RU) (.lst 1 FI) (.lst 1 OD) (.lst 1 LV)).pure=true:=by simp[AV.pure,A6,pR,pFi,pX,pO,pL,pRU,pFI]
 have hcl:=λB=>PN (d:=d) (R:=Ct d x (.lst 1 RU) (.lst 1 FI) (.lst 1 OD) (.lst 1 LV)) pRn (n:=n) (m:=m) (B:=B);generalize nth ord j=s at *;have hTk:=λ(o:Option (List Int)) (w:List Int) (hw:w.length<=1000000000) (ho:∀v,o=some v->v.length<=1000000000)=>z2f n m a s (setP B a s o) w htn hpm (by omega) hw (by rw[z9d];exact ho);have hat:∀o:Option (List Int),setP B a s o a s=o:=λo=>z9d;have hss:∀o o2:Option (List Int),setP (setP B a s o) a s o2=setP B a s o2:=λo o2=>z9c;simp only[hat,hss] at hTk;unfold leaH;have hmul:(a:Int) * (n:Int)=((a * n:Nat):Int):=by norm_cast
 have hmulb:a * n<=1024 * 1024:=B6 (by omega) hn;rw[<-VR (L:=B) hB0];generalize hpe:a * n+s=p at *;generalize a * n=an at *;have hpi:(an:Int)+(s:Int)=(p:Int):=by omega
 have pB0:=pB (setP B a s none);have pH0:=pH (setP B a s none);(with_reducible repeat'(first|simp (disch:=omega) only[push_cast,↓zz,seval,pR,pFi,pX,pO,pL,pRU,pFI,aF,aF2,lFI,pB0,pH0,hdn,hmul,hpi]|apply Aa|refine sp_ ?_ ?_<;>intro hc<;>push_cast at hc|omega|intro _))
 refine AQ (AX (λ(q:Nat × Option (List Int))=>q.1<=(fiI d.finals s).length/\Hold (Ko (finW d x a s q.1) q.2)) (λq=>(fiI d.finals s).length-q.1)
  (λq=>[(0,.int .i64 a),(1,.int .i64 s),(2,.ptr 0 1 0 0),(3,.ptr 5 1 0 0),(4,.ptr 3 1 0 0),(5,.ptr 1 1 0 0),(9,.fn 76 [.ptr 5 1 0 0,.ptr 6 1 0 0,.ptr 3 1 0 0]),(30,.lst 1 ((fiI d.finals s).map e1)),(31,.int .i64 (fiI d.finals s).length),(32,.int .i64 q.1)])
  (λq=>[⟨6,1,true,[Cu d]⟩,⟨1,1,true,[Ct d x (.lst 1 RU) (.lst 1 FI) (.lst 1 OD) (.lst 1 LV)]⟩,⟨1,1,true,bstT n m (setP B a s q.2)⟩,⟨1,1,true,[.ref 2 1 0 m]⟩,⟨1,1,true,hasT n m (setP B a s q.2)⟩,⟨1,1,true,[.ref 4 1 0 m]⟩,⟨1,1,true,[.int .i64 p]⟩]) (λ_ _=>[.grp 6]) (0,none) ⟨Aw _,⟨z1x⟩⟩ ?_ ?_)
 ·(with_reducible repeat'(first|simp (disch:=omega) only[push_cast,↓zz,seval,pR,pFi,pX,pO,pL,pRU,pFI,pFJ,pB0,pH0]|apply Aa|refine sp_ ?_ ?_<;>intro hc<;>push_cast at hc|omega|intro _))
 rintro⟨k,o⟩ ⟨hkk,⟨hL⟩⟩;simp only at hkk hL;have pB1:=pB (setP B a s o);have pH1:=pH (setP B a s o);rcases Ah k (fiI d.finals s).length with hkl|hkl
 ·obtain⟨i,hi⟩:∃i,i=nth (fiI d.finals s) k:=⟨_,rfl⟩
  have him:i∈fiI d.finals s:=by rw[hi];exact AL hkl
  obtain⟨i1,i2⟩:=P8.1 him;have aI:((fiI d.finals s).map e1).getD k .any=.int .i64 i:=by rw[hi];simp[nth,List.getD,hkl]
  have hE:=hEnds _ (AL i1);have hW:=hWf _ (AL i1);have hfl2:=(hk.fb _ (AL i1)).2.1;have hyes:=λf hf h=>Tw (d:=d) (x:=x) (at_:=a) (s:=s) hkl (f:=f) hf h;have hno:=λf hf h=>Xz (d:=d) (x:=x) (at_:=a) (s:=s) hkl (f:=f) hf h;rw[<-hi] at hyes hno;have hyes:=hyes _ rfl;have hno:=hno _ rfl;generalize hfe:nth d.finals i=f at *;have hgr:=Bs f.guards;have hot:=BP f.out;cases hb:(decide (f.guards.length+a=x.length)&&goB x f.guards a) with
  |true =>
   rw[hb] at hE;have hyes:=hyes hb;have hgo:goB x f.guards a=true:=by simp only[Ab] at hb;exact hb.2
   have hW:=hW hgo;have pw:A6 ((CM x f.out f.guards a).map (AV.int .i32))=true:=AE .i32 _;have hwl2:(CM x f.out f.guards a).length<=1000000:=by simp[CM,C4];omega
   rw[show C4 f.out ((x.drop a).take f.guards.length)=CM x f.out f.guards a from rfl] at hW;generalize CM x f.out f.guards a=w at *;have hL2:=P9 hL w;rw[<-hyes] at hL2
   have hT:=hTk o w (by omega) (λv hv=>by
    have:=hlen v (BE _ (zeq (hL.yes v hv).1))
    omega)
   clear hTk hyes hno hnext;refine W_T ?_;(with_reducible repeat'(first|simp (disch:=omega) only[push_cast,↓zz,seval,pR,pFi,pX,pO,pL,pRU,pFI,pB1,pH1,pFJ,aI,hfe,hgr,hot,pw]|apply Aa|refine sp_ ?_ ?_<;>intro hc<;>push_cast at hc|refine ee hE ?_|refine ee hW ?_|((first|refine cc hE ?_|refine cc hW ?_);(simp(disch:=omega)only[push_cast,↓zz,seval,pR,pFi,pX,pO,pL,pRU,pFI,pB1,pH1,pFJ,aI,hfe,hgr,hot,pw]);(fail_if_success change False))|omega|intro _))
   (refine GU [2,3,4,5,6] (hT) (by decide) (by simp) (by (simp(disch:=omega)only[push_cast,↓zz,seval,pR,pFi,pX,pO,pL,pRU,pFI,pB1,pH1,pFJ,pw])) (by (simp(disch:=omega)only[push_cast,↓zz,seval,pR,pFi,pX,pO,pL,pRU,pFI,pB1,pH1,pFJ,pw])) (by (simp(disch:=omega)only[push_cast,↓zz,seval,pR,pFi,pX,pO,pL,pRU,pFI,pB1,pH1,pFJ,pw])) (by (simp(disch:=omega)only[push_cast,↓zz,seval,Ai,As,AH,BD,Cy,BH,pR,pFi,pX,pO,pL,pRU,pFI,pB1,pH1,pFJ,pw])) ?_)
   rintro z H' ⟨rfl,rfl⟩;refine⟨_,rfl,by simp,?_⟩;have pB2:=pB (setP B a s (FR o w));have pH2:=pH (setP B a s (FR o w));(with_reducible repeat'(first|simp (disch:=omega) only[push_cast,↓zz,seval,pR,pFi,pX,pO,pL,pRU,pFI,pB2,pH2,pFJ]|apply Aa|refine sp_ ?_ ?_<;>intro hc<;>push_cast at hc|omega|intro _))
   all_goals
    refine⟨(k+1,FR o w),?_⟩;(with_reducible repeat'(first|simp (disch:=omega) only[push_cast,↓zz,seval,pR,pFi,pX,pO,pL,pRU,pFI,pB2,pH2,pFJ]|apply Aa|refine sp_ ?_ ?_<;>intro hc<;>push_cast at hc|omega|intro _))
   all_goals first|exact⟨hL2⟩|trace_state
  |false =>
   rw[hb] at hE;have hno:=hno hb;rw[<-hno] at hL;clear hTk hyes hno hnext;refine W_T ?_;(with_reducible repeat'(first|simp (disch:=omega) only[push_cast,↓zz,seval,pR,pFi,pX,pO,pL,pRU,pFI,pB1,pH1,pFJ,aI,hfe,hgr,hot]|apply Aa|refine sp_ ?_ ?_<;>intro hc<;>push_cast at hc|refine ee hE ?_|(refine cc hE ?_;(simp(disch:=omega)only[push_cast,↓zz,seval,pR,pFi,pX,pO,pL,pRU,pFI,pB1,pH1,pFJ,aI,hfe,hgr,hot]);(fail_if_success change False))|omega|intro _))
   all_goals
    refine⟨(k+1,o),?_⟩;(with_reducible repeat'(first|simp (disch:=omega) only[push_cast,↓zz,seval,pR,pFi,pX,pO,pL,pRU,pFI,pB1,pH1,pFJ]|apply Aa|refine sp_ ?_ ?_<;>intro hc<;>push_cast at hc|omega|intro _))
   all_goals first|exact⟨hL⟩|trace_state
 obtain rfl:k=(fiI d.finals s).length:=by omega
 have hLp:Ko (putW d x (λa t=>(B a t).toList) a s 0) o:=by rw[putW,VH,A5];exact hL
 refine W_T ?_;(with_reducible repeat'(first|simp (disch:=omega) only[push_cast,↓zz,seval,pR,pFi,pX,pO,pL,pRU,pFI,pB1,pH1,pFJ,aR,aR2,lRU]|apply Aa|refine sp_ ?_ ?_<;>intro hc<;>push_cast at hc|omega|intro _))
 refine AQ (AX (λ(q:Nat × Option (List Int))=>q.1<=(ruI d.rules s).length/\Hold (Ko (putW d x (λa t=>(B a t).toList) a s q.1) q.2)) (λq=>(ruI d.rules s).length-q.1)
  (λq=>[(0,.int .i64 a),(2,.ptr 0 1 0 0),(3,.ptr 5 1 0 0),(4,.ptr 3 1 0 0),(5,.ptr 1 1 0 0),(9,.fn 76 [.ptr 5 1 0 0,.ptr 6 1 0 0,.ptr 3 1 0 0]),(62,.lst 1 ((ruI d.rules s).map e1)),(63,.int .i64 (ruI d.rules s).length),(64,.int .i64 q.1)])
  (λq=>[⟨6,1,true,[Cu d]⟩,⟨1,1,true,[Ct d x (.lst 1 RU) (.lst 1 FI) (.lst 1 OD) (.lst 1 LV)]⟩,⟨1,1,true,bstT n m (setP B a s q.2)⟩,⟨1,1,true,[.ref 2 1 0 m]⟩,⟨1,1,true,hasT n m (setP B a s q.2)⟩,⟨1,1,true,[.ref 4 1 0 m]⟩,⟨1,1,true,[.int .i64 p]⟩]) (λ_ _=>[.grp 6]) (0,o) ⟨Aw _,⟨hLp⟩⟩ ?_ ?_)
 ·(with_reducible repeat'(first|simp (disch:=omega) only[push_cast,↓zz,seval,pR,pFi,pX,pO,pL,pRU,pFI,pRI,pB1,pH1]|apply Aa|refine sp_ ?_ ?_<;>intro hc<;>push_cast at hc|omega|intro _))
 clear hLp hL pB1 pH1 o;rintro⟨k,o⟩ ⟨hkk,⟨hL⟩⟩;simp only at hkk hL;have pB1:=pB (setP B a s o);have pH1:=pH (setP B a s o);have lB1:=bB (setP B a s o);have lH1:=bH (setP B a s o);rcases Ah k (ruI d.rules s).length with hkl|hkl
 ·obtain⟨i,hi⟩:∃i,i=nth (ruI d.rules s) k:=⟨_,rfl⟩
  have him:i∈ruI d.rules s:=by rw[hi];exact AL hkl
  obtain⟨i1,i2⟩:=G1.1 him;have aI:((ruI d.rules s).map e1).getD k .any=.int .i64 i:=by rw[hi];simp[nth,List.getD,hkl]
  have hr:=AL i1;have hE:=hFits _ hr;have hW:=hWr _ hr;have hyes:=λr hf h=>Tx (d:=d) (x:=x) (S:=λa t=>(B a t).toList) (at_:=a) (s:=s) hkl (r:=r) hf h;have hno:=λr hf h=>X0 (d:=d) (x:=x) (S:=λa t=>(B a t).toList) (at_:=a) (s:=s) hkl (r:=r) hf h;rw[<-hi] at hyes hno;have hyes:=hyes _ rfl;have hno:=hno _ rfl;have hto:=hto _ hr i2;obtain⟨_,htt,e1',e2'⟩:=hgoes.r _ hr;have heb:=(hk.rb _ hr).2.2;have hol:=(hk.rb _ hr).2.1.1;generalize hre:nth d.rules i=r at *;have hgr:=Bs r.guards;have hot:=BP r.out;obtain⟨e,he⟩:∃e:Nat,r.eat=e:=⟨r.eat.toNat,by omega⟩;obtain⟨t,htq⟩:∃t:Nat,r.to_=t:=⟨r.to_.toNat,by omega⟩;have het:r.eat.toNat=e:=by omega
  have htt2:r.to_.toNat=t:=by omega
  rw[het,htt2] at hyes hto;have hae:(a:Int)+(e:Int)=((a+e:Nat):Int):=by norm_cast
  have hmul2:((a+e:Nat):Int) * d.states=(((a+e) * n:Nat):Int):=by rw[hdn];norm_cast
  have hmulb2:(a+e) * n<=1001024 * 1024:=B6 (by omega) hn;cases hb:goB x r.guards a with
  |false =>
   rw[hb] at hE;have hno:=hno hb;have hL2:Ko (putW d x (λa t=>(B a t).toList) a s (k+1)) o:=by rw[putW,hno];exact hL
   clear hTk hyes hno hnext hto;generalize (a+e) * n=an2 at *;generalize hbe:a+e=b at *;refine W_T ?_;(with_reducible repeat'(first|simp (disch:=omega) only[push_cast,↓zz,seval,pR,pFi,pX,pO,pL,pRU,pFI,pB1,pH1,pRI,aI,hre,hgr,hot,he,htq,hae,hmul2]|apply Aa|refine sp_ ?_ ?_<;>intro hc<;>push_cast at hc|refine ee hE ?_|(refine cc hE ?_;(simp(disch:=omega)only[push_cast,↓zz,seval,pR,pFi,pX,pO,pL,pRU,pFI,pB1,pH1,pRI,aI,hre,hgr,hot,he,htq,hae,hmul2]);(fail_if_success change False))|omega|intro _))
   all_goals
    refine⟨(k+1,o),?_⟩;(with_reducible repeat'(first|simp (disch:=omega) only[push_cast,↓zz,seval,pR,pFi,pX,pO,pL,pRU,pFI,pB1,pH1,pRI]|apply Aa|refine sp_ ?_ ?_<;>intro hc<;>push_cast at hc|omega|intro _))
   all_goals first|exact⟨hL2⟩|trace_state
  |true =>
   rw[hb] at hE;have hyes:=hyes hb;have hW:=hW hb;obtain⟨h1,h4,h5,h6⟩:=hto hb;have hle:=FE hb;have pw:A6 ((CM x r.out r.guards a).map (AV.int .i32))=true:=AE .i32 _;have hhl:(CM x r.out r.guards a).length<=64:=by simp[CM,C4];omega
   rw[show C4 r.out ((x.drop a).take r.guards.length)=CM x r.out r.guards a from rfl] at hW;have aT:=aBt (setP B a s o) (a+e) t h4 h5;have aU:=aHt (setP B a s o) (a+e) t h4 h5;rw[zeo h6] at aT aU;have hpl:=pl (a+e) t h4 h5;have hwl:=λv=>hwl (a+e) t v h4 h5;rw[<-h1] at hwl;generalize CM x r.out r.guards a=h at *;generalize B (a+e) t=o1 at *;generalize hpe2:(a+e) * n+t=p2 at *;generalize (a+e) * n=an2 at *;have hpi2:(an2:Int)+(t:Int)=(p2:Int):=by omega
   generalize hbe:a+e=b at *;cases o1 with
   |none =>
    have hL2:Ko (putW d x (λa t=>(B a t).toList) a s (k+1)) o:=by rw[putW,hyes];simpa [putW] using hL
    simp only[Option.isSome_none] at aU;clear hTk hyes hno hnext hto;refine W_T ?_;(with_reducible repeat'(first|simp (disch:=omega) only[push_cast,↓zz,seval,pR,pFi,pX,pO,pL,pRU,pFI,pB1,pH1,lB1,lH1,pRI,aI,hre,hgr,hot,he,htq,hae,hmul2,hpi2,aU]|apply Aa|refine sp_ ?_ ?_<;>intro hc<;>push_cast at hc|refine ee hE ?_|(refine cc hE ?_;(simp(disch:=omega)only[push_cast,↓zz,seval,pR,pFi,pX,pO,pL,pRU,pFI,pB1,pH1,lB1,lH1,pRI,aI,hre,hgr,hot,he,htq,hae,hmul2,hpi2,aU]);(fail_if_success change False))|omega|intro _))
    all_goals
     refine⟨(k+1,o),?_⟩;(with_reducible repeat'(first|simp (disch:=omega) only[push_cast,↓zz,seval,pR,pFi,pX,pO,pL,pRU,pFI,pB1,pH1,pRI]|apply Aa|refine sp_ ?_ ?_<;>intro hc<;>push_cast at hc|omega|intro _))
    all_goals first|exact⟨hL2⟩|trace_state
   |some v =>
    have hvl:=hwl v rfl;have hL2:=P9 hL (h++v);rw[show putW d x (λa t=>(B a t).toList) a s k++[h++v]=putW d x (λa t=>(B a t).toList) a s (k+1) by rw[putW,putW,hyes,Av];rfl] at hL2;have hC:=LS h v (by omega);have pv:A6 (v.map (AV.int .i32))=true:=AE .i32 _;have phv:A6 ((h++v).map (AV.int .i32))=true:=AE .i32 _
    have hT:=hTk o (h++v) (by rw[An];omega) (λu hu=>by
     have:=(hL.yes u hu).1;rw[putW,Am] at this
     have:=hlen u (by
      rw[allW,Am];rcases this with h|h
      ·exact .inl h
      ·exact .inr (zep h))
     omega)
    simp only[Option.isSome_some,Option.getD_some] at aU aT;clear hTk hyes hno hnext hto;generalize h++v=hv at *;refine W_T ?_;(with_reducible repeat'(first|simp (disch:=omega) only[push_cast,↓zz,seval,pR,pFi,pX,pO,pL,pRU,pFI,pB1,pH1,lB1,lH1,pRI,aI,hre,hgr,hot,pw,pv,phv,he,htq,hae,hmul2,hpi2,aU,aT]|apply Aa|refine sp_ ?_ ?_<;>intro hc<;>push_cast at hc|refine ee hE ?_|refine ee hW ?_|refine ee hC ?_|((first|refine cc hE ?_|refine cc hW ?_|refine cc hC ?_);(simp(disch:=omega)only[push_cast,↓zz,seval,pR,pFi,pX,pO,pL,pRU,pFI,pB1,pH1,lB1,lH1,pRI,aI,hre,hgr,hot,pw,pv,phv,he,htq,hae,hmul2,hpi2,aU,aT]);(fail_if_success change False))|omega|intro _))
    (refine GU [2,3,4,5,6] (hT) (by decide) (by simp) (by (simp(disch:=omega)only[push_cast,↓zz,seval,pR,pFi,pX,pO,pL,pRU,pFI,pB1,pH1,pRI,phv])) (by (simp(disch:=omega)only[push_cast,↓zz,seval,pR,pFi,pX,pO,pL,pRU,pFI,pB1,pH1,pRI,phv])) (by (simp(disch:=omega)only[push_cast,↓zz,seval,pR,pFi,pX,pO,pL,pRU,pFI,pB1,pH1,pRI,phv])) (by (simp(disch:=omega)only[push_cast,↓zz,seval,Ai,As,AH,BD,Cy,BH,pR,pFi,pX,pO,pL,pRU,pFI,pB1,pH1,pRI,phv])) ?_)
    rintro z H' ⟨rfl,rfl⟩;refine⟨_,rfl,by simp,?_⟩;have pB2:=pB (setP B a s (FR o hv));have pH2:=pH (setP B a s (FR o hv));(with_reducible repeat'(first|simp (disch:=omega) only[push_cast,↓zz,seval,pR,pFi,pX,pO,pL,pRU,pFI,pB2,pH2,pRI]|apply Aa|refine sp_ ?_ ?_<;>intro hc<;>push_cast at hc|omega|intro _))
    all_goals
     refine⟨(k+1,FR o hv),?_⟩;(with_reducible repeat'(first|simp (disch:=omega) only[push_cast,↓zz,seval,pR,pFi,pX,pO,pL,pRU,pFI,pB2,pH2,pRI]|apply Aa|refine sp_ ?_ ?_<;>intro hc<;>push_cast at hc|omega|intro _))
    all_goals first|exact⟨hL2⟩|trace_state
 obtain rfl:k=(ruI d.rules s).length:=by omega
 have hnx:=hnext o hL;clear hTk hnext;refine W_T ?_;(with_reducible repeat'(first|simp (disch:=omega) only[push_cast,↓zz,seval,pR,pFi,pX,pO,pL,pRU,pFI,pB1,pH1,pRI]|apply Aa|refine sp_ ?_ ?_<;>intro hc<;>push_cast at hc|omega|intro _));exact⟨.tup [],_,NA (l0:=leaH d (Ct d x (.lst 1 RU) (.lst 1 FI) (.lst 1 OD) (.lst 1 LV)) n m (setP B a s o)) (gar:=[⟨1,1,true,[.int .i64 p]⟩]) rfl (Af _) (hcl _) trivial,rfl,_,rfl,hnx⟩
set_option maxRecDepth 100000
abbrev fstA(o:Option (List Int))(e:Int):AV:=.tup [A4 (o.getD []),.bool o.isSome,.int .i64 e]
theorem z2g(d:Desc)(x:List Int){n:Nat}(hk:M2 d x n)(hq:PC Tryz.prog 59 [Cu d,A4 x] (.int .i64 0)):
 PC Tryz.prog 34 [Cu d,A4 x] (fstA (outW d x 0 d.start).head? 0):=by
 have pR:=BF d.rules;have pFi:=B9 d.finals;have pX:A6 (x.map (AV.int .i32))=true:=AE .i32 _;have hBe:=T4 hk;have hdn:=hk.st;unfold fstA;refine BA Oo ?_;unfold K6;(with_reducible repeat'(first|simp (disch:=omega) only[push_cast,↓zz,seval,pR,pFi,pX]|apply Aa|refine sp_ ?_ ?_<;>intro hc<;>push_cast at hc|refine ee hq ?_|(refine cc hq ?_;(simp(disch:=omega)only[push_cast,↓zz,seval,pR,pFi,pX]);(fail_if_success change False))|omega|intro _))
 (refine GU [] (hBe) (by decide) (by simp) (by (simp(disch:=omega)only[push_cast,↓zz,seval])) (by (simp(disch:=omega)only[push_cast,↓zz,seval])) (by (simp(disch:=omega)only[push_cast,↓zz,seval])) (by (simp(disch:=omega)only[push_cast,↓zz,seval,Ai,As,AH,BD,Cy,BH])) ?_)
 rintro z H' ⟨rfl,ord,L,rfl,ht,hl⟩;refine⟨_,rfl,by simp,?_⟩;have hmx:(x.length+1) * n<=1025 * 1024:=B6 (by have:=hk.xl;omega) hk.n1;have pO:A6 (ord.map e1)=true:=CU (λ_=>rfl) _;have pL:A6 (lvB n ((x.length+1) * n) L)=true:=HE;have lL:(lvB n ((x.length+1) * n) L).length=(x.length+1) * n:=IL;have pRU:A6 (fD 1 e1 n (ruI d.rules))=true:=Er λ_=>rfl;have pFI:A6 (fD 1 e1 n (fiI d.finals))=true:=Er λ_=>rfl;have pRn:(Ct d x (ruV d.rules n) (fiV d.finals n) (.lst 1 (ord.map e1)) (.lst 1 (lvB n ((x.length+1) * n) L))).pure=true:=by simp[AV.pure,A6,pR,pFi,pX,pO,pL,pRU,pFI,ruV,fiV]
 have hbk:=Ty (σ:=Nat->Nat->Option (List Int)) d x (ruV d.rules n) (fiV d.finals n) pRU pFI hdn hk.n1 hk.xl ht (L:=L) 75 [.ptr 0 1 0 0,.ptr 5 1 0 0,.ptr 3 1 0 0,.ptr 1 1 0 0] 6
  (λs=>leaH d (Ct d x (ruV d.rules n) (fiV d.finals n) (.lst 1 (ord.map e1)) (.lst 1 (lvB n ((x.length+1) * n) L))) n ((x.length+1) * n) s) (λ_=>rfl) (λ_=>PN pRn) ⟨(show 0<6 by omega),(show 5<6 by omega),(show 3<6 by omega),(show 1<6 by omega),trivial⟩
  (λa j s=>LeaI d x L ord a j s) (λ_ _=>none) z87 (λa j s ha hj hI hlv=>z9e d x hk ht hl a j s ha hj hI hlv)
  (λa j s ha hj hI hlv=>z88 hI (by rw[C5 ht];exact hj) hlv) (λa s ha hI=>zdy hI hl ht)
 generalize hm:(x.length+1) * n=m at *;(with_reducible repeat'(first|simp (disch:=omega) only[push_cast,↓zz,seval,pR,pFi,pX,lL]|apply Aa|refine sp_ ?_ ?_<;>intro hc<;>push_cast at hc|omega|intro _));refine KI (BB.mono hbk ?_) ?_
 rotate_left
 ·unfold leaH
  rw[<-z9b];refine⟨⟨rfl,rfl,id,Bc _ _⟩,⟨rfl,rfl,id,Bc _ _⟩,⟨rfl,rfl,id,z9a (n:=n)⟩,⟨rfl,rfl,id,Bc _ _⟩,⟨rfl,rfl,id,Bc _ _⟩,⟨rfl,rfl,id,Bc _ _⟩,trivial⟩
 rintro z H' ⟨rfl,B,rfl,hI⟩;have g1:=zdz hI hl ht hk.start;unfold leaH;have hst:=hk.start;obtain⟨s0,hs0⟩:∃s0:Nat,d.start=s0:=⟨d.start.toNat,by omega⟩;have hsn:s0<n:=by omega
 have hsm:0 * n+s0<m:=by rw[<-hm];exact Et hsn (Aw _)
 have hts:d.start.toNat=s0:=by omega
 rw[hts] at g1
 have aB:(bstT n m B).getD s0 .any=A4 ((B 0 s0).getD []):=by
  have:=X9 (B:=B) (z:=.any) hsn hsm
  rwa [Dp,Ba] at this
 have aH:(hasT n m B).getD s0 .any=.bool (B 0 s0).isSome:=by
  have:=XA (B:=B) (z:=.any) hsn hsm
  rwa [Dp,Ba] at this
 have lB:=T8 (n:=n) (m:=m) (B:=B);have lH:=T9 (n:=n) (m:=m) (B:=B);have pB:=LX (n:=n) (m:=m) (B:=B);have pH:=LY (n:=n) (m:=m) (B:=B);have hsm2:s0<m:=by omega
 rw[<-g1];have pv:A6 (((B 0 s0).getD []).map (AV.int .i32))=true:=AE .i32 _;generalize (B 0 s0).getD []=v at *;generalize (B 0 s0).isSome=q at *;generalize bstT n m B=T at *;generalize hasT n m B=U at *;(with_reducible repeat'(first|simp (disch:=omega) only[push_cast,↓zz,seval,hs0,aB,aH,lB,lH,pB,pH,pv]|apply Aa|refine sp_ ?_ ?_<;>intro hc<;>push_cast at hc|omega|intro _))
 all_goals trace_state
noncomputable def z9f (d:Desc) (x:List Int):AV:=if askV d x≠0 then .tup [.nilS,.bool false,.int .i64 (askV d x)] else fstA (outW d x 0 d.start).head? 0
theorem z2h(d:Desc)(x:List Int)(hf:IH d)(hl:x.length<=9223372036854775807)(h32:∀v∈x,-2147483648<=v/\v<=2147483647):
 PC Tryz.prog 34 [Cu d,A4 x] (z9f d x):=by
 have hq:=Px d x hf hl h32;have pR:=BF d.rules;have pFi:=B9 d.finals;have pX:A6 (x.map (AV.int .i32))=true:=AE .i32 _;unfold z9f;by_cases h:askV d x=0
 ·rw[Ac (by simp[h])]
  rw[h] at hq;obtain⟨n,hk⟩:=IP h;exact z2g d x hk hq
 ·rw[Ae h]
  generalize askV d x=k at *;refine BA Oo ?_;unfold K6;(with_reducible repeat'(first|simp (disch:=omega) only[push_cast,↓zz,seval,pR,pFi,pX,h]|apply Aa|refine sp_ ?_ ?_<;>intro hc<;>push_cast at hc|refine ee hq ?_|(refine cc hq ?_;(simp(disch:=omega)only[push_cast,↓zz,seval,pR,pFi,pX,h]);(fail_if_success change False))|omega|intro _))
  all_goals trace_state
theorem Qd(d:Desc)(x:List Int)(hl:x.length<=9223372036854775807)(h32:∀v∈x,-2147483648<=v/\v<=2147483647):PC Tryz.prog 8 [Cu d,A4 x] (.bool true):=by
 have hA:=KN;have hG:=KJ d x hl;have pR:=BF d.rules;have pF:=B9 d.finals;have pX:A6 (x.map (AV.int .i32))=true:=AE .i32 _;cases hgr:(!Gq d||(decide (12<x.length)&&decide (x.length<=1024))) with
 |true =>
  rw[hgr] at hG;refine BA E9 ?_;unfold DW;(with_reducible repeat'(first|simp (disch:=omega) only[push_cast,↓zz,seval,pR,pF,pX]|apply Aa|refine sp_ ?_ ?_<;>intro hc<;>push_cast at hc|refine ee hG ?_|refine ee hA ?_|((first|refine cc hG ?_|refine cc hA ?_);(simp(disch:=omega)only[push_cast,↓zz,seval,pR,pF,pX]);(fail_if_success change False))|omega|intro _))
 |false =>
 rw[hgr] at hG
 have hsm:Gq d=true:=by
  cases h:Gq d with
  |true=>rfl
  |false=>rw[h] at hgr;simp at hgr
 have hsh:=KG hsm;have hC:=T6 d x hsh hl h32;have hLe:=z2h d x hsh.fin hl h32;unfold z9f fstA at hLe;by_cases hq:askV d x=0
 ·rw[Ac (by simp[hq])] at hLe
  rw[hq] at hC;obtain⟨n,hk⟩:=IP hq;have hO:=M3 d x hk;cases hb:bfsP d x 1501 [⟨d.start,0,[]⟩] [] 0 with
  |none =>
   rw[hb] at hO;simp only[bfsA] at hO;have pv:A6 (((outW d x 0 d.start).head?.getD []).map (AV.int .i32))=true:=AE .i32 _;generalize (outW d x 0 d.start).head?.getD []=v at *;generalize (outW d x 0 d.start).head?.isSome=q at *
   have hAc:PC Tryz.prog 33 [Cu d,A4 x] (.tup [.bool q,.int .i64 0]):=by
    refine BA Ha ?_;unfold Gx;(with_reducible repeat'(first|simp (disch:=omega) only[push_cast,↓zz,seval,pR,pF,pX,pv]|apply Aa|refine sp_ ?_ ?_<;>intro hc<;>push_cast at hc|refine ee hLe ?_|(refine cc hLe ?_;(simp(disch:=omega)only[push_cast,↓zz,seval,pR,pF,pX,pv]);(fail_if_success change False))|omega|intro _))
   refine BA E9 ?_;unfold DW;(with_reducible repeat'(first|simp (disch:=omega) only[push_cast,↓zz,seval,pR,pF,pX,pv]|apply Aa|refine sp_ ?_ ?_<;>intro hc<;>push_cast at hc|refine ee hG ?_|refine ee hC ?_|refine ee hAc ?_|refine ee hLe ?_|refine ee hO ?_|refine ee hA ?_|((first|refine cc hG ?_|refine cc hC ?_|refine cc hAc ?_|refine cc hLe ?_|refine cc hO ?_|refine cc hA ?_);(simp(disch:=omega)only[push_cast,↓zz,seval,pR,pF,pX,pv]);(fail_if_success change False))|omega|intro _))
  |some O =>
   rw[hb] at hO;simp only[bfsA] at hO;obtain⟨e,hle⟩:=X8 hsm hb;rw[e] at hO hle;have hW:∀w∈outW d x 0 d.start,w.length<=1000000000:=λw hw=>by have:=PH hk hw;omega
   clear hb e;have pW:=BL (outW d x 0 d.start);generalize outW d x 0 d.start=W at *;cases W with
   |nil =>
    simp only[List.head?_nil,Option.getD_none,Option.isSome_none] at hLe
    have hAc:PC Tryz.prog 33 [Cu d,A4 x] (.tup [.bool false,.int .i64 0]):=by
     refine BA Ha ?_;unfold Gx;(with_reducible repeat'(first|simp (disch:=omega) only[push_cast,↓zz,seval,pR,pF,pX]|apply Aa|refine sp_ ?_ ?_<;>intro hc<;>push_cast at hc|refine ee hLe ?_|(refine cc hLe ?_;(simp(disch:=omega)only[push_cast,↓zz,seval,pR,pF,pX]);(fail_if_success change False))|omega|intro _))
    refine BA E9 ?_;unfold DW;(with_reducible repeat'(first|simp (disch:=omega) only[push_cast,↓zz,seval,pR,pF,pX]|apply Aa|refine sp_ ?_ ?_<;>intro hc<;>push_cast at hc|refine ee hG ?_|refine ee hC ?_|refine ee hAc ?_|refine ee hLe ?_|refine ee hO ?_|refine ee hA ?_|((first|refine cc hG ?_|refine cc hC ?_|refine cc hAc ?_|refine cc hLe ?_|refine cc hO ?_|refine cc hA ?_);(simp(disch:=omega)only[push_cast,↓zz,seval,pR,pF,pX]);(fail_if_success change False))|omega|intro _))
    all_goals first|(simp at hc;done)|trace_state
   |cons v W =>
    simp only[List.head?_cons,Option.getD_some,Option.isSome_some] at hLe;have pv:A6 (v.map (AV.int .i32))=true:=AE .i32 _;have hSa:=Iy v v (by have:=hW v (by simp);omega);rw[A7 rfl] at hSa
    have hAc:PC Tryz.prog 33 [Cu d,A4 x] (.tup [.bool true,.int .i64 0]):=by
     refine BA Ha ?_;unfold Gx;(with_reducible repeat'(first|simp (disch:=omega) only[push_cast,↓zz,seval,pR,pF,pX,pv]|apply Aa|refine sp_ ?_ ?_<;>intro hc<;>push_cast at hc|refine ee hLe ?_|(refine cc hLe ?_;(simp(disch:=omega)only[push_cast,↓zz,seval,pR,pF,pX,pv]);(fail_if_success change False))|omega|intro _))
    refine BA E9 ?_;unfold DW;(with_reducible repeat'(first|simp (disch:=omega) only[push_cast,↓zz,seval,pR,pF,pX,pv,pW]|apply Aa|refine sp_ ?_ ?_<;>intro hc<;>push_cast at hc|refine ee hG ?_|refine ee hC ?_|refine ee hAc ?_|refine ee hLe ?_|refine ee hO ?_|refine ee hSa ?_|refine ee hA ?_|((first|refine cc hG ?_|refine cc hC ?_|refine cc hAc ?_|refine cc hLe ?_|refine cc hO ?_|refine cc hSa ?_|refine cc hA ?_);(simp(disch:=omega)only[push_cast,↓zz,seval,pR,pF,pX,pv,pW]);(fail_if_success change False))|omega|intro _))
    all_goals first|(simp at hc;done)|(simp at hc;omega)|trace_state
 ·rw[Ae hq] at hLe
  generalize askV d x=k at *
  have hAc:PC Tryz.prog 33 [Cu d,A4 x] (.tup [.bool false,.int .i64 k]):=by
   refine BA Ha ?_;unfold Gx;(with_reducible repeat'(first|simp (disch:=omega) only[push_cast,↓zz,seval,pR,pF,pX]|apply Aa|refine sp_ ?_ ?_<;>intro hc<;>push_cast at hc|refine ee hLe ?_|(refine cc hLe ?_;(simp(disch:=omega)only[push_cast,↓zz,seval,pR,pF,pX]);(fail_if_success change False))|omega|intro _))
  refine BA E9 ?_;unfold DW;(with_reducible repeat'(first|simp (disch:=omega) only[push_cast,↓zz,seval,pR,pF,pX,hq]|apply Aa|refine sp_ ?_ ?_<;>intro hc<;>push_cast at hc|refine ee hG ?_|refine ee hC ?_|refine ee hAc ?_|refine ee hLe ?_|refine ee hA ?_|((first|refine cc hG ?_|refine cc hC ?_|refine cc hAc ?_|refine cc hLe ?_|refine cc hA ?_);(simp(disch:=omega)only[push_cast,↓zz,seval,pR,pF,pX,hq]);(fail_if_success change False))|omega|intro _))
  all_goals trace_state
end Go.Proofs.YtbcjoeadpjfcfaaGreat
