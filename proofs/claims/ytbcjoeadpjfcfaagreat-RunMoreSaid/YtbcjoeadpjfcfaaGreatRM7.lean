/-
  Parts of the proof that the law holds whatever the input; without conditions.
-/
import Derived.Test.YtbcjoeadpjfcfaaGreatRM6
import Derived.Test.YtbcjoeadpjfcfaaGreatRM5
import Derived.Test.YtbcjoeadpjfcfaaGreatRM4
set_option linter.unusedSimpArgs false
set_option linter.unusedVariables false
set_option linter.unusedSectionVars false
set_option maxRecDepth 100000
namespace Go.Proofs.YtbcjoeadpjfcfaaGreat
open Abs O1 O2 O3
structure Nr(d:Desc)(x:List Int)(n:Nat):Prop where
 st:d.states=n
 n1:n<=1024
 start:0<=d.start/\d.start<n
 rl:d.rules.length<=4096
 fl:d.finals.length<=4096
 xl:x.length<=1024
 x32:∀v∈x,-2147483648<=v/\v<=2147483647
 goes:Goes d n
 ff:∀f∈d.finals,0<=f.from_/\f.from_<n
 rb:∀r∈d.rules,(r.guards.length<=1000000/\∀g∈r.guards,g.length<=1000000)/\(r.out.length<=64/\∀t∈r.out,t.parts.length<=1000000)/\0<=r.eat/\r.eat<=1000000
 fb:∀f∈d.finals,(f.guards.length<=1000000/\∀g∈f.guards,g.length<=1000000)/\(f.out.length<=64/\∀t∈f.out,t.parts.length<=1000000)
 cyc:¬cycP d.rules n
def setT(n m:Nat)(S:Nat->Nat->List (List Int)):List AV:=(List.range m).map λp=>G0 (S (p / n) (p % n))
section
variable {n m a t:Nat}{S:Nat->Nat->List (List Int)}
theorem Vt:(setT n m S).length=m:=by simp[setT]
theorem MZ:A9 (setT n m S)=true:=BL.2 λx hx=>by
 obtain⟨i,_,rfl⟩:=Ar.1 hx;exact Cb _
theorem z08{z:AV}(ht:t<n)(hp:a * n+t<m):(setT n m S).getD (a * n+t) z=G0 (S a t):=by
 rw[setT,Cp hp,Hp ht,Hq ht]
theorem z6g{v:List (List Int)}(ht:t<n)(hp:a * n+t<m):(setT n m S).set (a * n+t) (G0 v)=setT n m (setP S a t v):=by
 rw[setT,Df hp,setT];refine AD λp _=>?_;simp only[setP];by_cases e:p=a * n+t
 ·subst e;rw[Af rfl,Hp ht,Hq ht,Af ⟨rfl,rfl⟩]
 ·rw[Ae e,Ae λh=>e (PM ht h)]
theorem z09{l:List Grp}:leSL l (List.replicate m .nilS) (setT n m λ_ _=>[]):=by
 have key:∀(f:Nat->Nat)(q:List Nat),leSL l (List.replicate q.length .nilS) (q.map λ_=>G0 []):=λ_ q=>by
  induction q with
  |nil=>exact rfl
  |cons a q ih=>exact⟨⟨Nat.one_pos,rfl⟩,ih⟩
 have:=key id (List.range m)
 rwa [C8] at this
end
def outH(d:Desc)(R:AV)(mo n m:Nat)(S:Nat->Nat->List (List Int))(many:Bool):List Grp:=[⟨6,1,true,[CQ d]⟩,⟨1,1,true,[.int .i64 mo]⟩,⟨1,1,true,[R]⟩,⟨1,1,true,setT n m S⟩,⟨1,1,true,[.ref 3 1 0 m]⟩,⟨1,1,true,[.bool many]⟩]
theorem Na{d:Desc}{R:AV}(hR:R.pure=true){mo n m:Nat}{S:Nat->Nat->List (List Int)}{many:Bool}:∀G∈outH d R mo n m S many,ltL 6 G.xs:=λG hG=>by
 simp only[outH,Ah,Au,AA] at hG;rcases hG with rfl|rfl|rfl|rfl|rfl|rfl
 ·exact Cm _ _ (by simp[A9,Gs])
 ·exact⟨trivial,trivial⟩
 ·exact Cm _ _ (by simp[A9,hR])
 ·exact Cm _ _ MZ
 ·exact⟨(show 3<6 by omega),trivial⟩
 ·exact⟨trivial,trivial⟩
theorem Vu{d:Desc}{x:List Int}{S:Nat->Nat->List (List Int)}{at_ s B:Nat}(hB:∀r∈d.rules,r.from_=(s:Nat)->goB x r.guards at_=true->(S (at_+r.eat.toNat) r.to_.toNat).length<=B):∀k,k<=(ruI d.rules s).length->(rulW d x S at_ s k).length<=k * B
 |0,_=>by simp[rulW]
 |k+1,hk=>by
  have ih:=Vu hB k (by omega);obtain⟨i1,i2⟩:=FY.1 (Bo (show k<(ruI d.rules s).length by omega));have e:(k+1) * B=k * B+B:=Nat.succ_mul k B;cases hg:goB x (nth d.rules (nth (ruI d.rules s) k)).guards at_ with
  |true =>
   rw[Vp (by omega) rfl hg,Al,Ba];have:=hB _ (Bo i1) i2 hg;omega
  |false =>
   rw[ZZ (by omega) rfl hg];omega
def putW(d:Desc)(x:List Int)(S:Nat->Nat->List (List Int))(at_ s k:Nat):List (List Int):=finW d x at_ s (fiI d.finals s).length++rulW d x S at_ s k
def putQ(A:List (List Int))(h:List Int)(W:List (List Int))(q:Nat):List (List Int):=A++(W.take q).map (h++·)
theorem z0a{A:List (List Int)}{h:List Int}{W:List (List Int)}:putQ A h W 0=A:=by simp[putQ]
theorem z0b{A:List (List Int)}{h:List Int}{W:List (List Int)}{q:Nat}(hq:q<W.length):putQ A h W (q+1)=putQ A h W q++[h++nth W q]:=by
 rw[putQ,putQ,take_at hq,A7,Ax];rfl
theorem z6h{A:List (List Int)}{h:List Int}{W:List (List Int)}{q:Nat}:(putQ A h W q).length<=A.length+W.length:=by
 simp[putQ];omega
theorem z6i{d:Desc}{x:List Int}{n:Nat}{ord:List Nat}{L:Nat->Nat->Bool}{mo a j:Nat}{S:Nat->Nat->List (List Int)}(hI:OutI d x L ord mo a j S false)(hl:LivE d x n L)(hg:Goes d n)(ht:Topo d.rules n ord)(hj:j<n)(ha:a<=x.length)(hlv:L a (nth ord j)=true)
 {r:Rule} (hr:r∈d.rules) (hf:r.from_=(nth ord j:Nat)) (hgo:goB x r.guards a=true):S (a+r.eat.toNat) r.to_.toNat=outW d x (a+r.eat.toNat) (r.to_.toNat:Nat)/\(S (a+r.eat.toNat) r.to_.toNat).length<=mo/\L (a+r.eat.toNat) r.to_.toNat=true/\a+r.eat.toNat<=x.length/\r.to_.toNat<n:=by
 obtain⟨_,htt,e1,e2⟩:=hg.r r hr;have hle:=G9 hgo;have hlt:=hl.clos _ _ hlv r hr hf hgo;have h1:=hI.no rfl (a+r.eat.toNat) r.to_.toNat (by omega) hlt (MR hg ht hj hr hf);exact⟨h1.1,h1.2,hlt,by omega,by omega⟩
theorem z0c(d:Desc)(x:List Int){n:Nat}(hk:Nr d x n){ord:List Nat}{L:Nat->Nat->Bool}(ht:Topo d.rules n ord)(hl:LivE d x n L)(mo:Nat)(hmo:mo<=9223372036854775807)(hB:Nat.min mo (outW d x 0 d.start).length<=200000)
 (a j:Nat) (S:Nat->Nat->List (List Int)) (many:Bool) (ha:a<=x.length) (hj:j<n) (hI:OutI d x L ord mo a j S many) (hlv:L a (nth ord j)=true) :
 B4 Tryz.prog 62 [.int .i64 a,.int .i64 (nth ord j:Nat),.ptr 5 1 0 0,.ptr 2 1 0 0,.ptr 0 1 0 0,.ptr 4 1 0 0,.ptr 1 1 0 0]
  (Abs.hl (outH d (C0 d x (ruV d.rules n) (fiV d.finals n) (.lst 1 (ord.map e1)) (.lst 1 (lvB n ((x.length+1) * n) L))) mo n ((x.length+1) * n) S many)) λy H'=>y=.tup []/\∃(s':(Nat->Nat->List (List Int)) × Bool),
   H'=Abs.hl (outH d (C0 d x (ruV d.rules n) (fiV d.finals n) (.lst 1 (ord.map e1)) (.lst 1 (lvB n ((x.length+1) * n) L))) mo n ((x.length+1) * n) s'.1 s'.2)/\OutI d x L ord mo a (j+1) s'.1 s'.2:=by
 have pR:=BJ d.rules;have pFi:=BB d.finals;have pX:A9 (x.map (AV.int .i32))=true:=Bt .i32 _;have pO:A9 (ord.map e1)=true:=Dg (λ_=>rfl) _;have pL:A9 (lvB n ((x.length+1) * n) L)=true:=IQ;have pRU:A9 (fD 1 e1 n (ruI d.rules))=true:=ED λ_=>rfl;have pFI:A9 (fD 1 e1 n (fiI d.finals))=true:=ED λ_=>rfl;have lRU:(fD 1 e1 n (ruI d.rules)).length=n:=Ou;have lFI:(fD 1 e1 n (fiI d.finals)).length=n:=Ou;have hdn:=hk.st;have hn:=hk.n1;have hx:=hk.xl;have hol:=CB ht;have htn:nth ord j<n:=(ht.all _).1 (Bo (by omega));have hgoes:=hk.goes;have hmx:(x.length+1) * n<=1025 * 1024:=BD (by omega) hn;have hpm:=Fg htn ha;unfold ruV fiV;refine Ho (K6 Mc (W_T ?_));unfold Ib;cases many with
 |true =>
  generalize fD 1 e1 n (ruI d.rules)=RU at *;generalize fD 1 e1 n (fiI d.finals)=FI at *;unfold outH;(with_reducible repeat'(first|simp (disch:=omega) only[push_cast,↓zz,seval]|apply Aa|refine sp_ ?_ ?_<;>intro hc<;>push_cast at hc|omega|intro _))
  all_goals exact⟨_,_,Ent.refl,rfl,(S,true),rfl,ZM hI _ _⟩
 |false =>
  have hto:=λr hr hf hgo=>z6i hI hl hgoes ht hj ha hlv (r:=r) hr hf hgo
  have hSB:∀r∈d.rules,r.from_=(nth ord j:Nat)->goB x r.guards a=true->(S (a+r.eat.toNat) r.to_.toNat).length<=200000:=λr hr hf hgo=>by
   obtain⟨h1,h2,h3,h4,h5⟩:=hto r hr hf hgo;have h6:=z65 hl hgoes ht hk.start h3;rw[<-h1] at h6;exact AW (Nat.le_min.2 ⟨h2,h6⟩) hB
  have hwl:∀r∈d.rules,r.from_=(nth ord j:Nat)->goB x r.guards a=true->∀w∈S (a+r.eat.toNat) r.to_.toNat,w.length<=100000000:=λr hr hf hgo w hw=>by
   obtain⟨h1,h2,h3,h4,h5⟩:=hto r hr hf hgo;rw[h1] at hw;exact PO hgoes ht ⟨λr hr=>(hk.rb r hr).2.1.1,λf hf=>(hk.fb f hf).2.1⟩ hn hx h4 h5 (((Je hgoes ht h4 h5).2 w).1 hw)
  have hMeq:=zcm hI hl hgoes ht hj ha hlv;rw[<-z00] at hMeq;have hnext:=ZO hI hl hgoes ht hj ha hlv (M:=Iw (allW d x S a (nth ord j))) hMeq;have hRL:=Vu (d:=d) (x:=x) (S:=S) (at_:=a) (s:=nth ord j) hSB;have aR:(fD 1 e1 n (ruI d.rules)).getD (nth ord j) .any=.lst 1 ((ruI d.rules (nth ord j)).map e1):=WE htn;have aR2:(fD 1 e1 n (ruI d.rules))[nth ord j]? = some (.lst 1 ((ruI d.rules (nth ord j)).map e1)):=Ov htn;have aF:(fD 1 e1 n (fiI d.finals)).getD (nth ord j) .any=.lst 1 ((fiI d.finals (nth ord j)).map e1):=WE htn;have aF2:(fD 1 e1 n (fiI d.finals))[nth ord j]? = some (.lst 1 ((fiI d.finals (nth ord j)).map e1)):=Ov htn;have pRI:A9 ((ruI d.rules (nth ord j)).map e1)=true:=Dg (λ_=>rfl) _;have pFJ:A9 ((fiI d.finals (nth ord j)).map e1)=true:=Dg (λ_=>rfl) _;have hrI:=PK d.rules (nth ord j);have hfI:=ZW d.finals (nth ord j);have hrl:=hk.rl;have hfl:=hk.fl;have pST:A9 (setT n ((x.length+1) * n) S)=true:=MZ;have lST:(setT n ((x.length+1) * n) S).length=(x.length+1) * n:=Vt;have aST:∀b t,b<=x.length->t<n->(setT n ((x.length+1) * n) S).getD (b * n+t) .any=G0 (S b t):=λb t hb htn=>z08 htn (Fg htn hb);have sST:=λv=>z6g (v:=v) (S:=S) htn hpm;have pl:∀b t,b<=x.length->t<n->b * n+t<(x.length+1) * n:=λb t hb htn=>Fg htn hb;generalize hRUe:fD 1 e1 n (ruI d.rules)=RU at *;generalize hFIe:fD 1 e1 n (fiI d.finals)=FI at *;generalize hme:(x.length+1) * n=m at *;generalize hLVe:lvB n m L=LV at *;generalize hODe:ord.map e1=OD at *;have hEnds:=λ(f:Fq) (hf:f∈d.finals)=>Vd d x (.lst 1 RU) (.lst 1 FI) (.lst 1 OD) (.lst 1 LV) f a pRU pFI pO pL (by omega) hk.x32 (hk.fb f hf).1.2 (hk.fb f hf).1.1 (by omega);have hWf:=λ(f:Fq) (hf:f∈d.finals) (hgo:goB x f.guards a=true)=>IN d x (.lst 1 RU) (.lst 1 FI) (.lst 1 OD) (.lst 1 LV) f.out a f.guards.length pRU pFI pO pL (by omega) hk.x32 (by have:=(hk.fb f hf).2.1;omega) (hk.fb f hf).2.2 (by have:=G9 hgo;omega);have hFits:=λ(r:Rule) (hr:r∈d.rules)=>Lu d x (.lst 1 RU) (.lst 1 FI) (.lst 1 OD) (.lst 1 LV) r.guards a pRU pFI pO pL (by omega) hk.x32 (hk.rb r hr).1.2 (hk.rb r hr).1.1 (by omega);have hWr:=λ(r:Rule) (hr:r∈d.rules) (hgo:goB x r.guards a=true)=>IN d x (.lst 1 RU) (.lst 1 FI) (.lst 1 OD) (.lst 1 LV) r.out a r.guards.length pRU pFI pO pL (by omega) hk.x32 (by have:=(hk.rb r hr).2.1.1;omega) (hk.rb r hr).2.1.2 (by have:=G9 hgo;omega);have pRn:(C0 d x (.lst 1 RU) (.lst 1 FI) (.lst 1 OD) (.lst 1 LV)).pure=true:=by simp[AV.pure,A9,pR,pFi,pX,pO,pL,pRU,pFI]
  have hcl:=λS many=>Na (d:=d) (R:=C0 d x (.lst 1 RU) (.lst 1 FI) (.lst 1 OD) (.lst 1 LV)) pRn (mo:=mo) (n:=n) (m:=m) (S:=S) (many:=many);generalize nth ord j=s at *;obtain⟨F,hF⟩:∃F,F=finW d x a s (fiI d.finals s).length:=⟨_,rfl⟩;have hFlen:F.length<=4096:=by rw[hF];have:=Vq (d:=d) (x:=x) (at_:=a) (s:=s) (k:=(fiI d.finals s).length);omega
  unfold outH;generalize hSTe:setT n m S=ST at *;(with_reducible repeat'(first|simp (disch:=omega) only[push_cast,↓zz,seval,pR,pFi,pX,pO,pL,pRU,pFI,aF,aF2,lFI,pST,lST]|apply Aa|refine sp_ ?_ ?_<;>intro hc<;>push_cast at hc|omega|intro _))
  refine Bv (B8 (λ(k:Nat)=>k<=(fiI d.finals s).length) (λk=>(fiI d.finals s).length-k)
   (λk=>[(0,.int .i64 a),(1,.int .i64 s),(2,.ptr 5 1 0 0),(3,.ptr 2 1 0 0),(4,.ptr 0 1 0 0),(5,.ptr 4 1 0 0),(6,.ptr 1 1 0 0),(9,.ref 6 1 0 (finW d x a s k).length),(26,.lst 1 ((fiI d.finals s).map e1)),(27,.int .i64 (fiI d.finals s).length),(28,.int .i64 k)])
   (λk=>[⟨6,1,true,[CQ d]⟩,⟨1,1,true,[.int .i64 mo]⟩,⟨1,1,true,[C0 d x (.lst 1 RU) (.lst 1 FI) (.lst 1 OD) (.lst 1 LV)]⟩,⟨1,1,true,ST⟩,⟨1,1,true,[.ref 3 1 0 m]⟩,⟨1,1,true,[.bool false]⟩,⟨1,1,false,(finW d x a s k).map AE⟩]) (λenv _=>[DD 1 (env 9)]) 0 (Ay _) ?_ ?_)
  ·(with_reducible repeat'(first|simp (disch:=omega) only[push_cast,↓zz,seval,pR,pFi,pX,pO,pL,pRU,pFI,pST,pFJ,RO,List.length_nil,Bh]|apply Aa|refine sp_ ?_ ?_<;>intro hc<;>push_cast at hc|omega|intro _))
  intro k hkk;rcases Aj k (fiI d.finals s).length with hkl|hkl
  ·obtain⟨i,hi⟩:∃i,i=nth (fiI d.finals s) k:=⟨_,rfl⟩
   have him:i∈fiI d.finals s:=by rw[hi];exact Bo hkl
   obtain⟨i1,i2⟩:=PP.1 him;have aI:((fiI d.finals s).map e1).getD k .any=.int .i64 i:=by rw[hi];simp[nth,List.getD,hkl]
   have hE:=hEnds _ (Bo i1);have hW:=hWf _ (Bo i1);have hyes:=λf hf h=>Vo (d:=d) (x:=x) (at_:=a) (s:=s) hkl (f:=f) hf h;have hno:=λf hf h=>ZY (d:=d) (x:=x) (at_:=a) (s:=s) hkl (f:=f) hf h;rw[<-hi] at hyes hno;have hyes:=hyes _ rfl;have hno:=hno _ rfl;have hlen:=Vq (d:=d) (x:=x) (at_:=a) (s:=s) (k:=k);generalize hfe:nth d.finals i=f at *;have hgr:=Bw f.guards;have hot:=BV f.out;generalize finW d x a s k=A at *;have pA:=Cb A;cases hb:(decide (f.guards.length+a=x.length)&&goB x f.guards a) with
   |true =>
    rw[hb] at hE;have hyes:=hyes hb;have hgo:goB x f.guards a=true:=by simp only[Ab] at hb;exact hb.2
    have hW:=hW hgo;have pw:A9 ((DF x f.out f.guards a).map (AV.int .i32))=true:=Bt .i32 _;rw[show EG f.out ((x.drop a).take f.guards.length)=DF x f.out f.guards a from rfl] at hW;generalize DF x f.out f.guards a=w at *;refine W_T ?_;(with_reducible repeat'(first|simp (disch:=omega) only[push_cast,↓zz,seval,pR,pFi,pX,pO,pL,pRU,pFI,pST,pFJ,aI,hfe,hgr,hot,pA,pw]|apply Aa|refine sp_ ?_ ?_<;>intro hc<;>push_cast at hc|refine ee hE ?_|refine ee hW ?_|((first|refine cc hE ?_|refine cc hW ?_);(simp(disch:=omega)only[push_cast,↓zz,seval,pR,pFi,pX,pO,pL,pRU,pFI,pST,pFJ,aI,hfe,hgr,hot,pA,pw]);(fail_if_success change False))|omega|intro _))
    all_goals
     refine⟨k+1,?_⟩;(with_reducible repeat'(first|simp (disch:=omega) only[push_cast,↓zz,seval,pR,pFi,pX,pO,pL,pRU,pFI,pST,pFJ,hyes,pA,pw]|apply Aa|refine sp_ ?_ ?_<;>intro hc<;>push_cast at hc|omega|intro _))
   |false =>
    rw[hb] at hE;have hno:=hno hb;refine W_T ?_;(with_reducible repeat'(first|simp (disch:=omega) only[push_cast,↓zz,seval,pR,pFi,pX,pO,pL,pRU,pFI,pST,pFJ,aI,hfe,hgr,hot,pA]|apply Aa|refine sp_ ?_ ?_<;>intro hc<;>push_cast at hc|refine ee hE ?_|(refine cc hE ?_;(simp(disch:=omega)only[push_cast,↓zz,seval,pR,pFi,pX,pO,pL,pRU,pFI,pST,pFJ,aI,hfe,hgr,hot,pA]);(fail_if_success change False))|omega|intro _))
    all_goals
     refine⟨k+1,?_⟩;(with_reducible repeat'(first|simp (disch:=omega) only[push_cast,↓zz,seval,pR,pFi,pX,pO,pL,pRU,pFI,pST,pFJ,hno,pA]|apply Aa|refine sp_ ?_ ?_<;>intro hc<;>push_cast at hc|omega|intro _))
  obtain rfl:k=(fiI d.finals s).length:=by omega
  rw[<-hF];have pF:=Cb F;have hP0:putW d x S a s 0=F:=by rw[putW,ZX,A3,hF]
  refine W_T ?_;(with_reducible repeat'(first|simp (disch:=omega) only[push_cast,↓zz,seval,pR,pFi,pX,pO,pL,pRU,pFI,pST,pFJ,aR,aR2,lRU,pF]|apply Aa|refine sp_ ?_ ?_<;>intro hc<;>push_cast at hc|omega|intro _))
  refine Bv (B8 (λ(k:Nat)=>k<=(ruI d.rules s).length) (λk=>(ruI d.rules s).length-k)
   (λk=>[(0,.int .i64 a),(1,.int .i64 s),(2,.ptr 5 1 0 0),(3,.ptr 2 1 0 0),(4,.ptr 0 1 0 0),(5,.ptr 4 1 0 0),(6,.ptr 1 1 0 0),(9,.ref 6 1 0 (putW d x S a s k).length),(59,.lst 1 ((ruI d.rules s).map e1)),(60,.int .i64 (ruI d.rules s).length),(61,.int .i64 k)])
   (λk=>[⟨6,1,true,[CQ d]⟩,⟨1,1,true,[.int .i64 mo]⟩,⟨1,1,true,[C0 d x (.lst 1 RU) (.lst 1 FI) (.lst 1 OD) (.lst 1 LV)]⟩,⟨1,1,true,ST⟩,⟨1,1,true,[.ref 3 1 0 m]⟩,⟨1,1,true,[.bool false]⟩,⟨1,1,false,(putW d x S a s k).map AE⟩]) (λenv _=>[DD 1 (env 9)]) 0 (Ay _) ?_ ?_)
  ·(with_reducible repeat'(first|simp (disch:=omega) only[push_cast,↓zz,seval,pR,pFi,pX,pO,pL,pRU,pFI,pST,pRI,pF,hP0]|apply Aa|refine sp_ ?_ ?_<;>intro hc<;>push_cast at hc|omega|intro _))
  intro k hkk;have hRk:=hRL k hkk
  have hlk:(putW d x S a s k).length<=900000000:=by
   rw[putW,Al,<-hF];have:k * 200000<=4096 * 200000:=AH _ (by omega);omega
  rcases Aj k (ruI d.rules s).length with hkl|hkl
  ·obtain⟨i,hi⟩:∃i,i=nth (ruI d.rules s) k:=⟨_,rfl⟩
   have him:i∈ruI d.rules s:=by rw[hi];exact Bo hkl
   obtain⟨i1,i2⟩:=FY.1 him;have aI:((ruI d.rules s).map e1).getD k .any=.int .i64 i:=by rw[hi];simp[nth,List.getD,hkl]
   have hr:=Bo i1;have hE:=hFits _ hr;have hW:=hWr _ hr;have hyes:=λr hf h=>Vp (d:=d) (x:=x) (S:=S) (at_:=a) (s:=s) hkl (r:=r) hf h;have hno:=λr hf h=>ZZ (d:=d) (x:=x) (S:=S) (at_:=a) (s:=s) hkl (r:=r) hf h;rw[<-hi] at hyes hno;have hyes:=hyes _ rfl;have hno:=hno _ rfl;have hto:=hto _ hr i2;have hSB:=hSB _ hr i2;have hwl:=hwl _ hr i2;obtain⟨_,htt,e1',e2'⟩:=hgoes.r _ hr;have heb:=(hk.rb _ hr).2.2;have hol:=(hk.rb _ hr).2.1.1;generalize hre:nth d.rules i=r at *;have hgr:=Bw r.guards;have hot:=BV r.out;obtain⟨e,he⟩:∃e:Nat,r.eat=e:=⟨r.eat.toNat,by omega⟩;obtain⟨t,htq⟩:∃t:Nat,r.to_=t:=⟨r.to_.toNat,by omega⟩;have het:r.eat.toNat=e:=by omega
   have htt2:r.to_.toNat=t:=by omega
   rw[het,htt2] at hyes hto hSB hwl;generalize hAe:putW d x S a s k=A at *;have pA:=Cb A;cases hb:goB x r.guards a with
   |false =>
    rw[hb] at hE;have hno:putW d x S a s (k+1)=A:=by rw[putW,hno hb];exact hAe
    refine W_T ?_;(with_reducible repeat'(first|simp (disch:=omega) only[push_cast,↓zz,seval,pR,pFi,pX,pO,pL,pRU,pFI,pST,pRI,aI,hre,hgr,hot,pA]|apply Aa|refine sp_ ?_ ?_<;>intro hc<;>push_cast at hc|refine ee hE ?_|(refine cc hE ?_;(simp(disch:=omega)only[push_cast,↓zz,seval,pR,pFi,pX,pO,pL,pRU,pFI,pST,pRI,aI,hre,hgr,hot,pA]);(fail_if_success change False))|omega|intro _))
    all_goals
     refine⟨k+1,?_⟩;(with_reducible repeat'(first|simp (disch:=omega) only[push_cast,↓zz,seval,pR,pFi,pX,pO,pL,pRU,pFI,pST,pRI,hno,pA]|apply Aa|refine sp_ ?_ ?_<;>intro hc<;>push_cast at hc|omega|intro _))
   |true =>
    rw[hb] at hE;have hyes:=hyes hb;have hW:=hW hb;obtain⟨h1,h2,h3,h4,h5⟩:=hto hb;have hSB:=hSB hb;have hwl:=hwl hb;have hle:=G9 hb;have pw:A9 ((DF x r.out r.guards a).map (AV.int .i32))=true:=Bt .i32 _;have hhl:(DF x r.out r.guards a).length<=64:=by simp[DF,EG];omega
    rw[show EG r.out ((x.drop a).take r.guards.length)=DF x r.out r.guards a from rfl] at hW;have hAn:putW d x S a s (k+1)=putQ A (DF x r.out r.guards a) (S (a+e) t) (S (a+e) t).length:=by rw[putW,hyes,<-Ax,putQ,AB,<-hAe];rfl
    have aT:=aST (a+e) t h4 h5;have hpl:=pl (a+e) t h4 h5;have hae:(a:Int)+(e:Int)=((a+e:Nat):Int):=by norm_cast
    have hmul:((a+e:Nat):Int) * (n:Int)=(((a+e) * n:Nat):Int):=by norm_cast
    have hmulb:(a+e) * n<=1024 * 1024:=BD (by omega) hn;generalize DF x r.out r.guards a=h at *;generalize S (a+e) t=Wd at *;generalize hpe:(a+e) * n+t=p at *;generalize (a+e) * n=an at *;have hpi:(an:Int)+(t:Int)=(p:Int):=by omega
    generalize hbe:a+e=b at *;have pWd:=Cb Wd;refine W_T ?_;(with_reducible repeat'(first|simp (disch:=omega) only[push_cast,↓zz,seval,pR,pFi,pX,pO,pL,pRU,pFI,pST,lST,pRI,aI,hre,hgr,hot,pA,pw,he,htq,hae,hdn,hmul,hpi,aT,pWd]|apply Aa|refine sp_ ?_ ?_<;>intro hc<;>push_cast at hc|refine ee hE ?_|refine ee hW ?_|((first|refine cc hE ?_|refine cc hW ?_);(simp(disch:=omega)only[push_cast,↓zz,seval,pR,pFi,pX,pO,pL,pRU,pFI,pST,lST,pRI,aI,hre,hgr,hot,pA,pw,he,htq,hae,hdn,hmul,hpi,aT,pWd]);(fail_if_success change False))|omega|intro _))
    refine Bv (B8 (λ(q:Nat)=>q<=Wd.length) (λq=>Wd.length-q)
     (λq=>[(0,.int .i64 a),(1,.int .i64 s),(2,.ptr 5 1 0 0),(3,.ptr 2 1 0 0),(4,.ptr 0 1 0 0),(5,.ptr 4 1 0 0),(6,.ptr 1 1 0 0),(9,.ref 6 1 0 (putQ A h Wd q).length),(16,AE h),(59,.lst 1 ((ruI d.rules s).map e1)),(60,.int .i64 (ruI d.rules s).length),(61,.int .i64 k),(96,G0 Wd),(97,.int .i64 Wd.length),(98,.int .i64 q)])
     (λq=>[⟨6,1,true,[CQ d]⟩,⟨1,1,true,[.int .i64 mo]⟩,⟨1,1,true,[C0 d x (.lst 1 RU) (.lst 1 FI) (.lst 1 OD) (.lst 1 LV)]⟩,⟨1,1,true,ST⟩,⟨1,1,true,[.ref 3 1 0 m]⟩,⟨1,1,true,[.bool false]⟩,⟨1,1,false,(putQ A h Wd q).map AE⟩]) (λenv _=>[DD 1 (env 9)]) 0 (Ay _) ?_ ?_)
    ·(with_reducible repeat'(first|simp (disch:=omega) only[push_cast,↓zz,seval,pR,pFi,pX,pO,pL,pRU,pFI,pST,pRI,pA,pw,pWd,z0a]|apply Aa|refine sp_ ?_ ?_<;>intro hc<;>push_cast at hc|omega|intro _))
    intro q hq;have hAq:(putQ A h Wd q).length<=901000000:=by have:=z6h (A:=A) (h:=h) (W:=Wd) (q:=q);omega
    rcases Aj q Wd.length with hql|hql
    ·have hC:=PT h (nth Wd q) (by have:=hwl _ (Bo hql);omega)
     have hnx:=z0b (A:=A) (h:=h) hql;have pv:A9 ((h++nth Wd q).map (AV.int .i32))=true:=Bt .i32 _;have pv2:A9 ((nth Wd q).map (AV.int .i32))=true:=Bt .i32 _;generalize hwe:nth Wd q=w at *;generalize hAqe:putQ A h Wd q=A2 at *;have pA2:=Cb A2;generalize hve:h++w=v at *;refine W_T ?_;(with_reducible repeat'(first|simp (disch:=omega) only[push_cast,↓zz,seval,pR,pFi,pX,pO,pL,pRU,pFI,pST,pRI,pA2,pw,pWd,hwe,pv,pv2]|apply Aa|refine sp_ ?_ ?_<;>intro hc<;>push_cast at hc|refine ee hC ?_|(refine cc hC ?_;(simp(disch:=omega)only[push_cast,↓zz,seval,pR,pFi,pX,pO,pL,pRU,pFI,pST,pRI,pA2,pw,pWd,hwe,pv,pv2]);(fail_if_success change False))|omega|intro _))
     all_goals
      refine⟨q+1,?_⟩;(with_reducible repeat'(first|simp (disch:=omega) only[push_cast,↓zz,seval,pR,pFi,pX,pO,pL,pRU,pFI,pST,pRI,pA2,pw,pWd,hnx,pv]|apply Aa|refine sp_ ?_ ?_<;>intro hc<;>push_cast at hc|omega|intro _))
    ·obtain rfl:q=Wd.length:=by omega
     rw[<-hAn] at *;have pA3:=Cb (putW d x S a s (k+1));refine W_T ?_;(with_reducible repeat'(first|simp (disch:=omega) only[push_cast,↓zz,seval,pR,pFi,pX,pO,pL,pRU,pFI,pST,pRI,pA3,pw,pWd]|apply Aa|refine sp_ ?_ ?_<;>intro hc<;>push_cast at hc|omega|intro _))
     all_goals
      refine⟨k+1,?_⟩;(with_reducible repeat'(first|simp (disch:=omega) only[push_cast,↓zz,seval,pR,pFi,pX,pO,pL,pRU,pFI,pST,pRI,pA3]|apply Aa|refine sp_ ?_ ?_<;>intro hc<;>push_cast at hc|omega|intro _))
  ·obtain rfl:k=(ruI d.rules s).length:=by omega
   have hall:putW d x S a s (ruI d.rules s).length=allW d x S a s:=rfl;have hlk:(allW d x S a s).length<=900000000:=hlk;rw[hall]
   have hSo:=z07 (allW d x S a s) (by omega) (λw hw=>by
    have h1:w∈outW d x a (s:Nat):=by rw[<-hMeq,Ix];exact hw
    have h2:w.length<=100000000:=PO hgoes ht ⟨λr hr=>(hk.rb r hr).2.1.1,λf hf=>(hk.fb f hf).2.1⟩ hn hx ha htn (((Je hgoes ht ha htn).2 w).1 h1)
    exact AW h2 (by decide))
   have hML:=R6 (allW d x S a s);have pA:=Cb (allW d x S a s);generalize allW d x S a s=A at *;generalize Iw A=M at *;have pM:=Cb M;have hmul:(a:Int) * (n:Int)=((a * n:Nat):Int):=by norm_cast
   have hmulb:a * n<=1024 * 1024:=BD (by omega) hn;have sM:=sST M;generalize hpe:a * n+s=p at *;generalize a * n=an at *;have hpi:(an:Int)+(s:Int)=(p:Int):=by omega
   have hdec:decide ((mo:Int)<(M.length:Int))=decide (mo<M.length):=Cv.2 (by omega);refine W_T ?_;(with_reducible repeat'(first|simp (disch:=omega) only[push_cast,↓zz,seval,pR,pFi,pX,pO,pL,pRU,pFI,pST,lST,pA,pM,hdn,hmul,hpi,sM]|apply Aa|refine sp_ ?_ ?_<;>intro hc<;>push_cast at hc|refine ee hSo ?_|(refine cc hSo ?_;(simp(disch:=omega)only[push_cast,↓zz,seval,pR,pFi,pX,pO,pL,pRU,pFI,pST,lST,pA,pM,hdn,hmul,hpi,sM]);(fail_if_success change False))|omega|intro _));rw[hdec];exact⟨_,_,PI (l0:=outH d (C0 d x (.lst 1 RU) (.lst 1 FI) (.lst 1 OD) (.lst 1 LV)) mo n m (setP S a s M) (decide (mo<M.length))) (gar:=[⟨0,2,false,[]⟩]) rfl (Ac _) (hcl _ _) trivial,rfl,(setP S a s M,decide (mo<M.length)),rfl,hnext⟩
theorem Nb{P:Program}{f:Nat}{xs:List AV}{l l':List Grp}{K:AV->As->Prop}(h:B4 P f xs (Abs.hl l') K)(hle:GW l l l'):B4 P f xs (Abs.hl l) K:=⟨h.1,λS cargs hS hx=>h.2 S cargs (GX hS hle) hx⟩
noncomputable def outA (d:Desc) (x:List Int) (mo:Nat):AV:=if (outW d x 0 d.start).length<=mo then .tup [G0 (outW d x 0 d.start),.int .i64 0] else .tup [.nilS,.int .i64 5]
theorem Vv{d:Desc}{x:List Int}{n:Nat}(hk:Nr d x n):B4 Tryz.prog 60 [CQ d,AE x] (Abs.hl []) λy H'=>H'=Abs.hl []/\∃ord L,y=C0 d x (ruV d.rules n) (fiV d.finals n) (.lst 1 (ord.map e1)) (.lst 1 (lvB n ((x.length+1) * n) L))/\Topo d.rules n ord/\LivE d x n L :=
 ZS d x hk.st hk.n1 hk.rl hk.fl hk.start hk.goes hk.cyc hk.ff hk.xl hk.x32 λr hr=>⟨(hk.rb r hr).1,(hk.rb r hr).2.2⟩
theorem Tw(d:Desc)(x:List Int){n:Nat}(hk:Nr d x n)(hq:PC Tryz.prog 59 [CQ d,AE x] (.int .i64 0))(mo:Nat)(h1:1<=mo)(hmo:mo<=9223372036854775807)(hB:Nat.min mo (outW d x 0 d.start).length<=200000):
 PC Tryz.prog 26 [CQ d,AE x,.int .i64 mo] (outA d x mo):=by
 have pR:=BJ d.rules;have pFi:=BB d.finals;have pX:A9 (x.map (AV.int .i32))=true:=Bt .i32 _;have hBe:=Vv hk;have hdn:=hk.st;refine Ct H0 ?_;unfold Gm;(with_reducible repeat'(first|simp (disch:=omega) only[push_cast,↓zz,seval,pR,pFi,pX]|apply Aa|refine sp_ ?_ ?_<;>intro hc<;>push_cast at hc|refine ee hq ?_|(refine cc hq ?_;(simp(disch:=omega)only[push_cast,↓zz,seval,pR,pFi,pX]);(fail_if_success change False))|omega|intro _))
 (refine Ju [] (hBe) (by decide) (by simp) (by (simp(disch:=omega)only[push_cast,↓zz,seval])) (by (simp(disch:=omega)only[push_cast,↓zz,seval])) (by (simp(disch:=omega)only[push_cast,↓zz,seval])) (by (simp(disch:=omega)only[push_cast,↓zz,seval,Ah,Au,AA,BW,De,Cq])) ?_)
 rintro y H' ⟨rfl,ord,L,rfl,ht,hl⟩;refine⟨_,rfl,by simp,?_⟩;have hmx:(x.length+1) * n<=1025 * 1024:=BD (by have:=hk.xl;omega) hk.n1;have pO:A9 (ord.map e1)=true:=Dg (λ_=>rfl) _;have pL:A9 (lvB n ((x.length+1) * n) L)=true:=IQ;have lL:(lvB n ((x.length+1) * n) L).length=(x.length+1) * n:=I0;have pRU:A9 (fD 1 e1 n (ruI d.rules))=true:=ED λ_=>rfl;have pFI:A9 (fD 1 e1 n (fiI d.finals))=true:=ED λ_=>rfl;have pRn:(C0 d x (ruV d.rules n) (fiV d.finals n) (.lst 1 (ord.map e1)) (.lst 1 (lvB n ((x.length+1) * n) L))).pure=true:=by simp[AV.pure,A9,pR,pFi,pX,pO,pL,pRU,pFI,ruV,fiV]
 have hbk:=Vr (σ:=(Nat->Nat->List (List Int)) × Bool) d x (ruV d.rules n) (fiV d.finals n) pRU pFI hdn hk.n1 hk.xl ht (L:=L) 62 [.ptr 5 1 0 0,.ptr 2 1 0 0,.ptr 0 1 0 0,.ptr 4 1 0 0,.ptr 1 1 0 0] 6
  (λs=>outH d (C0 d x (ruV d.rules n) (fiV d.finals n) (.lst 1 (ord.map e1)) (.lst 1 (lvB n ((x.length+1) * n) L))) mo n ((x.length+1) * n) s.1 s.2) (λ_=>rfl) (λ_=>Na pRn) ⟨(show 5<6 by omega),(show 2<6 by omega),(show 0<6 by omega),(show 4<6 by omega),(show 1<6 by omega),trivial⟩
  (λa j s=>OutI d x L ord mo a j s.1 s.2) ((λ_ _=>[]),false) (ZL (CB ht)) (λa j s ha hj hI hlv=>z0c d x hk ht hl mo hmo hB a j s.1 s.2 ha hj hI hlv)
  (λa j s ha hj hI hlv=>ZN hI (by rw[CB ht];exact hj) hlv) (λa s ha hI=>z63 hI hl ht)
 generalize hm:(x.length+1) * n=m at *;(with_reducible repeat'(first|simp (disch:=omega) only[push_cast,↓zz,seval,pR,pFi,pX,lL]|apply Aa|refine sp_ ?_ ?_<;>intro hc<;>push_cast at hc|omega|intro _));refine Nb (B4.mono hbk ?_) ?_
 rotate_left
 ·unfold outH
  refine⟨⟨rfl,rfl,id,B0 _ _⟩,⟨rfl,rfl,id,B0 _ _⟩,⟨rfl,rfl,id,B0 _ _⟩,⟨rfl,rfl,id,z09 (n:=n)⟩,⟨rfl,rfl,id,B0 _ _⟩,⟨rfl,rfl,id,B0 _ _⟩,trivial⟩
 rintro y H' ⟨rfl,⟨S,many⟩,rfl,hI⟩;simp only at hI ⊢;obtain⟨g1,g2⟩:=z64 hI hl hk.goes ht hk.start;unfold outH;have hst:=hk.start;obtain⟨s0,hs0⟩:∃s0:Nat,d.start=s0:=⟨d.start.toNat,by omega⟩;have hsn:s0<n:=by omega
 have hsm:0 * n+s0<m:=by rw[<-hm];exact Fg hsn (Ay _)
 have aS:(setT n m S).getD s0 .any=G0 (S 0 s0):=by
  have:=z08 (S:=S) (z:=.any) hsn hsm
  rwa [DY,AO] at this
 have lS:(setT n m S).length=m:=Vt;have pS:A9 (setT n m S)=true:=MZ;have hsm2:s0<m:=by omega
 unfold outA;cases many with
 |true =>
  rw[Ae (by have:=of_decide_eq_true g1.symm;omega)];(with_reducible repeat'(first|simp (disch:=omega) only[push_cast,↓zz,seval]|apply Aa|refine sp_ ?_ ?_<;>intro hc<;>push_cast at hc|omega|intro _))
 |false =>
  have g2:=g2 rfl;rw[Af (by have:=of_decide_eq_false g1.symm;omega),<-g2,show d.start.toNat=s0 by omega];have pW:=Cb (S 0 s0);(with_reducible repeat'(first|simp (disch:=omega) only[push_cast,↓zz,seval,hs0,aS,lS,pS,pW]|apply Aa|refine sp_ ?_ ?_<;>intro hc<;>push_cast at hc|omega|intro _))
  all_goals trace_state
set_option maxRecDepth 100000
theorem PU(a b:List Int)(hl:a.length<=1000000000000):PC Tryz.prog 116 [AE a,AE b] (.bool (decide (a=b))):=by
 refine Ct Hg ?_;unfold F7;(with_reducible repeat'(first|simp (disch:=omega) only[push_cast,↓zz,seval]|apply Aa|refine sp_ ?_ ?_<;>intro hc<;>push_cast at hc|omega|intro _))
 ·have:a≠b:=by intro h;subst h;first|omega|simp_all
  simp[this]
 refine Bv (B8 (λ(k:Nat)=>k<=a.length/\decide (a=b)=decide (a.drop k=b.drop k)) (λk=>a.length-k)
  (λk=>[(0,AE a),(1,AE b),(12,.int .i64 a.length),(13,.int .i64 k)]) (λs=>[]) (λenv _=>[]) 0 (by simp) ?_ ?_)
 ·(with_reducible repeat'(first|simp (disch:=omega) only[push_cast,↓zz,seval]|apply Aa|refine sp_ ?_ ?_<;>intro hc<;>push_cast at hc|omega|intro _))
 rintro k ⟨hk,hr⟩;refine W_T ?_;(with_reducible repeat'(first|simp (disch:=omega) only[push_cast,↓zz,seval]|apply Aa|refine sp_ ?_ ?_<;>intro hc<;>push_cast at hc|omega|intro _))
 all_goals first
  |(rw[hr,Aw (by omega),Aw (by omega)];simp;done)
  |(rw[hr,R3 (by omega) (by omega)];simp_all;done)
  |(refine⟨k+1,?_⟩
    (with_reducible repeat'(first|simp (disch:=omega) only[push_cast,↓zz,seval]|apply Aa|refine sp_ ?_ ?_<;>intro hc<;>push_cast at hc|omega|intro _))
    rw[hr,R3 (by omega) (by omega)];simp_all;done)
  |trace_state
def mayL(n:Nat)(f:Nat->Bool):List AV:=(List.range (n+1)).map λk=>AV.bool (f k)
def GA(n:Nat)(o:Option (Nat->Bool)):AV:=match o with
 |none=>.nilS
 |some f=>.lst 1 (mayL n f)
def I3(o:Option (Nat->Bool)):Nat->Bool:=match o with
 |none=>λk=>decide (k=0)
 |some f=>f
section
variable {n k:Nat}{f:Nat->Bool}
theorem CC:(mayL n f).length=n+1:=by simp[mayL]
theorem EH:A9 (mayL n f)=true:=BL.2 λx hx=>by
 obtain⟨i,_,rfl⟩:=Ar.1 hx;rfl
theorem z0d{z:AV}(hk:k<=n):(mayL n f).getD k z=.bool (f k):=by rw[mayL,Cp (by omega)]
theorem z6j{v:Bool}(hk:k<=n):(mayL n f).set k (.bool v)=mayL n λm=>if m=k then v else f m:=by
 rw[mayL,Df (by omega),mayL];refine AD λp _=>?_;by_cases e:p=k
 ·rw[Af e,Af e]
 ·rw[Ae e,Ae e]
theorem z0e:List.replicate (n+1) (AV.bool false)=mayL n λ_=>false:=by
 refine BH (by simp[mayL]) λi h1 h2=>?_;simp[mayL]
theorem Hu{g:Nat->Bool}(h:∀m,m<=n->f m=g m):mayL n f=mayL n g:=by
 refine AD λp hp=>?_;rw[h p (by have:=AS.1 hp;omega)]
end
theorem WY{n:Nat}{o:Option (Nat->Bool)}:(GA n o).pure=true:=by
 cases o with
 |none=>rfl
 |some f=>simp only[GA,AV.pure];exact EH
theorem Du{n b d:Nat}{H:As}{ks:List Nat}{o:Option (Nat->Bool)}:rnV b H ks (d+1) (GA n o)=GA n o:=by
 cases o<;>rfl
def IW(y w:List Int)(may th:Nat->Bool)(k m:Nat):Bool:=may m||(decide (m<k)&&GM y w th m)
theorem WZ{y w:List Int}{may th:Nat->Bool}:IW y w may th 0=may:=by funext m;simp[IW]
theorem z0f{n k:Nat}{y w:List Int}{may th:Nat->Bool}(hk:k<=n)(h:GM y w th k=true):(mayL n λm=>if m=k then true else IW y w may th k m)=mayL n (IW y w may th (k+1)):=Hu λm _=>by
 by_cases e:m=k
 ·subst e;rw[Af rfl,IW,h];simp
 ·rw[Ae e,IW,IW,show decide (m<k+1)=decide (m<k) from Cv.2 (by omega)]
theorem z6k{n k:Nat}{y w:List Int}{may th:Nat->Bool}(h:GM y w th k=false):mayL n (IW y w may th k)=mayL n (IW y w may th (k+1)):=Hu λm _=>by
 by_cases e:m=k
 ·subst e;simp[IW,h]
 ·rw[IW,IW,show decide (m<k+1)=decide (m<k) from Cv.2 (by omega)]
theorem run_mark(y w:List Int)(may:Nat->Bool)(o:Option (Nat->Bool))(hy:y.length<=1000000000)(hw:w.length<=1000000):
 B4 Tryz.prog 81 [.ref 0 1 0 (y.length+1),AE y,AE w,GA y.length o] (Abs.hl [⟨1,1,true,mayL y.length may⟩]) λa H'=>a=.tup []/\H'=Abs.hl [⟨1,1,true,mayL y.length λm=>may m||GM y w (I3 o) m⟩]:=by
 have pY:A9 (y.map (AV.int .i32))=true:=Bt .i32 _;have pW:A9 (w.map (AV.int .i32))=true:=Bt .i32 _;have pM:=λf=>EH (n:=y.length) (f:=f);refine GF (b:=1) Wg rfl ?_;unfold NO;(with_reducible repeat'(first|simp (disch:=omega) only[push_cast,↓zz,seval,pY,pW,pM,Du,C2,CC]|apply Aa|refine sp_ ?_ ?_<;>intro hc<;>push_cast at hc|omega|intro _))
 refine Bv (B8 (λ(k:Nat)=>k<=y.length+1) (λk=>y.length+1-k)
  (λk=>[(0,.ref 0 1 0 (y.length+1)),(1,AE y),(2,AE w),(3,GA y.length o),(11,.int .i64 ((y.length:Int)+1)),(12,.int .i64 k)]) (λk=>[⟨1,1,true,mayL y.length (IW y w may (I3 o) k)⟩]) (λ_ _=>[]) 0 (Ay _) ?_ ?_)
 ·(with_reducible repeat'(first|simp (disch:=omega) only[push_cast,↓zz,seval,pY,pW,pM,CC,WZ,Du,C2]|apply Aa|refine sp_ ?_ ?_<;>intro hc<;>push_cast at hc|omega|intro _))
 intro k hk;rcases Aj k (y.length+1) with hky|hky
 ·have hyes:=z0f (n:=y.length) (y:=y) (w:=w) (may:=may) (th:=I3 o) (k:=k) (by omega)
  have hno:=z6k (n:=y.length) (y:=y) (w:=w) (may:=may) (th:=I3 o) (k:=k);have hset:=z6j (n:=y.length) (k:=k) (v:=true) (f:=IW y w may (I3 o) k) (by omega);rcases Aj k w.length with hkw|hkw
  ·have hno:=hno (by simp[GM];intro h;omega)
   refine W_T ?_;(with_reducible repeat'(first|simp (disch:=omega) only[push_cast,↓zz,seval,pY,pW,pM,Du,C2,CC]|apply Aa|refine sp_ ?_ ?_<;>intro hc<;>push_cast at hc|omega|intro _))
   all_goals
    refine⟨k+1,?_⟩;(with_reducible repeat'(first|simp (disch:=omega) only[push_cast,↓zz,seval,pY,pW,pM,Du,C2,CC,hno]|apply Aa|refine sp_ ?_ ?_<;>intro hc<;>push_cast at hc|omega|intro _))
  ·have hE:=PU ((y.drop (y.length-k)).take w.length) w (by simp;omega)
   have hmw:List.drop (y.length-k) (List.take (y.length-k+w.length) (y.map (AV.int .i32)))=((y.drop (y.length-k)).take w.length).map (AV.int .i32):=by rw[List.map_take,List.map_drop,List.drop_take];simp
   have hdt:List.drop (y.length-k) (List.take (y.length-k+w.length) y)=(y.drop (y.length-k)).take w.length:=by rw[List.drop_take];simp
   have h1:((y.length:Int)-k).toNat=y.length-k:=by omega
   have h2:((y.length:Int)-k+w.length).toNat=y.length-k+w.length:=by omega
   have pS:A9 (((y.drop (y.length-k)).take w.length).map (AV.int .i32))=true:=Bt .i32 _;have hah:GM y w (I3 o) k=(decide ((y.drop (y.length-k)).take w.length=w)&&I3 o (k-w.length)):=by rw[GM,AQ hkw];rfl
   generalize hq:decide ((y.drop (y.length-k)).take w.length=w)=q at *;generalize ((y.drop (y.length-k)).take w.length)=z at *;cases q with
   |false =>
    have hno:=hno (by rw[hah];rfl);refine W_T ?_;(with_reducible repeat'(first|simp (disch:=omega) only[push_cast,↓zz,seval,pY,pW,pM,Du,C2,CC,hmw,hdt,h1,h2,pS]|apply Aa|refine sp_ ?_ ?_<;>intro hc<;>push_cast at hc|refine ee hE ?_|(refine cc hE ?_;(simp(disch:=omega)only[push_cast,↓zz,seval,pY,pW,pM,Du,C2,CC,hmw,hdt,h1,h2,pS]);(fail_if_success change False))|omega|intro _))
    all_goals
     refine⟨k+1,?_⟩;(with_reducible repeat'(first|simp (disch:=omega) only[push_cast,↓zz,seval,pY,pW,pM,Du,C2,CC,hno]|apply Aa|refine sp_ ?_ ?_<;>intro hc<;>push_cast at hc|omega|intro _))
   |true =>
    rw[AN] at hah;cases o with
    |none =>
     simp only[GA,I3] at *;by_cases h0:k-w.length=0
     ·rw[hah] at hyes
      have hyes:=hyes (AQ h0);refine W_T ?_;(with_reducible repeat'(first|simp (disch:=omega) only[push_cast,↓zz,seval,pY,pW,pM,Du,C2,CC,hmw,hdt,h1,h2,pS]|apply Aa|refine sp_ ?_ ?_<;>intro hc<;>push_cast at hc|refine ee hE ?_|(refine cc hE ?_;(simp(disch:=omega)only[push_cast,↓zz,seval,pY,pW,pM,Du,C2,CC,hmw,hdt,h1,h2,pS]);(fail_if_success change False))|omega|intro _))
      all_goals first|omega|skip
      all_goals
       refine⟨k+1,?_⟩;(with_reducible repeat'(first|simp (disch:=omega) only[push_cast,↓zz,seval,pY,pW,pM,Du,C2,CC,hset,hyes]|apply Aa|refine sp_ ?_ ?_<;>intro hc<;>push_cast at hc|omega|intro _))
     ·have hno:=hno (by rw[hah];exact Bu h0)
      refine W_T ?_;(with_reducible repeat'(first|simp (disch:=omega) only[push_cast,↓zz,seval,pY,pW,pM,Du,C2,CC,hmw,hdt,h1,h2,pS]|apply Aa|refine sp_ ?_ ?_<;>intro hc<;>push_cast at hc|refine ee hE ?_|(refine cc hE ?_;(simp(disch:=omega)only[push_cast,↓zz,seval,pY,pW,pM,Du,C2,CC,hmw,hdt,h1,h2,pS]);(fail_if_success change False))|omega|intro _))
      all_goals first|omega|skip
      all_goals
       refine⟨k+1,?_⟩;(with_reducible repeat'(first|simp (disch:=omega) only[push_cast,↓zz,seval,pY,pW,pM,Du,C2,CC,hno]|apply Aa|refine sp_ ?_ ?_<;>intro hc<;>push_cast at hc|omega|intro _))
    |some f =>
     simp only[GA,I3] at *;have pF:=EH (n:=y.length) (f:=f);have lF:=CC (n:=y.length) (f:=f);have aF:=z0d (n:=y.length) (f:=f) (z:=.any) (k:=k-w.length) (by omega);have h3:((k:Int)-w.length).toNat=k-w.length:=by omega
     have hne:mayL y.length f≠[]:=by intro h;rw[h] at lF;simp at lF
     generalize mayL y.length f=F at *;cases hf:f (k-w.length) with
     |true =>
      rw[hf] at aF hah;have hyes:=hyes hah;refine W_T ?_;(with_reducible repeat'(first|simp (disch:=omega) only[push_cast,↓zz,seval,pY,pW,pM,Du,C2,CC,hmw,hdt,h1,h2,h3,pS,pF,lF,aF,hne]|apply Aa|refine sp_ ?_ ?_<;>intro hc<;>push_cast at hc|refine ee hE ?_|(refine cc hE ?_;(simp(disch:=omega)only[push_cast,↓zz,seval,pY,pW,pM,Du,C2,CC,hmw,hdt,h1,h2,h3,pS,pF,lF,aF,hne]);(fail_if_success change False))|omega|intro _))
      all_goals
       refine⟨k+1,?_⟩;(with_reducible repeat'(first|simp (disch:=omega) only[push_cast,↓zz,seval,pY,pW,pM,Du,C2,CC,hset,hyes,pF]|apply Aa|refine sp_ ?_ ?_<;>intro hc<;>push_cast at hc|omega|intro _))
     |false =>
      rw[hf] at aF hah;have hno:=hno hah;refine W_T ?_;(with_reducible repeat'(first|simp (disch:=omega) only[push_cast,↓zz,seval,pY,pW,pM,Du,C2,CC,hmw,hdt,h1,h2,h3,pS,pF,lF,aF,hne]|apply Aa|refine sp_ ?_ ?_<;>intro hc<;>push_cast at hc|refine ee hE ?_|(refine cc hE ?_;(simp(disch:=omega)only[push_cast,↓zz,seval,pY,pW,pM,Du,C2,CC,hmw,hdt,h1,h2,h3,pS,pF,lF,aF,hne]);(fail_if_success change False))|omega|intro _))
      all_goals
       refine⟨k+1,?_⟩;(with_reducible repeat'(first|simp (disch:=omega) only[push_cast,↓zz,seval,pY,pW,pM,Du,C2,CC,hno,pF]|apply Aa|refine sp_ ?_ ?_<;>intro hc<;>push_cast at hc|omega|intro _))
 ·obtain rfl:k=y.length+1:=by omega
  have hfin:mayL y.length (IW y w may (I3 o) (y.length+1))=mayL y.length λm=>may m||GM y w (I3 o) m:=Hu λm hm=>by rw[IW,AQ (by omega),AN]
  rw[hfin];refine W_T ?_;(with_reducible repeat'(first|simp (disch:=omega) only[push_cast,↓zz,seval,pY,pW,pM,Du,C2,CC]|apply Aa|refine sp_ ?_ ?_<;>intro hc<;>push_cast at hc|omega|intro _))
  all_goals trace_state
set_option maxRecDepth 100000
def lefT(ny n m:Nat)(M:Nat->Nat->Option (Nat->Bool)):List AV:=(List.range m).map λp=>GA ny (M (p / n) (p % n))
section
variable {ny n m a t:Nat}{M:Nat->Nat->Option (Nat->Bool)}
theorem Vw:(lefT ny n m M).length=m:=by simp[lefT]
theorem Nc:A9 (lefT ny n m M)=true:=BL.2 λx hx=>by
 obtain⟨i,_,rfl⟩:=Ar.1 hx;exact WY
theorem z0g{z:AV}(ht:t<n)(hp:a * n+t<m):(lefT ny n m M).getD (a * n+t) z=GA ny (M a t):=by
 rw[lefT,Cp hp,Hp ht,Hq ht]
theorem z6l{v:Option (Nat->Bool)}(ht:t<n)(hp:a * n+t<m):(lefT ny n m M).set (a * n+t) (GA ny v)=lefT ny n m (setP M a t v):=by
 rw[lefT,Df hp,lefT];refine AD λp _=>?_;simp only[setP];by_cases e:p=a * n+t
 ·subst e;rw[Af rfl,Hp ht,Hq ht,Af ⟨rfl,rfl⟩]
 ·rw[Ae e,Ae λh=>e (PM ht h)]
theorem z0h:List.replicate m AV.nilS=lefT ny n m λ_ _=>none:=by
 refine BH (by simp[lefT]) λi h1 h2=>?_;simp[lefT,GA]
end
def relH(d:Desc)(R:AV)(y:List Int)(n m:Nat)(M:Nat->Nat->Option (Nat->Bool)):List Grp:=[⟨6,1,true,[CQ d]⟩,⟨1,1,true,[AE y]⟩,⟨1,1,true,[R]⟩,⟨1,1,true,lefT y.length n m M⟩,⟨1,1,true,[.ref 3 1 0 m]⟩]
theorem Nf{d:Desc}{R:AV}(hR:R.pure=true){y:List Int}{n m:Nat}{M:Nat->Nat->Option (Nat->Bool)}:∀G∈relH d R y n m M,ltL 5 G.xs:=λG hG=>by
 simp only[relH,Ah,Au,AA] at hG;rcases hG with rfl|rfl|rfl|rfl|rfl
 ·exact Cm _ _ (by simp[A9,Gs])
 ·exact Cm _ _ (by simp[A9,AV.pure,Bt])
 ·exact Cm _ _ (by simp[A9,hR])
 ·exact Cm _ _ Nc
 ·exact⟨(show 3<5 by omega),trivial⟩
theorem Xa{k b:Nat}{env:Env}{A B C E:Grp}{T:List AV}{p ny:Nat}{f:Nat->Bool}(hp:p<T.length):
 Ent k b env (Abs.hl [A,B,C,⟨1,1,true,T.set p (.ref 5 1 0 (ny+1))⟩,E,⟨1,1,true,mayL ny f⟩]) env (Abs.hl [A,B,C,⟨1,1,true,T.set p (GA ny (some f))⟩,E,⟨0,2,false,[]⟩]):=by
 refine Iy (g:=3) (w:=1) (v:=1) (d:=1) (ex:=true) (xs:=T.set p (.ref 5 1 0 (ny+1))) (ys:=T.set p (GA ny (some f))) [5] (by decide) (by simp) rfl (by decide) ?_ ?_
 ·have h:=FrzM.set (d:=1) (H:=Abs.hl [A,B,C,⟨1,1,true,T.set p (.ref 5 1 0 (ny+1))⟩,E,⟨1,1,true,mayL ny f⟩]) (ks:=[5]) (y:=GA ny (some f)) (xs:=T.set p (.ref 5 1 0 (ny+1))) (i:=p) (by simpa using hp) ?_
  ·rw[List.set_set] at h;exact h
  ·rw[show (T.set p (AV.ref 5 1 0 (ny+1))).getD p .any=.ref 5 1 0 (ny+1) by simp[List.getD,hp]]
   refine .inl (.inr ?_);have hat:((Abs.hl [A,B,C,⟨1,1,true,T.set p (.ref 5 1 0 (ny+1))⟩,E,⟨1,1,true,mayL ny f⟩]).only [5]).at_ 5=⟨1,1,true,mayL ny f⟩:=rfl;have hpz:=FC ((Abs.hl [A,B,C,⟨1,1,true,T.set p (.ref 5 1 0 (ny+1))⟩,E,⟨1,1,true,mayL ny f⟩]).only [5]) 0 (EH (n:=ny) (f:=f));have htk:List.take (ny+1) (mayL ny f)=mayL ny f:=An (by rw[CC];exact Ac _);constructor
   ·simp only[CM]
    rw[hat];simp only[B2,htk];exact⟨trivial,by decide,by rw[CC];omega,hpz.1⟩
   ·simp only[frzV]
    rw[hat];simp only[B2,htk];simp[GA,frzV]
 ·rfl
section
variable {d:Desc}{x y:List Int}{n:Nat}{ord:List Nat}{L:Nat->Nat->Bool}{at_ j s k:Nat}
def offM(M:Nat->Nat->Option (Nat->Bool))(a t:Nat):Nat->Bool:=(M a t).getD λ_=>false
structure LefO(d:Desc)(x y:List Int)(L:Nat->Nat->Bool)(ord:List Nat)(at_ j:Nat)(M:Nat->Nat->Option (Nat->Bool)):Prop where
 on:∀a t,a<=x.length->L a t=true->Past ord at_ j a t->M a t=some (offM M a t)
 lef:LefI d x y L ord at_ j (offM M)
variable {M:Nat->Nat->Option (Nat->Bool)}
theorem z0i:LefO d x y L ord x.length 0 M:=by
 refine⟨λa t ha _ hp=>?_,z01⟩;rcases hp with h|⟨_,h⟩
 ·omega
 ·simp at h
theorem z0j(h:LefO d x y L ord at_ j M)(hj:j<ord.length)(ho:L at_ (nth ord j)=false):LefO d x y L ord at_ (j+1) M:=by
 refine⟨λa t ha hl hp=>?_,z02 h.lef hj ho⟩;rcases Hr hj hp with h1|⟨rfl,rfl⟩
 ·exact h.on a t ha hl h1
 ·rw[ho] at hl;cases hl
theorem z6m(h:LefO d x y L ord (at_+1) n M)(hl:LivE d x n L)(ht:Topo d.rules n ord):LefO d x y L ord at_ 0 M :=
 ⟨λa t ha hlt hp=>h.on a t ha hlt (PN (CB ht) ((ht.all t).2 (hl.lead a t hlt).1) hp),z6c h.lef hl ht⟩
theorem z0k(h:LefO d x y L ord at_ j M)(hl:LivE d x n L)(hg:Goes d n)(ht:Topo d.rules n ord)(hj:j<n)(ha:at_<=x.length)(hlv:L at_ (nth ord j)=true):
 LefO d x y L ord at_ (j+1) (setP M at_ (nth ord j) (some (mayR d x y (offM M) at_ (nth ord j) (ruI d.rules (nth ord j)).length))):=by
 have e:offM (setP M at_ (nth ord j) (some (mayR d x y (offM M) at_ (nth ord j) (ruI d.rules (nth ord j)).length)))=setP (offM M) at_ (nth ord j) (mayR d x y (offM M) at_ (nth ord j) (ruI d.rules (nth ord j)).length):=by
  funext a t;simp only[offM,setP];split<;>rfl
 refine⟨λa t hal hlt hp=>?_,by rw[e];exact z03 h.lef hl hg ht hj ha hlv⟩;rw[e];simp only[setP];by_cases e2:a=at_/\t=nth ord j
 ·rw[Af e2,Af e2]
 ·rw[Ae e2,Ae e2]
  rcases Hr (by rw[CB ht];exact hj) hp with h1|h1
  ·exact h.on a t hal hlt h1
  ·exact absurd h1 e2
theorem zcp(h:LefO d x y L ord at_ j M)(hl:LivE d x n L)(hg:Goes d n)(ht:Topo d.rules n ord)(hj:j<n)(ha:at_<=x.length)(hlv:L at_ (nth ord j)=true){r:Rule}(hr:r∈d.rules)(hf:r.from_=(nth ord j:Nat))(hgo:goB x r.guards at_=true):
 M (at_+r.eat.toNat) r.to_.toNat=some (offM M (at_+r.eat.toNat) r.to_.toNat)/\at_+r.eat.toNat<=x.length/\r.to_.toNat<n:=by
 obtain⟨_,htt,e1,e2⟩:=hg.r r hr;have hle:=G9 hgo;exact⟨h.on _ _ (by omega) (hl.clos _ _ hlv r hr hf hgo) (MR hg ht hj hr hf),by omega,by omega⟩
theorem z0l{w:List Int}{m:Nat}(hm:m<=y.length):GM y w (I3 none) m=decide (y.drop (y.length-m)=w):=by
 have:=MY (y:=y) (w:=w) (th:=I3 none) (m:=m) hm (T:=λv=>v=[]) λk hk=>by
  simp only[I3,Ag,List.drop_eq_nil_iff];omega
 rw[CS,this,Ag];constructor
 ·rintro⟨v,rfl,h⟩;rw[h,A3]
 ·intro h;exact⟨[],rfl,by rw[h,A3]⟩
theorem z0m:mayL y.length (mayF d x y at_ s 0)=mayL y.length λ_=>false:=Hu λm _=>by simp[mayF,RO]
theorem z6n{w:List Int}(h:finW d x at_ s (k+1)=finW d x at_ s k++[w]):(mayL y.length λm=>mayF d x y at_ s k m||GM y w (I3 none) m)=mayL y.length (mayF d x y at_ s (k+1)):=Hu λm hm=>by
 rw[z0l hm,mayF,mayF,h,List.any_append];simp
theorem zcq(h:finW d x at_ s (k+1)=finW d x at_ s k):mayF d x y at_ s (k+1)=mayF d x y at_ s k:=by
 funext m;rw[mayF,mayF,h]
theorem z0n{N:Nat->Nat->Nat->Bool}:mayR d x y N at_ s 0=mayF d x y at_ s (fiI d.finals s).length:=by
 funext m;simp[mayR]
theorem z6o{N:Nat->Nat->Nat->Bool}(hk:k<(ruI d.rules s).length){r:Rule}(hf:nth d.rules (nth (ruI d.rules s) k)=r)(h:goB x r.guards at_=true):
 (λm=>mayR d x y N at_ s k m||GM y (DF x r.out r.guards at_) (I3 (some (N (at_+r.eat.toNat) r.to_.toNat))) m)=mayR d x y N at_ s (k+1):=by
 funext m;rw[mayR,mayR,take_at hk,List.any_append,<-Bool.or_assoc];simp[hf,h,I3]
theorem zcr{N:Nat->Nat->Nat->Bool}(hk:k<(ruI d.rules s).length){r:Rule}(hf:nth d.rules (nth (ruI d.rules s) k)=r)(h:goB x r.guards at_=false):mayR d x y N at_ s (k+1)=mayR d x y N at_ s k:=by
 funext m;rw[mayR,mayR,take_at hk,List.any_append];simp[hf,h]
theorem z6p(h:LefO d x y L ord 0 n M)(hl:LivE d x n L)(ht:Topo d.rules n ord)(hs:0<=d.start/\d.start<n):∃f,M 0 d.start.toNat=some f/\f y.length=decide (y∈outW d x 0 d.start):=by
 refine⟨_,h.on 0 d.start.toNat (Ay _) hl.start (.inr ⟨rfl,by rw[An (by rw[CB ht];omega)];exact (ht.all _).2 (by omega)⟩),z6d h.lef hl ht hs⟩
end
def zgm(l:List Bool)(k:Nat):List Int:=((List.range k).filter λi=>nth l i).map λi:Nat=>(i:Int)
noncomputable def zgn (d:Desc):List Int:=zgm (comeL d) d.states.toNat
noncomputable def goesI (d:Desc):List Int:=zgm (goL d) d.states.toNat
noncomputable def z6q (d:Desc) (i:Nat):Bool:=US (fwdE d) [d.start] i&&US (bwdE d) (endE d) i
def cntB(u:Nat->Bool)(k:Nat):Nat:=((List.range k).filter u).length
def numB(u:Nat->Bool)(i:Nat):Int:=if u i=true then (cntB u i:Int) else -1
def keepR(u:Nat->Bool)(l:List Rule):List Rule:=(l.filter λr=>u r.from_.toNat&&u r.to_.toNat).map λr=>⟨numB u r.from_.toNat,numB u r.to_.toNat,r.guards,r.eat,r.out⟩
def keepF(u:Nat->Bool)(l:List Fq):List Fq:=(l.filter λf=>u f.from_.toNat).map λf=>⟨numB u f.from_.toNat,f.guards,f.out⟩
noncomputable def trimV (d:Desc):Desc :=
 if US (bwdE d) (endE d) d.start.toNat=false then zge d.in_ d.out
 else ⟨d.in_,d.out,cntB (z6q d) d.states.toNat,numB (z6q d) d.start.toNat,keepR (z6q d) d.rules,keepF (z6q d) d.finals⟩
theorem Kd(u:Nat->Bool)(k:Nat):cntB u (k+1)=if u k=true then cntB u k+1 else cntB u k:=by
 simp only[cntB,Fz,Cy,Al,BR,List.filter_nil];split<;>simp_all
theorem RR{s x:Int}(h:memL (domL s) x):G8 s [[⟨x,x⟩]]=true:=by
 have hb:=(z5p s).2 x h
 have hm:Io [⟨x,x⟩] (domL s)=[]:=(ML (λv hv=>by obtain⟨t,ht,h1,h2⟩:=hv;simp only[Aq] at ht;subst ht;simp only at h1 h2;omega) (λt ht=>by simp only[Aq] at ht;subst ht;simp)).2 λv hv=>by
  obtain⟨t,ht,h1,h2⟩:=hv;simp only[Aq] at ht;subst ht;simp only at h1 h2;have:v=x:=by omega
  rw[this];exact h
 have hc:MC (-1073741826) [⟨x,x⟩]=true:=by simp[MC];omega
 simp[G8,Oh,hm,UO,hc]
section
variable {d:Desc}
end
structure Trimmed(c:Desc):Prop where
 check:Fa c=0
 again:trimV c=c
 all:((zgn c).length=c.states.toNat/\(goesI c).length=c.states.toNat)\/(c.states=1/\c.rules=[]/\c.finals=[])
theorem z0o{d:Desc}(h:Fa d=0):Iq d:=by
 obtain⟨h1,h2,h3⟩:=Hn h;refine⟨λr hr t ht=>?_,λf hf t ht=>?_⟩
 ·have:=h2 r hr
  simp only[IU,Ab] at this;have:=(GK this.2.2.2.2).2 t ht;omega
 ·have:=h3 f hf
  simp only[GI,Ab] at this;have:=(GK this.2.2).2 t ht;omega
set_option maxRecDepth 100000
set_option maxRecDepth 100000
set_option maxRecDepth 100000
section
variable {α β:Type}[Inhabited α]
variable {W:Nat->List α}{g:Nat->α->List β}
end
structure WayOk(n:Nat)(w:Int × List Term):Prop where
 e:0<=w.1/\w.1<n
 l:w.2.length<=70000
 p:∀t∈w.2,t.parts.length<=4
set_option maxRecDepth 100000
abbrev pathV(p:List Nat):AV:=.lst 1 (p.map e1)
def resV:Option (List Nat)->AV
 |some x=>pathV x
 |none=>.nilS
set_option maxRecDepth 100000
theorem RS{u v:Nat->Bool}:∀{n:Nat},(∀i,i<n->u i=v i)->cntB u n=cntB v n
 |0,_=>rfl
 |n+1,h=>by rw[Kd,Kd,h n (by omega),RS λi hi=>h i (by omega)]
theorem Vx{on:Nat->Bool}{s:Nat}(ho:on s=false):∀{n:Nat},s<n->cntB (setB on s) n=cntB on n+1
 |n+1,h=>by
  rw[Kd,Kd];by_cases hs:s=n
  ·subst hs
   rw[Af (by simp[setB]),Ae (by simp[ho]),RS (u:=setB on s) (v:=on) λi hi=>by simp[setB];omega]
  ·have:=Vx ho (n:=n) (by omega)
   have e:setB on s n=on n:=by simp[setB];omega
   rw[e];split<;>omega
structure RInv(n:Nat)(F:List Int)(E:List (Int × Int))(on:Nat->Bool):Prop where
 sound:∀i:Nat,on i=true->Reach E F i
 base:∀s∈F,on s.toNat=true
theorem RInv.set{n:Nat}{F:List Int}{E:List (Int × Int)}{on:Nat->Bool}(h:RInv n F E on){x y:Nat}(hx:on x=true)(he:((x:Int),(y:Int))∈E):RInv n F E (setB on y) where
 sound i hi:=by
  unfold setB at hi;split at hi
  ·rename_i e;subst e;exact .step (h.sound x hx) he
  ·exact h.sound i hi
 base s hs:=by
  unfold setB;split
  ·rfl
  ·exact h.base s hs
structure RIn(n:Nat)(F:List Int)(E:List (Int × Int))(on0 on:Nat->Bool)(more:Bool)(i:Nat):Prop where
 inv:RInv n F E on
 no:more=false->on=on0/\∀j,j<i->on (nth E j).1.toNat=true->on (nth E j).2.toNat=true
 yes:more=true->cntB on0 n<cntB on n
theorem RIn.start{n:Nat}{F:List Int}{E:List (Int × Int)}{on:Nat->Bool}(h:RInv n F E on):RIn n F E on on false 0 :=
 ⟨h,λ_=>⟨rfl,λj hj=>absurd hj (AL j)⟩,λh=>by cases h⟩
theorem RIn.skip{n i:Nat}{F:List Int}{E:List (Int × Int)}{on0 on:Nat->Bool}{more:Bool}(h:RIn n F E on0 on more i){x y:Nat}(he:nth E i=((x:Int),(y:Int)))(hs:on x=true->on y=true):RIn n F E on0 on more (i+1):=by
 refine⟨h.inv,λhm=>⟨(h.no hm).1,λj hj=>?_⟩,h.yes⟩;by_cases e:j=i
 ·subst e;rw[he];simpa using hs
 ·exact (h.no hm).2 j (by omega)
theorem RIn.take{n i:Nat}{F:List Int}{E:List (Int × Int)}{on0 on:Nat->Bool}{more:Bool}(h:RIn n F E on0 on more i){x y:Nat}(he:((x:Int),(y:Int))∈E)(hx:on x=true)(hy:on y=false)(hyn:y<n):RIn n F E on0 (setB on y) true (i+1):=by
 refine⟨h.inv.set hx he,λhm=>(by cases hm),λ_=>?_⟩;have h1:=Vx hy hyn;cases more with
 |true=>have:=h.yes rfl;omega
 |false=>have:=(h.no rfl).1;subst this;omega
theorem RIn.done{n:Nat}{F:List Int}{E:List (Int × Int)}{on0 on:Nat->Bool}(h:RIn n F E on0 on false E.length):∀e∈E,on e.1.toNat=true->on e.2.toNat=true:=λe he=>by
 obtain⟨j,hj,rfl⟩:=AZ he;have:=(h.no rfl).2 j hj;have e:nth E j=E[j]:=by simp[nth,List.getD,hj]
 rwa [e] at this
set_option maxRecDepth 100000
theorem zgo{d:Desc}(h:Fa d=0):¬cycP d.rules d.states.toNat:=λhc=>by
 obtain⟨h1,h2,h3⟩:=Hn h
 have h0:(GJ d).1=0:=by
  unfold Fa at h;split at h
  ·assumption
  ·omega
 rw[GJ,Ae (by simp[h1]),Kb h2] at h0;simp only at h0;rw[Kb h3] at h0;simp only at h0;rw[Af hc] at h0;simp at h0
theorem wf_n{d:Desc}(h:Fa d=0):∃n:Nat,d.states=n/\1<=n/\n<=1024/\¬cycP d.rules n/\∀r∈d.rules,(0<=r.from_/\r.from_<n)/\0<=r.to_/\r.to_<n:=by
 have hw:=zca h;obtain⟨n,hn,h1,h2⟩:=hw.n;refine⟨n,hn,h1,h2,?_,λr hr=>by have:=hw.r r hr;rw[hn] at this;exact this⟩;have:=zgo h
 rwa [hn,Int.toNat_natCast] at this
def conT(x:Int):Term:=⟨0,0,21,0,x,[]⟩
theorem Ng{x:Int}(hx:0<=x/\x<=1114111){w:List Int}(hw:w.all symB=true):Fw (conT x) w=some x:=by
 have ho:(conT x).outer=⟨0,0,21,0⟩:=rfl;obtain⟨_,h1,h2⟩:=YG (p:=⟨0,0,21,0⟩) (x:=x) (by decide) (by omega);have h3:valB ⟨0,0,21,0⟩ x=true:=h1;rw[Fw,Af hw];simp only[conT,sumP];show (if valB (conT x).outer x&&decide (x<=1114111) then some (IntKind.i64.wrap (0+valP (conT x).outer x)) else none)=some x;rw[ho,h1,h2,AQ hx.2,Int.zero_add,IntWalk.i64_in _ (by omega)];rfl
theorem z6r{gs:List (List Span)}:∀{w:List Int},Win (gs.map symI) w->w.all symB=true:=by
 induction gs with
 |nil=>intro w hw;rw[zc9.1 hw];rfl
 |cons g gs ih =>
  intro w hw;obtain⟨x,r,rfl,h1,h2⟩:=win_cons.1 hw;have hm:=((M6 g).2 x).1 h1;rw[List.all_cons,ih h2,Ev,symB];exact AQ hm.1
theorem Vy{x:Int}{i o:Int}{gs:List (List Span)}(h4:gs.length<=4)(hr:Jb (conT x) i o gs.length=true)(hx:0<=x/\x<=1114111)(ho:Hm o x=true):P4 (conT x) i o gs=true:=by
 refine (Z6 h4).2 ⟨hr,λw hw=>?_⟩;rw[fitW,Ng hx (z6r hw)];simp[hx,ho]
theorem z0p(x:Int):AV.le (.lst 6 [.agg [.int .i64 0,.int .i64 0,.int .i64 21,.int .i64 0,.int .i64 x,.nilS]]) (Gj [conT x]) :=
 AV.le_lst rfl (BV _) (Bg (AV.le_agg (Bg (AV.le_refl _) (Bg (AV.le_refl _) (Bg (AV.le_refl _) (Bg (AV.le_refl _) (Bg (AV.le_refl _) (Bg (AV.le_nilS (by decide)) Fp))))))) Fp)
set_option maxRecDepth 100000
theorem Lx{d:Desc}{x:List Int}:askV d x=0↔Fa d=0/\x.length<=1024/\x.all (Hm d.in_)=true:=by
 unfold askV;by_cases h:Fa d=0
 ·rw[Ae (by simp[h])]
  by_cases h2:1024<x.length
  ·rw[Af h2];constructor
   ·intro h;cases h
   ·intro h;omega
  ·rw[Ae h2]
   cases h3:x.all (Hm d.in_) with
   |true=>simp[h];omega
   |false=>simp
 ·rw[Af h];constructor
  ·intro h;cases h
  ·intro h';exact absurd h'.1 h
theorem z6s{s v:Int}(h:Hm s v=true):0<=v/\v<1114112:=by
 simp only[Hm,Ag] at h;omega
theorem zcs{d:Desc}(h:Fa d=0){n:Nat}(hn:d.states=n):Goes d n:=by
 obtain⟨h1,h2,h3⟩:=Hn h;have hw:=zca h;refine⟨λr hr=>?_⟩;have h4:=h2 r hr;have h5:=hw.r r hr;rw[hn] at h5;simp only[IU,eatB,Ab,Cn,BM] at h4;obtain⟨_,_,_,⟨h6,h7⟩,_⟩:=h4;refine⟨h5.1,h5.2,by omega,λhe=>?_⟩;simp only[Dl,BM] at he;omega
theorem IR{d:Desc}{x:List Int}(h:askV d x=0):∃n,Nr d x n:=by
 obtain⟨h1,h2,h3⟩:=Lx.1 h;obtain⟨n,hn,hn1,hn2,hc,hl⟩:=wf_n h1;have hw:=zca h1;have hst:=hw.start;have hff:=hw.f;rw[hn] at hst hff;obtain⟨_,k2,k3⟩:=Hn h1;refine⟨n,hn,hn2,hst,hw.rl,hw.fl,h2,λv hv=>?_,zcs h1 hn,hff,λr hr=>?_,λf hf=>?_,hc⟩
 ·have:=z6s (AU.1 h3 v hv);omega
 ·have h4:=k2 r hr
  simp only[IU,eatB,Ab,Cn,BM] at h4;obtain⟨_,_,h5,⟨h6,h7⟩,h8⟩:=h4;obtain⟨g1,g2⟩:=GH h5;obtain⟨w1,w2⟩:=GK h8;exact⟨⟨by omega,λg hg=>by have:=g2 g hg;omega⟩,⟨w1,λt ht=>by have:=w2 t ht;omega⟩,by omega,by omega⟩
 ·have h4:=k3 f hf
  simp only[GI,Ab] at h4;obtain⟨_,h5,h8⟩:=h4;obtain⟨g1,g2⟩:=GH h5;obtain⟨w1,w2⟩:=GK h8;exact⟨⟨by omega,λg hg=>by have:=g2 g hg;omega⟩,w1,λt ht=>by have:=w2 t ht;omega⟩
noncomputable def runA (d:Desc) (x:List Int) (mo:Int):AV:=if askV d x≠0 then .tup [.nilS,.int .i64 (askV d x)] else if mo<1 then .tup [.nilS,.int .i64 1] else outA d x mo.toNat
theorem I4(d:Desc)(x:List Int)(hf:Iq d)(hl:x.length<=9223372036854775807)(h32:∀v∈x,-2147483648<=v/\v<=2147483647)(mo:Int)(hmo:mo<=9223372036854775807)(hB:askV d x=0->Nat.min mo.toNat (outW d x 0 d.start).length<=200000):
 PC Tryz.prog 26 [CQ d,AE x,.int .i64 mo] (runA d x mo):=by
 have hq:=R4 d x hf hl h32;have pR:=BJ d.rules;have pFi:=BB d.finals;have pX:A9 (x.map (AV.int .i32))=true:=Bt .i32 _;unfold runA;by_cases h:askV d x=0
 ·rw[Ae (by simp[h])]
  rw[h] at hq;by_cases h1:mo<1
  ·rw[Af h1]
   refine Ct H0 ?_;unfold Gm;(with_reducible repeat'(first|simp (disch:=omega) only[push_cast,↓zz,seval,pR,pFi,pX]|apply Aa|refine sp_ ?_ ?_<;>intro hc<;>push_cast at hc|refine ee hq ?_|(refine cc hq ?_;(simp(disch:=omega)only[push_cast,↓zz,seval,pR,pFi,pX]);(fail_if_success change False))|omega|intro _))
  ·rw[Ae h1]
   obtain⟨n,hk⟩:=IR h;obtain⟨m,rfl⟩:∃m:Nat,mo=m:=⟨mo.toNat,by omega⟩;rw[Int.toNat_natCast] at hB ⊢;exact Tw d x hk hq m (by omega) (by omega) (hB h)
 ·rw[Af h]
  generalize askV d x=k at *;refine Ct H0 ?_;unfold Gm;(with_reducible repeat'(first|simp (disch:=omega) only[push_cast,↓zz,seval,pR,pFi,pX,h]|apply Aa|refine sp_ ?_ ?_<;>intro hc<;>push_cast at hc|refine ee hq ?_|(refine cc hq ?_;(simp(disch:=omega)only[push_cast,↓zz,seval,pR,pFi,pX,h]);(fail_if_success change False))|omega|intro _))
  all_goals trace_state
theorem z0q{l:List Rule}{n:Nat}(hl:∀r∈l,(0<=r.from_/\r.from_<n)/\0<=r.to_/\r.to_<n)(hc:¬cycP l n){ord:List Nat}{s:Nat}(hs:s<n)(hso:s∉ord):∃t,t<n/\t∉ord/\∀r∈l,Dl r=true->r.from_=(t:Nat)->r.to_.toNat∈ord:=by
 refine AJ λhno=>?_
 have hx:∀t,t<n->t∉ord->∃i,i<l.length/\Dl (nth l i)=true/\(nth l i).from_=(t:Nat)/\(nth l i).to_.toNat∉ord:=λt h1 h2=>by
  refine AJ λh3=>hno ⟨t,h1,h2,λr hr he hf=>?_⟩;refine AJ λh4=>h3 ?_;obtain⟨i,hi,rfl⟩:=AZ hr;exact⟨i,hi,by rw[FR hi];exact he,by rw[FR hi];exact hf,by rw[FR hi];exact h4⟩
 have key:∀k:Nat,∃(q:List Nat) (t:Nat),okP l (s:Nat) q/\endP l (s:Nat) q=(t:Nat)/\t<n/\t∉ord/\k<=q.length:=λk=>by
  induction k with
  |zero=>exact⟨[],s,trivial,rfl,hs,hso,Ac _⟩
  |succ k ih =>
   obtain⟨q,t,q1,q2,q3,q4,q5⟩:=ih;obtain⟨i,i1,i2,i3,i4⟩:=hx t q3 q4;have hr:=hl _ (Bo i1);refine⟨q++[i],(nth l i).to_.toNat,?_,?_,by omega,i4,by simp;omega⟩
   ·rw[PF,q2];exact⟨q1,PE.2 ⟨i1,i2,i3⟩,trivial⟩
   ·rw[Lv,q2]
    show (nth l i).to_=_;omega
 obtain⟨q,t,q1,_,_,_,q5⟩:=key (n+2);have:=ZA hl hc (by omega) q1;omega
theorem zct{l:List Rule}{n:Nat}(hl:∀r∈l,(0<=r.from_/\r.from_<n)/\0<=r.to_/\r.to_<n)(hc:¬cycP l n):∃ord,Topo l n ord:=by
 have hole:∀ord:List Nat,ord.Nodup->(∀a∈ord,a<n)->∀s,s<n->s∉ord->ord.length<n:=λord h1 h2 s hs hso=>by
  have:=HE (l:=s::ord) (m:=List.range n) (B6.2 ⟨hso,h1⟩) λa ha=>by
   rcases Ah.1 ha with rfl|ha
   ·exact AS.2 hs
   ·exact AS.2 (h2 a ha)
  simp at this;omega
 have key:∀k,k<=n->∃ord:List Nat,ord.length=k/\Tn l ord/\ord.Nodup/\∀a∈ord,a<n:=λk=>by
  induction k with
  |zero=>exact λ_=>⟨[],rfl,λi hi=>absurd hi (AL _),CG,λa h=>by cases h⟩
  |succ k ih =>
   intro hk;obtain⟨ord,o1,o2,o3,o4⟩:=ih (by omega)
   obtain⟨s,hs,hso⟩:∃s,s<n/\s∉ord:=by
    refine AJ λhno=>?_
    have:=HE (l:=List.range n) (m:=ord) D7 λa ha=>by
     refine AJ λh=>hno ⟨a,AS.1 ha,h⟩
    simp at this;omega
   obtain⟨t,t1,t2,t3⟩:=z0q hl hc hs hso;refine⟨ord++[t],by simp[o1],RE o2 λr hr he hf=>⟨r.to_.toNat,?_,t3 r hr he hf⟩,?_,λa ha=>?_⟩
   ·have:=hl r hr;omega
   ·refine C9.2 ⟨o3,B6.2 ⟨by simp,CG⟩,λa ha b hb=>?_⟩
    rw[Aq.1 hb];rintro rfl;exact t2 ha
   ·rcases Ap.1 ha with h|h
    ·exact o4 a h
    ·rw[Aq.1 h];exact t1
 obtain⟨ord,o1,o2,o3,o4⟩:=key n (Ac _);refine⟨ord,o3,λs=>⟨o4 s,λhs=>?_⟩,o2⟩;refine AJ λh=>?_;have:=hole ord o3 o4 s hs h;omega
theorem O7{d:Desc}{x:List Int}{n:Nat}(hk:Nr d x n):∃ord,Topo d.rules n ord:=zct (λr hr=>⟨(hk.goes.r r hr).1,(hk.goes.r r hr).2.1⟩) hk.cyc
theorem Ke{d:Desc}{x:List Int}{n:Nat}(hk:Nr d x n){a:Nat}{s:Int}(ha:a<=x.length)(hs:0<=s/\s<n):IV d x a s (outW d x a s):=by
 obtain⟨ord,ht⟩:=O7 hk;have:=Je hk.goes ht ha (t:=s.toNat) (by omega)
 rwa [Bn hs.1] at this
theorem z0r{d:Desc}{x:List Int}{n:Nat}(hk:Nr d x n){w:List Int}(hw:w∈outW d x 0 d.start):w.length<=100000000:=by
 obtain⟨ord,ht⟩:=O7 hk;have h1:=((Ke hk (Ay _) hk.start).2 w).1 hw;have h2:=hk.start;have e:((d.start.toNat:Nat):Int)=d.start:=Bn h2.1;rw[<-e] at h1;exact PO hk.goes ht ⟨λr hr=>(hk.rb r hr).2.1.1,λf hf=>(hk.fb f hf).2.1⟩ hk.n1 hk.xl (Ay _) (by omega) h1
set_option maxRecDepth 100000
theorem z0s(d:Desc)(x y:List Int){n:Nat}(hk:Nr d x n){ord:List Nat}{L:Nat->Nat->Bool}(ht:Topo d.rules n ord)(hl:LivE d x n L)(hy:y.length<=1000000000)
 (a j:Nat) (M:Nat->Nat->Option (Nat->Bool)) (ha:a<=x.length) (hj:j<n) (hI:LefO d x y L ord a j M) (hlv:L a (nth ord j)=true) :
 B4 Tryz.prog 80 [.int .i64 a,.int .i64 (nth ord j:Nat),.ptr 1 1 0 0,.ptr 2 1 0 0,.ptr 0 1 0 0,.ptr 4 1 0 0]
  (Abs.hl (relH d (C0 d x (ruV d.rules n) (fiV d.finals n) (.lst 1 (ord.map e1)) (.lst 1 (lvB n ((x.length+1) * n) L))) y n ((x.length+1) * n) M)) λz H'=>z=.tup []/\∃M':Nat->Nat->Option (Nat->Bool),
   H'=Abs.hl (relH d (C0 d x (ruV d.rules n) (fiV d.finals n) (.lst 1 (ord.map e1)) (.lst 1 (lvB n ((x.length+1) * n) L))) y n ((x.length+1) * n) M')/\LefO d x y L ord a (j+1) M':=by
 have pR:=BJ d.rules;have pFi:=BB d.finals;have pX:A9 (x.map (AV.int .i32))=true:=Bt .i32 _;have pY:A9 (y.map (AV.int .i32))=true:=Bt .i32 _;have pO:A9 (ord.map e1)=true:=Dg (λ_=>rfl) _;have pL:A9 (lvB n ((x.length+1) * n) L)=true:=IQ;have pRU:A9 (fD 1 e1 n (ruI d.rules))=true:=ED λ_=>rfl;have pFI:A9 (fD 1 e1 n (fiI d.finals))=true:=ED λ_=>rfl;have lRU:(fD 1 e1 n (ruI d.rules)).length=n:=Ou;have lFI:(fD 1 e1 n (fiI d.finals)).length=n:=Ou;have hdn:=hk.st;have hn:=hk.n1;have hx:=hk.xl;have hol:=CB ht;have htn:nth ord j<n:=(ht.all _).1 (Bo (by omega));have hgoes:=hk.goes;have hmx:(x.length+1) * n<=1025 * 1024:=BD (by omega) hn;have hpm:=Fg htn ha;have pA:=λf=>EH (n:=y.length) (f:=f);have pZ:A9 (List.replicate y.length (AV.bool false))=true:=BL.2 λv hv=>by rw[Ci hv];rfl
 unfold ruV fiV;refine Ho (K6 Me (W_T ?_));unfold Ic;have hto:=λr hr hf hgo=>zcp hI hl hgoes ht hj ha hlv (r:=r) hr hf hgo;have hnext:=z0k hI hl hgoes ht hj ha hlv;have aR:(fD 1 e1 n (ruI d.rules)).getD (nth ord j) .any=.lst 1 ((ruI d.rules (nth ord j)).map e1):=WE htn;have aR2:(fD 1 e1 n (ruI d.rules))[nth ord j]? = some (.lst 1 ((ruI d.rules (nth ord j)).map e1)):=Ov htn;have aF:(fD 1 e1 n (fiI d.finals)).getD (nth ord j) .any=.lst 1 ((fiI d.finals (nth ord j)).map e1):=WE htn;have aF2:(fD 1 e1 n (fiI d.finals))[nth ord j]? = some (.lst 1 ((fiI d.finals (nth ord j)).map e1)):=Ov htn;have pRI:A9 ((ruI d.rules (nth ord j)).map e1)=true:=Dg (λ_=>rfl) _;have pFJ:A9 ((fiI d.finals (nth ord j)).map e1)=true:=Dg (λ_=>rfl) _;have hrI:=PK d.rules (nth ord j);have hfI:=ZW d.finals (nth ord j);have hrl:=hk.rl;have hfl:=hk.fl;have pST:A9 (lefT y.length n ((x.length+1) * n) M)=true:=Nc;have lST:(lefT y.length n ((x.length+1) * n) M).length=(x.length+1) * n:=Vw;have aST:∀b t,b<=x.length->t<n->(lefT y.length n ((x.length+1) * n) M).getD (b * n+t) .any=GA y.length (M b t):=λb t hb htn=>z0g htn (Fg htn hb);have sST:=λv=>z6l (v:=v) (ny:=y.length) (M:=M) htn hpm;have pl:∀b t,b<=x.length->t<n->b * n+t<(x.length+1) * n:=λb t hb htn=>Fg htn hb;generalize hRUe:fD 1 e1 n (ruI d.rules)=RU at *;generalize hFIe:fD 1 e1 n (fiI d.finals)=FI at *;generalize hme:(x.length+1) * n=m at *;generalize hLVe:lvB n m L=LV at *;generalize hODe:ord.map e1=OD at *;have hEnds:=λ(f:Fq) (hf:f∈d.finals)=>Vd d x (.lst 1 RU) (.lst 1 FI) (.lst 1 OD) (.lst 1 LV) f a pRU pFI pO pL (by omega) hk.x32 (hk.fb f hf).1.2 (hk.fb f hf).1.1 (by omega);have hWf:=λ(f:Fq) (hf:f∈d.finals) (hgo:goB x f.guards a=true)=>IN d x (.lst 1 RU) (.lst 1 FI) (.lst 1 OD) (.lst 1 LV) f.out a f.guards.length pRU pFI pO pL (by omega) hk.x32 (by have:=(hk.fb f hf).2.1;omega) (hk.fb f hf).2.2 (by have:=G9 hgo;omega);have hFits:=λ(r:Rule) (hr:r∈d.rules)=>Lu d x (.lst 1 RU) (.lst 1 FI) (.lst 1 OD) (.lst 1 LV) r.guards a pRU pFI pO pL (by omega) hk.x32 (hk.rb r hr).1.2 (hk.rb r hr).1.1 (by omega);have hWr:=λ(r:Rule) (hr:r∈d.rules) (hgo:goB x r.guards a=true)=>IN d x (.lst 1 RU) (.lst 1 FI) (.lst 1 OD) (.lst 1 LV) r.out a r.guards.length pRU pFI pO pL (by omega) hk.x32 (by have:=(hk.rb r hr).2.1.1;omega) (hk.rb r hr).2.1.2 (by have:=G9 hgo;omega);have pRn:(C0 d x (.lst 1 RU) (.lst 1 FI) (.lst 1 OD) (.lst 1 LV)).pure=true:=by simp[AV.pure,A9,pR,pFi,pX,pO,pL,pRU,pFI]
 have hcl:=λM=>Nf (d:=d) (R:=C0 d x (.lst 1 RU) (.lst 1 FI) (.lst 1 OD) (.lst 1 LV)) pRn (y:=y) (n:=n) (m:=m) (M:=M);generalize nth ord j=s at *;unfold relH;generalize hSTe:lefT y.length n m M=ST at *;(with_reducible repeat'(first|simp (disch:=omega) only[push_cast,↓zz,seval,pR,pFi,pX,pO,pL,pRU,pFI,aF,aF2,lFI,pST,lST,pY,pA,pZ]|apply Aa|refine sp_ ?_ ?_<;>intro hc<;>push_cast at hc|omega|intro _))
 refine Bv (B8 (λ(k:Nat)=>k<=(fiI d.finals s).length) (λk=>(fiI d.finals s).length-k)
  (λk=>[(0,.int .i64 a),(1,.int .i64 s),(2,.ptr 1 1 0 0),(3,.ptr 2 1 0 0),(4,.ptr 0 1 0 0),(5,.ptr 4 1 0 0),(8,.ref 5 1 0 (y.length+1)),(25,.lst 1 ((fiI d.finals s).map e1)),(26,.int .i64 (fiI d.finals s).length),(27,.int .i64 k)])
  (λk=>[⟨6,1,true,[CQ d]⟩,⟨1,1,true,[AE y]⟩,⟨1,1,true,[C0 d x (.lst 1 RU) (.lst 1 FI) (.lst 1 OD) (.lst 1 LV)]⟩,⟨1,1,true,ST⟩,⟨1,1,true,[.ref 3 1 0 m]⟩,⟨1,1,true,mayL y.length (mayF d x y a s k)⟩]) (λenv _=>[DD 1 (env 8)]) 0 (Ay _) ?_ ?_)
 ·rw[z0m,<-z0e]
  (with_reducible repeat'(first|simp (disch:=omega) only[push_cast,↓zz,seval,pR,pFi,pX,pO,pL,pRU,pFI,pST,pFJ,pY,pA,pZ]|apply Aa|refine sp_ ?_ ?_<;>intro hc<;>push_cast at hc|omega|intro _))
 intro k hkk;rcases Aj k (fiI d.finals s).length with hkl|hkl
 ·obtain⟨i,hi⟩:∃i,i=nth (fiI d.finals s) k:=⟨_,rfl⟩
  have him:i∈fiI d.finals s:=by rw[hi];exact Bo hkl
  obtain⟨i1,i2⟩:=PP.1 him;have aI:((fiI d.finals s).map e1).getD k .any=.int .i64 i:=by rw[hi];simp[nth,List.getD,hkl]
  have hE:=hEnds _ (Bo i1);have hW:=hWf _ (Bo i1);have hfl2:=(hk.fb _ (Bo i1)).2.1;have hyes:=λf hf h=>Vo (d:=d) (x:=x) (at_:=a) (s:=s) hkl (f:=f) hf h;have hno:=λf hf h=>ZY (d:=d) (x:=x) (at_:=a) (s:=s) hkl (f:=f) hf h;rw[<-hi] at hyes hno;have hyes:=hyes _ rfl;have hno:=hno _ rfl;generalize hfe:nth d.finals i=f at *;have hgr:=Bw f.guards;have hot:=BV f.out;cases hb:(decide (f.guards.length+a=x.length)&&goB x f.guards a) with
  |true =>
   rw[hb] at hE;have hyes:=z6n (y:=y) (hyes hb);have hgo:goB x f.guards a=true:=by simp only[Ab] at hb;exact hb.2
   have hW:=hW hgo;have pw:A9 ((DF x f.out f.guards a).map (AV.int .i32))=true:=Bt .i32 _;have hwl:(DF x f.out f.guards a).length<=1000000:=by simp[DF,EG];omega
   rw[show EG f.out ((x.drop a).take f.guards.length)=DF x f.out f.guards a from rfl] at hW;generalize DF x f.out f.guards a=w at *;have hMk:=run_mark y w (mayF d x y a s k) none hy hwl;rw[hyes] at hMk;simp only[GA] at hMk;have pM:A9 (mayL y.length (mayF d x y a s k))=true:=EH;generalize mayL y.length (mayF d x y a s k)=A at *;refine W_T ?_;(with_reducible repeat'(first|simp (disch:=omega) only[push_cast,↓zz,seval,pR,pFi,pX,pO,pL,pRU,pFI,pST,pFJ,pY,aI,hfe,hgr,hot,pw,pM]|apply Aa|refine sp_ ?_ ?_<;>intro hc<;>push_cast at hc|refine ee hE ?_|refine ee hW ?_|((first|refine cc hE ?_|refine cc hW ?_);(simp(disch:=omega)only[push_cast,↓zz,seval,pR,pFi,pX,pO,pL,pRU,pFI,pST,pFJ,pY,aI,hfe,hgr,hot,pw,pM]);(fail_if_success change False))|omega|intro _))
   (refine Ju [5] (hMk) (by decide) (by simp) (by (simp(disch:=omega)only[push_cast,↓zz,seval,pR,pFi,pX,pO,pL,pRU,pFI,pST,pFJ,pY,pw,pM])) (by (simp(disch:=omega)only[push_cast,↓zz,seval,pR,pFi,pX,pO,pL,pRU,pFI,pST,pFJ,pY,pw,pM])) (by (simp(disch:=omega)only[push_cast,↓zz,seval,pR,pFi,pX,pO,pL,pRU,pFI,pST,pFJ,pY,pw,pM])) (by (simp(disch:=omega)only[push_cast,↓zz,seval,Ah,Au,AA,BW,De,Cq,pR,pFi,pX,pO,pL,pRU,pFI,pST,pFJ,pY,pw,pM])) ?_)
   rintro z H' ⟨rfl,rfl⟩;refine⟨_,rfl,by simp,?_⟩;(with_reducible repeat'(first|simp (disch:=omega) only[push_cast,↓zz,seval,pR,pFi,pX,pO,pL,pRU,pFI,pST,pFJ,pY,pA,pZ]|apply Aa|refine sp_ ?_ ?_<;>intro hc<;>push_cast at hc|omega|intro _))
   all_goals
    refine⟨k+1,?_⟩;(with_reducible repeat'(first|simp (disch:=omega) only[push_cast,↓zz,seval,pR,pFi,pX,pO,pL,pRU,pFI,pST,pFJ,pY,pA,pZ]|apply Aa|refine sp_ ?_ ?_<;>intro hc<;>push_cast at hc|omega|intro _))
  |false =>
   rw[hb] at hE;have hno:=zcq (y:=y) (hno hb);have pM:A9 (mayL y.length (mayF d x y a s k))=true:=EH;refine W_T ?_;(with_reducible repeat'(first|simp (disch:=omega) only[push_cast,↓zz,seval,pR,pFi,pX,pO,pL,pRU,pFI,pST,pFJ,pY,aI,hfe,hgr,hot,pM]|apply Aa|refine sp_ ?_ ?_<;>intro hc<;>push_cast at hc|refine ee hE ?_|(refine cc hE ?_;(simp(disch:=omega)only[push_cast,↓zz,seval,pR,pFi,pX,pO,pL,pRU,pFI,pST,pFJ,pY,aI,hfe,hgr,hot,pM]);(fail_if_success change False))|omega|intro _))
   all_goals
    refine⟨k+1,?_⟩;(with_reducible repeat'(first|simp (disch:=omega) only[push_cast,↓zz,seval,pR,pFi,pX,pO,pL,pRU,pFI,pST,pFJ,hno,pM,pY,pA]|apply Aa|refine sp_ ?_ ?_<;>intro hc<;>push_cast at hc|omega|intro _))
 obtain rfl:k=(fiI d.finals s).length:=by omega
 have pM:A9 (mayL y.length (mayF d x y a s (fiI d.finals s).length))=true:=EH;refine W_T ?_;(with_reducible repeat'(first|simp (disch:=omega) only[push_cast,↓zz,seval,pR,pFi,pX,pO,pL,pRU,pFI,pST,pFJ,pY,aR,aR2,lRU,pM]|apply Aa|refine sp_ ?_ ?_<;>intro hc<;>push_cast at hc|omega|intro _))
 refine Bv (B8 (λ(k:Nat)=>k<=(ruI d.rules s).length) (λk=>(ruI d.rules s).length-k)
  (λk=>[(0,.int .i64 a),(1,.int .i64 s),(2,.ptr 1 1 0 0),(3,.ptr 2 1 0 0),(4,.ptr 0 1 0 0),(5,.ptr 4 1 0 0),(8,.ref 5 1 0 (y.length+1)),(58,.lst 1 ((ruI d.rules s).map e1)),(59,.int .i64 (ruI d.rules s).length),(60,.int .i64 k)])
  (λk=>[⟨6,1,true,[CQ d]⟩,⟨1,1,true,[AE y]⟩,⟨1,1,true,[C0 d x (.lst 1 RU) (.lst 1 FI) (.lst 1 OD) (.lst 1 LV)]⟩,⟨1,1,true,ST⟩,⟨1,1,true,[.ref 3 1 0 m]⟩,⟨1,1,true,mayL y.length (mayR d x y (offM M) a s k)⟩]) (λenv _=>[DD 1 (env 8)]) 0 (Ay _) ?_ ?_)
 ·rw[z0n]
  (with_reducible repeat'(first|simp (disch:=omega) only[push_cast,↓zz,seval,pR,pFi,pX,pO,pL,pRU,pFI,pST,pRI,pY,pM]|apply Aa|refine sp_ ?_ ?_<;>intro hc<;>push_cast at hc|omega|intro _))
 intro k hkk;rcases Aj k (ruI d.rules s).length with hkl|hkl
 ·obtain⟨i,hi⟩:∃i,i=nth (ruI d.rules s) k:=⟨_,rfl⟩
  have him:i∈ruI d.rules s:=by rw[hi];exact Bo hkl
  obtain⟨i1,i2⟩:=FY.1 him;have aI:((ruI d.rules s).map e1).getD k .any=.int .i64 i:=by rw[hi];simp[nth,List.getD,hkl]
  have hr:=Bo i1;have hE:=hFits _ hr;have hW:=hWr _ hr;have hyes:=λr hf h=>z6o (d:=d) (x:=x) (y:=y) (N:=offM M) (at_:=a) (s:=s) hkl (r:=r) hf h;have hno:=λr hf h=>zcr (d:=d) (x:=x) (y:=y) (N:=offM M) (at_:=a) (s:=s) hkl (r:=r) hf h;rw[<-hi] at hyes hno;have hyes:=hyes _ rfl;have hno:=hno _ rfl;have hto:=hto _ hr i2;obtain⟨_,htt,e1',e2'⟩:=hgoes.r _ hr;have heb:=(hk.rb _ hr).2.2;have hol:=(hk.rb _ hr).2.1.1;generalize hre:nth d.rules i=r at *;have hgr:=Bw r.guards;have hot:=BV r.out;obtain⟨e,he⟩:∃e:Nat,r.eat=e:=⟨r.eat.toNat,by omega⟩;obtain⟨t,htq⟩:∃t:Nat,r.to_=t:=⟨r.to_.toNat,by omega⟩;have het:r.eat.toNat=e:=by omega
  have htt2:r.to_.toNat=t:=by omega
  rw[het,htt2] at hyes hto;have pM:A9 (mayL y.length (mayR d x y (offM M) a s k))=true:=EH;cases hb:goB x r.guards a with
  |false =>
   rw[hb] at hE;have hno:=hno hb;refine W_T ?_;(with_reducible repeat'(first|simp (disch:=omega) only[push_cast,↓zz,seval,pR,pFi,pX,pO,pL,pRU,pFI,pST,pRI,pY,aI,hre,hgr,hot,pM]|apply Aa|refine sp_ ?_ ?_<;>intro hc<;>push_cast at hc|refine ee hE ?_|(refine cc hE ?_;(simp(disch:=omega)only[push_cast,↓zz,seval,pR,pFi,pX,pO,pL,pRU,pFI,pST,pRI,pY,aI,hre,hgr,hot,pM]);(fail_if_success change False))|omega|intro _))
   all_goals
    refine⟨k+1,?_⟩;(with_reducible repeat'(first|simp (disch:=omega) only[push_cast,↓zz,seval,pR,pFi,pX,pO,pL,pRU,pFI,pST,pRI,pY,hno,pM,pA]|apply Aa|refine sp_ ?_ ?_<;>intro hc<;>push_cast at hc|omega|intro _))
  |true =>
   rw[hb] at hE;have hyes:=hyes hb;have hW:=hW hb;obtain⟨h1,h4,h5⟩:=hto hb;have hle:=G9 hb;have pw:A9 ((DF x r.out r.guards a).map (AV.int .i32))=true:=Bt .i32 _;have hwl:(DF x r.out r.guards a).length<=1000000:=by simp[DF,EG];omega
   rw[show EG r.out ((x.drop a).take r.guards.length)=DF x r.out r.guards a from rfl] at hW;have aT:=aST (a+e) t h4 h5;rw[h1] at aT;simp only[GA] at aT;have hpl:=pl (a+e) t h4 h5;have hae:(a:Int)+(e:Int)=((a+e:Nat):Int):=by norm_cast
   have hmul:((a+e:Nat):Int) * (n:Int)=(((a+e) * n:Nat):Int):=by norm_cast
   have hmulb:(a+e) * n<=1024 * 1024:=BD (by omega) hn;generalize DF x r.out r.guards a=h at *;have hMk:=run_mark y h (mayR d x y (offM M) a s k) (some (offM M (a+e) t)) hy hwl;rw[hyes] at hMk;simp only[GA] at hMk;have pF:A9 (mayL y.length (offM M (a+e) t))=true:=EH;generalize mayL y.length (mayR d x y (offM M) a s k)=A at *;generalize mayL y.length (offM M (a+e) t)=F at *;generalize hpe:(a+e) * n+t=p at *;generalize (a+e) * n=an at *;have hpi:(an:Int)+(t:Int)=(p:Int):=by omega
   generalize hbe:a+e=b at *;refine W_T ?_;(with_reducible repeat'(first|simp (disch:=omega) only[push_cast,↓zz,seval,pR,pFi,pX,pO,pL,pRU,pFI,pST,lST,pRI,pY,aI,hre,hgr,hot,pw,pM,pF,he,htq,hae,hdn,hmul,hpi,aT]|apply Aa|refine sp_ ?_ ?_<;>intro hc<;>push_cast at hc|refine ee hE ?_|refine ee hW ?_|((first|refine cc hE ?_|refine cc hW ?_);(simp(disch:=omega)only[push_cast,↓zz,seval,pR,pFi,pX,pO,pL,pRU,pFI,pST,lST,pRI,pY,aI,hre,hgr,hot,pw,pM,pF,he,htq,hae,hdn,hmul,hpi,aT]);(fail_if_success change False))|omega|intro _))
   (refine Ju [5] (hMk) (by decide) (by simp) (by (simp(disch:=omega)only[push_cast,↓zz,seval,pR,pFi,pX,pO,pL,pRU,pFI,pST,pRI,pY,pw,pM,pF])) (by (simp(disch:=omega)only[push_cast,↓zz,seval,pR,pFi,pX,pO,pL,pRU,pFI,pST,pRI,pY,pw,pM,pF])) (by (simp(disch:=omega)only[push_cast,↓zz,seval,pR,pFi,pX,pO,pL,pRU,pFI,pST,pRI,pY,pw,pM,pF])) (by (simp(disch:=omega)only[push_cast,↓zz,seval,Ah,Au,AA,BW,De,Cq,pR,pFi,pX,pO,pL,pRU,pFI,pST,pRI,pY,pw,pM,pF])) ?_)
   rintro z H' ⟨rfl,rfl⟩;refine⟨_,rfl,by simp,?_⟩;(with_reducible repeat'(first|simp (disch:=omega) only[push_cast,↓zz,seval,pR,pFi,pX,pO,pL,pRU,pFI,pST,pRI,pY,pA,pZ]|apply Aa|refine sp_ ?_ ?_<;>intro hc<;>push_cast at hc|omega|intro _))
   all_goals
    refine⟨k+1,?_⟩;(with_reducible repeat'(first|simp (disch:=omega) only[push_cast,↓zz,seval,pR,pFi,pX,pO,pL,pRU,pFI,pST,pRI,pY,pA,pZ]|apply Aa|refine sp_ ?_ ?_<;>intro hc<;>push_cast at hc|omega|intro _))
 obtain rfl:k=(ruI d.rules s).length:=by omega
 have pM:A9 (mayL y.length (mayR d x y (offM M) a s (ruI d.rules s).length))=true:=EH;have hmul:(a:Int) * (n:Int)=((a * n:Nat):Int):=by norm_cast
 have hmulb:a * n<=1024 * 1024:=BD (by omega) hn;generalize mayR d x y (offM M) a s (ruI d.rules s).length=mr at *;have sM:=sST (some mr);generalize hpe:a * n+s=p at *;generalize a * n=an at *;have hpi:(an:Int)+(s:Int)=(p:Int):=by omega
 refine W_T ?_;(with_reducible repeat'(first|simp (disch:=omega) only[push_cast,↓zz,seval,pR,pFi,pX,pO,pL,pRU,pFI,pST,lST,pY,pM,hdn,hmul,hpi]|apply Aa|refine sp_ ?_ ?_<;>intro hc<;>push_cast at hc|omega|intro _));refine⟨.tup [],_,(Xa (by omega)).trans (?_:Ent _ _ _ _ _ (Abs.hl (relH d (C0 d x (.lst 1 RU) (.lst 1 FI) (.lst 1 OD) (.lst 1 LV)) y n m (setP M a s (some mr))))),rfl,_,rfl,hnext⟩;rw[sM];exact PI (gar:=[⟨0,2,false,[]⟩]) rfl (Ac _) (hcl _) trivial
set_option maxRecDepth 100000
theorem Tx{d:Desc}{x:List Int}{n:Nat}(hk:Nr d x n){a:Nat}{s:Int}(ha:a<=x.length)(hs:0<=s/\s<n):outW d x a s=Iw (outL d x (outW d x) a s) :=
 ZC (PH λr hr hf hgo=>by
  obtain⟨_,htt,_,_⟩:=hk.goes.r r hr;have:=G9 hgo;have:=(hk.goes.r r hr).2.2.1
  exact Ke hk (by omega) htt)
theorem Ty(d:Desc)(x:List Int)(hl:x.length<=9223372036854775807):PC Tryz.prog 23 [CQ d,AE x] (.bool (!GL d||(decide (12<x.length)&&decide (x.length<=1024)))):=by
 have hS:=MN d;have pR:=BJ d.rules;have pF:=BB d.finals;have pX:A9 (x.map (AV.int .i32))=true:=Bt .i32 _;generalize GL d=b at *;refine Ct OZ ?_;unfold JI;cases b with
 |false =>
  rw[Ea,Bool.true_or];(with_reducible repeat'(first|simp (disch:=omega) only[push_cast,↓zz,seval,pR,pF,pX]|apply Aa|refine sp_ ?_ ?_<;>intro hc<;>push_cast at hc|refine ee hS ?_|(refine cc hS ?_;(simp(disch:=omega)only[push_cast,↓zz,seval,pR,pF,pX]);(fail_if_success change False))|omega|intro _))
 |true =>
  by_cases h1:12<x.length
  ·by_cases h2:x.length<=1024
   ·rw[AQ h1,AQ h2,CU,FL,Ev]
    (with_reducible repeat'(first|simp (disch:=omega) only[push_cast,↓zz,seval,pR,pF,pX]|apply Aa|refine sp_ ?_ ?_<;>intro hc<;>push_cast at hc|refine ee hS ?_|(refine cc hS ?_;(simp(disch:=omega)only[push_cast,↓zz,seval,pR,pF,pX]);(fail_if_success change False))|omega|intro _))
    all_goals first|omega|trace_state
   ·rw[AQ h1,Bu h2,CU,FL,Dn]
    (with_reducible repeat'(first|simp (disch:=omega) only[push_cast,↓zz,seval,pR,pF,pX]|apply Aa|refine sp_ ?_ ?_<;>intro hc<;>push_cast at hc|refine ee hS ?_|(refine cc hS ?_;(simp(disch:=omega)only[push_cast,↓zz,seval,pR,pF,pX]);(fail_if_success change False))|omega|intro _))
    all_goals first|omega|trace_state
  ·rw[Bu h1,CU,FL,Be]
   (with_reducible repeat'(first|simp (disch:=omega) only[push_cast,↓zz,seval,pR,pF,pX]|apply Aa|refine sp_ ?_ ?_<;>intro hc<;>push_cast at hc|refine ee hS ?_|(refine cc hS ?_;(simp(disch:=omega)only[push_cast,↓zz,seval,pR,pF,pX]);(fail_if_success change False))|omega|intro _))
   all_goals first|omega|trace_state
def exR:Desc:=⟨1,1,1,0,[⟨0,0,[[⟨97,97⟩]],1,[conT 120]⟩,⟨0,0,[[⟨97,97⟩]],1,[conT 121]⟩],[⟨0,[],[]⟩]⟩
theorem RV:Fa exR=0:=by
 refine (Tk (by decide) (λr hr=>?_) (λf hf=>?_) ?_).2
 ·simp only[exR,Ah,Au,AA] at hr
  rcases hr with rfl|rfl
  ·simp only[IU,HC,Ab,List.all_cons,List.all_nil]
   exact⟨by decide,by decide,RR (MK.2 (by decide)),by decide,by decide,Vy (by decide) (by decide) (by decide) (by decide),trivial⟩
  ·simp only[IU,HC,Ab,List.all_cons,List.all_nil]
   exact⟨by decide,by decide,RR (MK.2 (by decide)),by decide,by decide,Vy (by decide) (by decide) (by decide) (by decide),trivial⟩
 ·simp only[exR,Aq] at hf
  subst hf;decide
 ·rintro⟨C,hC,j,hj⟩
  obtain⟨_,r,hr,he,_,hf⟩:=hC j hj;simp only[exR,Ah,Au,AA] at hr;rcases hr with rfl|rfl<;>simp[Dl] at he
theorem z0t:askV exR [97,97]=0:=Lx.2 ⟨RV,by decide,by decide⟩
theorem zcu:outW exR [97,97] 0 exR.start=[[120,120],[120,121],[121,120],[121,121]]:=by
 obtain⟨n,hk⟩:=IR z0t;have hn:(0:Int)<=0/\(0:Int)<n:=by have:=hk.start;exact this
 have w1:∀a,a<2->∀gs,DF [97,97] [conT 120] [[gs]] a=[120]:=λa ha gs=>by
  simp only[DF,EG,Bf,Bh];rw[Ng (by decide) (by rcases (show a=0\/a=1 by omega) with rfl|rfl<;>rfl)];rfl
 have w2:∀a,a<2->∀gs,DF [97,97] [conT 121] [[gs]] a=[121]:=λa ha gs=>by
  simp only[DF,EG,Bf,Bh];rw[Ng (by decide) (by rcases (show a=0\/a=1 by omega) with rfl|rfl<;>rfl)];rfl
 have h2:outW exR [97,97] 2 0=[[]]:=by
  rw[Tx hk (by decide) hn];rfl
 have h1:outW exR [97,97] 1 0=[[120],[121]]:=by
  rw[Tx hk (by decide) hn];have e:∀S:Nat->Int->List (List Int),outL exR [97,97] S 1 0=(S 2 0).map (DF [97,97] [conT 120] [[⟨97,97⟩]] 1++·)++((S 2 0).map (DF [97,97] [conT 121] [[⟨97,97⟩]] 1++·)++[]):=λS=>rfl
  rw[e,h2,w1 1 (by decide),w2 1 (by decide)];rfl
 show outW exR [97,97] 0 0=_;rw[Tx hk (by decide) hn];have e:∀S:Nat->Int->List (List Int),outL exR [97,97] S 0 0=(S 1 0).map (DF [97,97] [conT 120] [[⟨97,97⟩]] 0++·)++((S 1 0).map (DF [97,97] [conT 121] [[⟨97,97⟩]] 0++·)++[]):=λS=>rfl
 rw[e,h1,w1 0 (by decide),w2 0 (by decide)];rfl
abbrev exRV:AV:=.agg [.int .i64 1,.int .i64 1,.int .i64 1,.int .i64 0,.lst 5 [.agg [.int .i64 0,.int .i64 0,CO [[⟨97,97⟩]],.int .i64 1,.lst 6 [.agg [.int .i64 0,.int .i64 0,.int .i64 21,.int .i64 0,.int .i64 120,.nilS]]],.agg [.int .i64 0,.int .i64 0,CO [[⟨97,97⟩]],.int .i64 1,.lst 6 [.agg [.int .i64 0,.int .i64 0,.int .i64 21,.int .i64 0,.int .i64 121,.nilS]]]],.lst 3 [.agg [.int .i64 0,.nilS,.nilS]]]
theorem z0u:AV.le exRV (CQ exR):=by
 refine AV.le_agg (Bg (AV.le_refl _) (Bg (AV.le_refl _) (Bg (AV.le_refl _) (Bg (AV.le_refl _) (Bg (AV.le_lst rfl (BJ _) ?_) (Bg (AV.le_lst rfl (BB _) ?_) Fp))))))
 ·refine Bg (AV.le_agg (Bg (AV.le_refl _) (Bg (AV.le_refl _) (Bg (AV.le_refl _) (Bg (AV.le_refl _) (Bg (z0p 120) Fp)))))) (Bg (AV.le_agg (Bg (AV.le_refl _) (Bg (AV.le_refl _) (Bg (AV.le_refl _) (Bg (AV.le_refl _) (Bg (z0p 121) Fp)))))) Fp)
 ·exact Bg (AV.le_agg (Bg (AV.le_refl _) (Bg (AV.le_nilS (by decide)) (Bg (AV.le_nilS (by decide)) Fp)))) Fp
theorem Tz:PC Tryz.prog 24 [] (.bool true):=by
 have hf:=z0o RV;have h4:=I4 exR [97,97] hf (by decide) (by decide) 4 (by decide) λ_=>AW (F1 _ _) (by decide);have h3:=I4 exR [97,97] hf (by decide) (by decide) 3 (by decide) λ_=>AW (F1 _ _) (by decide);unfold runA outA at h4 h3;rw[Ae (by simp[z0t]),Ae (by decide),zcu] at h4 h3;rw[Af (by decide)] at h4;rw[Ae (by decide)] at h3;have h4:=LP h4 (Bg z0u (Bg (AV.le_refl _) (Bg (AV.le_refl _) Fp)));have h3:=LP h3 (Bg z0u (Bg (AV.le_refl _) (Bg (AV.le_refl _) Fp)));have hrs:Jj [120,121]=[120,121]:=by decide +kernel
 refine zgb Pa ?_;unfold JJ;refine JE (W_T ?_);(with_reducible repeat'(first|simp (disch:=omega) only[push_cast,↓zz,seval]|apply Aa|refine sp_ ?_ ?_<;>intro hc<;>push_cast at hc|omega|intro _));refine JE (W_T ?_);(with_reducible repeat'(first|simp (disch:=omega) only[push_cast,↓zz,seval]|apply Aa|refine sp_ ?_ ?_<;>intro hc<;>push_cast at hc|omega|intro _));refine JE (W_T ?_);(with_reducible repeat'(first|simp (disch:=omega) only[push_cast,↓zz,seval]|apply Aa|refine sp_ ?_ ?_<;>intro hc<;>push_cast at hc|omega|intro _));refine Nk (Wp (l':=[⟨0,2,false,[]⟩,⟨0,2,false,[]⟩,⟨0,2,false,[]⟩,⟨0,2,false,[]⟩,⟨0,2,false,[]⟩,⟨0,2,false,[]⟩,⟨6,1,true,[exRV]⟩]) (g:=6) (d:=8) [0,1,2,3,4,5] (by decide) (by simp) rfl (by decide) ?_ ?_) (W_T ?_)
 ·(simp(disch:=omega)only[push_cast,↓zz,seval])
 ·rfl
 (with_reducible repeat'(first|simp (disch:=omega) only[push_cast,↓zz,seval,hrs]|apply Aa|refine sp_ ?_ ?_<;>intro hc<;>push_cast at hc|(have q_:=(h4);refine ee q_ ?_;clear q_)|(have q_:=(h3);refine ee q_ ?_;clear q_)|(have q_:=(h4);refine cc q_ ?_;clear q_;(simp(disch:=omega)only[push_cast,↓zz,seval,hrs]);(fail_if_success change False))|(have q_:=(h3);refine cc q_ ?_;clear q_;(simp(disch:=omega)only[push_cast,↓zz,seval,hrs]);(fail_if_success change False))|omega|intro _))
 all_goals
  refine⟨[120,121],rfl,?_⟩;(with_reducible repeat'(first|simp (disch:=omega) only[push_cast,↓zz,seval,hrs]|apply Aa|refine sp_ ?_ ?_<;>intro hc<;>push_cast at hc|(have q_:=(h4);refine ee q_ ?_;clear q_)|(have q_:=(h3);refine ee q_ ?_;clear q_)|(have q_:=(h4);refine cc q_ ?_;clear q_;(simp(disch:=omega)only[push_cast,↓zz,seval,hrs]);(fail_if_success change False))|(have q_:=(h3);refine cc q_ ?_;clear q_;(simp(disch:=omega)only[push_cast,↓zz,seval,hrs]);(fail_if_success change False))|omega|intro _))
 all_goals trace_state
set_option maxRecDepth 100000
theorem z6t{d:Desc}{x:List Int}{mo:Int}(h:askV d x≠0):runA d x mo=.tup [.nilS,.int .i64 (askV d x)]:=by unfold runA;rw[Af h]
theorem z6u{d:Desc}{x:List Int}{mo:Nat}(h:askV d x=0)(h1:1<=mo)(hle:(outW d x 0 d.start).length<=mo):runA d x mo=.tup [G0 (outW d x 0 d.start),.int .i64 0]:=by
 unfold runA outA;rw[Ae (by simp[h]),Ae (by omega),Int.toNat_natCast,Af hle]
theorem z0v{d:Desc}{x:List Int}{mo:Nat}(h:askV d x=0)(h1:1<=mo)(hle:mo<(outW d x 0 d.start).length):runA d x mo=.tup [.nilS,.int .i64 5]:=by
 unfold runA outA;rw[Ae (by simp[h]),Ae (by omega),Int.toNat_natCast,Ae (by omega)]
set_option maxRecDepth 100000
set_option maxRecDepth 100000
set_option maxRecDepth 100000
section
variable {a b:Desc}{x:List Int}
end
set_option maxRecDepth 100000
set_option maxRecDepth 100000
structure Plc where
 s:Int
 a:Nat
 o:List Int
 deriving DecidableEq,Inhabited
def finOk(x:List Int)(p:Plc)(f:Fq):Bool:=decide (f.from_=p.s)&&(decide (f.guards.length+p.a=x.length)&&goB x f.guards p.a)
def nxP(x:List Int)(p:Plc)(r:Rule):Plc:=⟨r.to_,p.a+r.eat.toNat,p.o++DF x r.out r.guards p.a⟩
def ruOk(x:List Int)(p:Plc)(r:Rule):Bool:=decide (r.from_=p.s)&&goB x r.guards p.a
structure BInv(d:Desc)(x:List Int)(T:List Plc)(O:List (List Int))(k:Nat):Prop where
 so:Lh O
 lead:∀p∈T,R8 d x 0 d.start p.o p.a p.s
 rel:∀w∈O,RelW d x 0 d.start w
 here:⟨d.start,0,[]⟩∈T
 fin:∀i,i<k->i<T.length->∀f∈d.finals,finOk x (nth T i) f=true->(nth T i).o++DF x f.out f.guards (nth T i).a∈O
 nx:∀i,i<k->i<T.length->∀r∈d.rules,ruOk x (nth T i) r=true->nxP x (nth T i) r∈T
set_option maxRecDepth 100000
structure BBd(x:List Int)(T:List Plc)(O:List (List Int))(k:Nat):Prop where
 so:Lh O
 tl:T.length<=1500
 kl:k<=T.length
 pa:∀p∈T,p.a<=x.length
 po:∀p∈T,p.o.length<=64 * k
 ol:O.length<=4096 * k
 ow:∀w∈O,w.length<=64 * k
set_option maxRecDepth 100000
set_option maxRecDepth 100000
theorem RX(d:Desc)(x y:List Int){n:Nat}(hk:Nr d x n)(hq:PC Tryz.prog 59 [CQ d,AE x] (.int .i64 0))(hy:y.length<=1000000000):
 PC Tryz.prog 37 [CQ d,AE x,AE y] (.tup [.bool (decide (y∈outW d x 0 d.start)),.int .i64 0]):=by
 have pR:=BJ d.rules;have pFi:=BB d.finals;have pX:A9 (x.map (AV.int .i32))=true:=Bt .i32 _;have pY:A9 (y.map (AV.int .i32))=true:=Bt .i32 _;have hBe:=Vv hk;have hdn:=hk.st;refine Ct JK ?_;unfold H5;(with_reducible repeat'(first|simp (disch:=omega) only[push_cast,↓zz,seval,pR,pFi,pX,pY]|apply Aa|refine sp_ ?_ ?_<;>intro hc<;>push_cast at hc|refine ee hq ?_|(refine cc hq ?_;(simp(disch:=omega)only[push_cast,↓zz,seval,pR,pFi,pX,pY]);(fail_if_success change False))|omega|intro _))
 (refine Ju [] (hBe) (by decide) (by simp) (by (simp(disch:=omega)only[push_cast,↓zz,seval])) (by (simp(disch:=omega)only[push_cast,↓zz,seval])) (by (simp(disch:=omega)only[push_cast,↓zz,seval])) (by (simp(disch:=omega)only[push_cast,↓zz,seval,Ah,Au,AA,BW,De,Cq])) ?_)
 rintro z H' ⟨rfl,ord,L,rfl,ht,hl⟩;refine⟨_,rfl,by simp,?_⟩;have hmx:(x.length+1) * n<=1025 * 1024:=BD (by have:=hk.xl;omega) hk.n1;have pO:A9 (ord.map e1)=true:=Dg (λ_=>rfl) _;have pL:A9 (lvB n ((x.length+1) * n) L)=true:=IQ;have lL:(lvB n ((x.length+1) * n) L).length=(x.length+1) * n:=I0;have pRU:A9 (fD 1 e1 n (ruI d.rules))=true:=ED λ_=>rfl;have pFI:A9 (fD 1 e1 n (fiI d.finals))=true:=ED λ_=>rfl;have pRn:(C0 d x (ruV d.rules n) (fiV d.finals n) (.lst 1 (ord.map e1)) (.lst 1 (lvB n ((x.length+1) * n) L))).pure=true:=by simp[AV.pure,A9,pR,pFi,pX,pO,pL,pRU,pFI,ruV,fiV]
 have hbk:=Vr (σ:=Nat->Nat->Option (Nat->Bool)) d x (ruV d.rules n) (fiV d.finals n) pRU pFI hdn hk.n1 hk.xl ht (L:=L) 80 [.ptr 1 1 0 0,.ptr 2 1 0 0,.ptr 0 1 0 0,.ptr 4 1 0 0] 5
  (λs=>relH d (C0 d x (ruV d.rules n) (fiV d.finals n) (.lst 1 (ord.map e1)) (.lst 1 (lvB n ((x.length+1) * n) L))) y n ((x.length+1) * n) s) (λ_=>rfl) (λ_=>Nf pRn) ⟨(show 1<5 by omega),(show 2<5 by omega),(show 0<5 by omega),(show 4<5 by omega),trivial⟩
  (λa j s=>LefO d x y L ord a j s) (λ_ _=>none) z0i (λa j s ha hj hI hlv=>z0s d x y hk ht hl hy a j s ha hj hI hlv)
  (λa j s ha hj hI hlv=>z0j hI (by rw[CB ht];exact hj) hlv) (λa s ha hI=>z6m hI hl ht)
 generalize hm:(x.length+1) * n=m at *;(with_reducible repeat'(first|simp (disch:=omega) only[push_cast,↓zz,seval,pR,pFi,pX,lL,pY]|apply Aa|refine sp_ ?_ ?_<;>intro hc<;>push_cast at hc|omega|intro _));refine Nb (B4.mono hbk ?_) ?_
 rotate_left
 ·unfold relH
  rw[<-z0h];refine⟨⟨rfl,rfl,id,B0 _ _⟩,⟨rfl,rfl,id,B0 _ _⟩,⟨rfl,rfl,id,B0 _ _⟩,⟨rfl,rfl,id,B0 _ _⟩,⟨rfl,rfl,id,B0 _ _⟩,trivial⟩
 rintro z H' ⟨rfl,M,rfl,hI⟩;obtain⟨f,g1,g2⟩:=z6p hI hl ht hk.start;unfold relH;have hst:=hk.start;obtain⟨s0,hs0⟩:∃s0:Nat,d.start=s0:=⟨d.start.toNat,by omega⟩;have hsn:s0<n:=by omega
 have hsm:0 * n+s0<m:=by rw[<-hm];exact Fg hsn (Ay _)
 have hts:d.start.toNat=s0:=by omega
 rw[hts] at g1
 have aS:(lefT y.length n m M).getD s0 .any=GA y.length (some f):=by
  have:=z0g (ny:=y.length) (M:=M) (z:=.any) hsn hsm
  rwa [DY,AO,g1] at this
 simp only[GA] at aS;have lS:(lefT y.length n m M).length=m:=Vw;have pS:A9 (lefT y.length n m M)=true:=Nc;have hsm2:s0<m:=by omega
 have pF:=EH (n:=y.length) (f:=f);have lF:=CC (n:=y.length) (f:=f);have aF:=z0d (n:=y.length) (f:=f) (z:=.any) (Ac _);rw[g2] at aF;generalize decide (y∈outW d x 0 d.start)=q at *;generalize mayL y.length f=F at *;generalize lefT y.length n m M=T at *;(with_reducible repeat'(first|simp (disch:=omega) only[push_cast,↓zz,seval,hs0,aS,lS,pS,pF,lF,aF,pY]|apply Aa|refine sp_ ?_ ?_<;>intro hc<;>push_cast at hc|omega|intro _))
 all_goals trace_state
noncomputable def relA (d:Desc) (x y:List Int):AV:=if askV d x≠0 then .tup [.bool false,.int .i64 (askV d x)] else .tup [.bool (decide (y∈outW d x 0 d.start)),.int .i64 0]
theorem RY(d:Desc)(x y:List Int)(hf:Iq d)(hl:x.length<=9223372036854775807)(h32:∀v∈x,-2147483648<=v/\v<=2147483647)(hy:y.length<=1000000000):
 PC Tryz.prog 37 [CQ d,AE x,AE y] (relA d x y):=by
 have hq:=R4 d x hf hl h32;have pR:=BJ d.rules;have pFi:=BB d.finals;have pX:A9 (x.map (AV.int .i32))=true:=Bt .i32 _;have pY:A9 (y.map (AV.int .i32))=true:=Bt .i32 _;unfold relA;by_cases h:askV d x=0
 ·rw[Ae (by simp[h])]
  rw[h] at hq;obtain⟨n,hk⟩:=IR h;exact RX d x y hk hq hy
 ·rw[Af h]
  generalize askV d x=k at *;refine Ct JK ?_;unfold H5;(with_reducible repeat'(first|simp (disch:=omega) only[push_cast,↓zz,seval,pR,pFi,pX,pY,h]|apply Aa|refine sp_ ?_ ?_<;>intro hc<;>push_cast at hc|refine ee hq ?_|(refine cc hq ?_;(simp(disch:=omega)only[push_cast,↓zz,seval,pR,pFi,pX,pY,h]);(fail_if_success change False))|omega|intro _))
  all_goals trace_state
set_option maxRecDepth 100000
def Gg(d:Desc)(r:Rule)(f:Fq):Desc:=⟨d.in_,d.out,d.states,d.start,d.rules++[r],d.finals++[f]⟩
theorem z6v{d:Desc}{r:Rule}{f:Fq}{x:List Int}{a:Nat}{s:Int}{w:List Int}(h:RelW d x a s w):RelW (Gg d r f) x a s w:=by
 induction h with
 |fin g h1 h2 h3 h4=>exact .fin g (BY _ h1) h2 h3 h4
 |step q w h1 h2 h3 _ ih=>exact .step q w (BY _ h1) h2 h3 ih
theorem z6w{d:Desc}{r:Rule}{f:Fq}{x w:List Int}(h1:askV d x=0)(h2:askV (Gg d r f) x=0)(h:w∈outW d x 0 d.start):w∈outW (Gg d r f) x 0 d.start:=by
 obtain⟨n,hk⟩:=IR h1;obtain⟨m,hm⟩:=IR h2;exact ((Ke hm (Ay _) hm.start).2 w).2 (z6v (((Ke hk (Ay _) hk.start).2 w).1 h))
theorem z6x{d:Desc}{r:Rule}{f:Fq}{x:List Int}(h1:askV d x=0)(h2:Fa (Gg d r f)=0):askV (Gg d r f) x=0:=by
 obtain⟨_,a,b⟩:=Lx.1 h1;exact Lx.2 ⟨h2,a,b⟩
theorem z6y{d:Desc}{r:Rule}{f:Fq}{x w:List Int}(h1:askV d x=0)(h2:Fa (Gg d r f)=0)(h:w∈outW d x 0 d.start):relA (Gg d r f) x w=.tup [.bool true,.int .i64 0]:=by
 have h3:=z6x (r:=r) (f:=f) h1 h2;unfold relA;rw[Ae (by simp[h3]),AQ];exact z6w h1 h3 h
theorem T3{k b:Nat}{env:Env}{A B C:Grp}{x1 x2 x3 x4:AV}{v1 v2 n1 n2:Nat}{X Y:List AV}(hx:x1.pure=true/\x2.pure=true/\x3.pure=true/\x4.pure=true)(h1:X.length=n1)(h2:Y.length=n2)(pX:A9 X=true)(pY:A9 Y=true):
 Ent k b env (Abs.hl [A,B,C,⟨6,1,true,[.agg [x1,x2,x3,x4,.ref 4 v1 0 n1,.ref 5 v2 0 n2]]⟩,⟨5,v1,false,X⟩,⟨3,v2,false,Y⟩]) env
  (Abs.hl [A,B,C,⟨6,1,true,[.agg [x1,x2,x3,x4,.lst 5 X,.lst 3 Y]]⟩,⟨0,v1+1,false,[]⟩,⟨0,v2+1,false,[]⟩]):=by
 subst h1 h2
 have key:∀(g w v:Nat)(Z:List AV),A9 Z=true->0<w->(([(A:Grp),B,C,⟨6,1,true,[.agg [x1,x2,x3,x4,.ref 4 v1 0 X.length,.ref 5 v2 0 Y.length]]⟩,⟨5,v1,false,X⟩,⟨3,v2,false,Y⟩]).getD g default=⟨w,v,false,Z⟩)->g∈[4,5]->CM 1 ((Abs.hl [A,B,C,⟨6,1,true,[.agg [x1,x2,x3,x4,.ref 4 v1 0 X.length,.ref 5 v2 0 Y.length]]⟩,⟨5,v1,false,X⟩,⟨3,v2,false,Y⟩]).only [4,5]) (.ref g v 0 Z.length) /\
  .lst w Z=frzV 1 ((Abs.hl [A,B,C,⟨6,1,true,[.agg [x1,x2,x3,x4,.ref 4 v1 0 X.length,.ref 5 v2 0 Y.length]]⟩,⟨5,v1,false,X⟩,⟨3,v2,false,Y⟩]).only [4,5]) (.ref g v 0 Z.length):=by
  intro g w v Z hZ hw hg hm;generalize hl:([(A:Grp),B,C,⟨6,1,true,[.agg [x1,x2,x3,x4,.ref 4 v1 0 X.length,.ref 5 v2 0 Y.length]]⟩,⟨5,v1,false,X⟩,⟨3,v2,false,Y⟩])=l at *
  have hat:((Abs.hl l).only [4,5]).at_ g=⟨w,v,false,Z⟩:=by
   show (if g∈[4,5] then _ else _)=_;rw[Af hm,Dj,hg]
  have hpz:=FC ((Abs.hl l).only [4,5]) 0 hZ;constructor
  ·simp only[CM]
   rw[hat];simp only[B2,AB];exact⟨trivial,hw,by omega,hpz.1⟩
  ·simp only[frzV]
   rw[hat];simp only[B2,AB];simp[frzV]
 obtain⟨a1,a2⟩:=key 4 5 v1 X pX (by decide) rfl (by simp);obtain⟨b1,b2⟩:=key 5 3 v2 Y pY (by decide) rfl (by simp);refine Iy (g:=3) (w:=6) (v:=1) (d:=1) (ex:=true) (xs:=[.agg [x1,x2,x3,x4,.ref 4 v1 0 X.length,.ref 5 v2 0 Y.length]]) (ys:=[.agg [x1,x2,x3,x4,.lst 5 X,.lst 3 Y]]) [4,5] (by decide) (by simp) rfl (by decide) ?_ ?_
 ·exact⟨_,[],rfl,.inr ⟨_,_,rfl,rfl,_,_,rfl,.inl rfl,_,_,rfl,.inl rfl,_,_,rfl,.inl rfl,_,_,rfl,.inl rfl,_,_,rfl,.inr ⟨a1,a2⟩,_,_,rfl,.inr ⟨b1,b2⟩,rfl⟩,rfl⟩
 ·rfl
theorem z6z{n:Nat}{env:Env}{A B C E E' G1 G2:Grp}(L:List (Nat × AV))(hE:E=E')(hcl:∀G∈[A,B,C,E'],ltL 4 G.xs)(hL:RB 4 env L):Ent n 0 env (Abs.hl [A,B,C,E,G1,G2]) (Ef L) (Abs.hl [A,B,C,E']):=by
 subst hE;exact F6 (gar:=[G1,G2]) L rfl (Ay _) hcl hL
theorem T4(d:Desc)(r:Rule)(f:Fq)(x:List Int)(hl:x.length<=9223372036854775807)(h32:∀v∈x,-2147483648<=v/\v<=2147483647):PC Tryz.prog 11 [CQ d,QM r,KC f,AE x] (.bool true):=by
 have hA:=Tz;have hG:=Ty d x hl;have pR:=BJ d.rules;have pF:=BB d.finals;have pX:A9 (x.map (AV.int .i32))=true:=Bt .i32 _;have p1:=Bw r.guards;have p2:=BV r.out;have p3:=Bw f.guards;have p4:=BV f.out;cases hgr:(!GL d||(decide (12<x.length)&&decide (x.length<=1024))) with
 |true =>
  rw[hgr] at hG;refine Ct Il ?_;unfold G6;(with_reducible repeat'(first|simp (disch:=omega) only[push_cast,↓zz,seval,pR,pF,pX,p1,p2,p3,p4]|apply Aa|refine sp_ ?_ ?_<;>intro hc<;>push_cast at hc|refine ee hG ?_|refine ee hA ?_|((first|refine cc hG ?_|refine cc hA ?_);(simp(disch:=omega)only[push_cast,↓zz,seval,pR,pF,pX,p1,p2,p3,p4]);(fail_if_success change False))|omega|intro _))
 |false =>
 rw[hgr] at hG
 have hsm:GL d=true:=by
  cases h:GL d with
  |true=>rfl
  |false=>rw[h] at hgr;simp at hgr
 have hsh:=MP hsm;have hR:=I4 d x hsh.fin hl h32 100 (by decide) λ_=>AW (F1 _ _) (by decide)
 have hb:d.rules.length<=80/\d.finals.length<=80:=by
  simp only[GL,Ab,Ag] at hsm;exact hsm.1
 obtain⟨hb1,hb2⟩:=hb;have hS:=MN (Gg d r f);obtain⟨ans,hans⟩:∃a,a=runA d x 100:=⟨_,rfl⟩;rw[<-hans] at hR
 have key:(ans=.tup [G0 (outW d x 0 d.start),.int .i64 0]/\askV d x=0/\(outW d x 0 d.start).length<=100)\/∃e:Int,e≠0/\ans=.tup [.nilS,.int .i64 e]:=by
  rw[hans];by_cases h:askV d x=0
  ·by_cases h2:(outW d x 0 d.start).length<=100
   ·exact .inl ⟨z6u (mo:=100) h (by decide) h2,h,h2⟩
   ·exact .inr ⟨5,by decide,z0v (mo:=100) h (by decide) (Nat.lt_of_not_le h2)⟩
  ·exact .inr ⟨_,h,z6t h⟩
 clear hans;refine zgb Il ?_;unfold G6
 have lC:∀G∈([⟨6,1,true,[CQ d]⟩,⟨5,1,true,[QM r]⟩,⟨3,1,true,[KC f]⟩,⟨6,1,true,[CQ (Gg d r f)]⟩]:List Grp),ltL 4 G.xs:=λG hG=>by
  simp only[Ah,Au,AA] at hG;rcases hG with rfl|rfl|rfl|rfl<;>exact Cm _ _ (by simp[A9,AV.pure,pR,pF,p1,p2,p3,p4,BJ,BB])
 obtain⟨ws,e,rfl,hcase⟩:∃(ws:AV) (e:Int),ans=.tup [ws,.int .i64 e]/\((ws=G0 (outW d x 0 d.start)/\e=0/\askV d x=0/\(outW d x 0 d.start).length<=100)\/ws=.nilS/\e≠0):=by
  rcases key with⟨h1,h2,h3⟩|⟨e,h1,h2⟩
  ·exact⟨_,_,h1,.inl ⟨rfl,rfl,h2,h3⟩⟩
  ·exact⟨_,_,h2,.inr ⟨rfl,h1⟩⟩
 have pws:ws.pure=true:=by
  rcases hcase with⟨rfl,_⟩|⟨rfl,_⟩
  ·simp only[AV.pure];exact Cb _
  ·rfl
 clear key;apply share
 ·intro key
  refine JE (W_T ?_);(with_reducible repeat'(first|simp (disch:=omega) only[push_cast,↓zz,seval]|apply Aa|refine sp_ ?_ ?_<;>intro hc<;>push_cast at hc|omega|intro _));refine JE (W_T ?_);(with_reducible repeat'(first|simp (disch:=omega) only[push_cast,↓zz,seval,pR,pF,pX]|apply Aa|refine sp_ ?_ ?_<;>intro hc<;>push_cast at hc|refine ee hG ?_|(refine cc hG ?_;(simp(disch:=omega)only[push_cast,↓zz,seval,pR,pF,pX]);(fail_if_success change False))|omega|intro _));refine JE (W_T ?_);(with_reducible repeat'(first|simp (disch:=omega) only[push_cast,↓zz,seval,pR,pF,pX,pws]|apply Aa|refine sp_ ?_ ?_<;>intro hc<;>push_cast at hc|refine ee hR ?_|(refine cc hR ?_;(simp(disch:=omega)only[push_cast,↓zz,seval,pR,pF,pX,pws]);(fail_if_success change False))|omega|intro _));refine JE (W_T ?_);(with_reducible repeat'(first|simp (disch:=omega) only[push_cast,↓zz,seval,pR,pF]|apply Aa|refine sp_ ?_ ?_<;>intro hc<;>push_cast at hc|omega|intro _));refine JE (W_T ?_);(with_reducible repeat'(first|simp (disch:=omega) only[push_cast,↓zz,seval]|apply Aa|refine sp_ ?_ ?_<;>intro hc<;>push_cast at hc|omega|intro _));refine Sz [3,4] [] [] (by simp) (by decide) ?_;(with_reducible repeat'(first|simp (disch:=omega) only[push_cast,↓zz,seval,yy,Ah,Au,AA,BZ,CY,Br,D3,D2,pR,pF,p1,p2,p3,p4]|apply Aa|refine sp_ ?_ ?_<;>intro hc<;>push_cast at hc|omega|intro _))
  all_goals refine JE (W_T ?_)
  all_goals (with_reducible repeat'(first|simp (disch:=omega) only[push_cast,↓zz,seval]|apply Aa|refine sp_ ?_ ?_<;>intro hc<;>push_cast at hc|omega|intro _))
  all_goals refine Sz [3,5] [] [] (by simp) (by decide) ?_
  all_goals (with_reducible repeat'(first|simp (disch:=omega) only[push_cast,↓zz,seval,yy,Ah,Au,AA,BZ,CY,Br,D3,D2,pR,pF,p1,p2,p3,p4]|apply Aa|refine sp_ ?_ ?_<;>intro hc<;>push_cast at hc|omega|intro _))
  all_goals
   refine Nk (T3 ⟨rfl,rfl,rfl,rfl⟩ (by simp) (by simp) (by simp[A9,AV.pure,pR,pF,p1,p2,p3,p4,GZ]) (by simp[A9,AV.pure,pR,pF,p1,p2,p3,p4,GZ])) ?_;refine Nk (z6z (E':=⟨6,1,true,[CQ (Gg d r f)]⟩) [(3,AE x),(9,ws),(10,.int .i64 e),(11,.ptr 3 1 0 0)] ?_ lC ⟨rfl,Cf _ _ (by simp only[AV.pure];exact pX),rfl,Cf _ _ pws,rfl,trivial,rfl,(show 3<4 by omega),trivial⟩) key.get
   first
    |rfl
    |(have e1:d.rules=[]:=Ao (by omega)
      have e2:d.finals=[]:=Ao (by omega)
      simp[Gg,e1,e2];done)
    |(have e1:d.rules=[]:=Ao (by omega)
      simp[Gg,e1];done)
    |(have e2:d.finals=[]:=Ao (by omega)
      simp[Gg,e2];done)
    |(simp[Gg];done)
 refine⟨?_⟩;have pRc:=BJ (Gg d r f).rules;have pFc:=BB (Gg d r f).finals;cases hsc:GL (Gg d r f) with
 |false =>
  rw[hsc] at hS;generalize Gg d r f=c at *;refine W_T ?_;(with_reducible repeat'(first|simp (disch:=omega) only[push_cast,↓zz,seval,pRc,pFc,pX,pws]|apply Aa|refine sp_ ?_ ?_<;>intro hc<;>push_cast at hc|refine ee hS ?_|refine ee hA ?_|((first|refine cc hS ?_|refine cc hA ?_);(simp(disch:=omega)only[push_cast,↓zz,seval,pRc,pFc,pX,pws]);(fail_if_success change False))|omega|intro _))
 |true =>
 rw[hsc] at hS;have hsh2:=MP hsc;have hCk:=Oj (Gg d r f) hsh2.fin;rcases hcase with⟨rfl,rfl,hq,hle⟩|⟨rfl,he⟩
 ·by_cases hck:Fa (Gg d r f)=0
  ·rw[hck] at hCk
   have hRel:=λw hw=>RY (Gg d r f) x w hsh2.fin hl h32 hw
   have hW:∀w∈outW d x 0 d.start,w.length<=1000000000:=λw hw=>by
    obtain⟨n,hk⟩:=IR hq;have:=z0r hk hw;omega
   have hYes:=λw (hw:w∈outW d x 0 d.start)=>z6y (r:=r) (f:=f) hq hck hw;have pW:=Cb (outW d x 0 d.start);generalize Gg d r f=c at *;generalize outW d x 0 d.start=W at *;refine W_T ?_;(with_reducible repeat'(first|simp (disch:=omega) only[push_cast,↓zz,seval,pRc,pFc,pX,pW]|apply Aa|refine sp_ ?_ ?_<;>intro hc<;>push_cast at hc|refine ee hS ?_|refine ee hCk ?_|((first|refine cc hS ?_|refine cc hCk ?_);(simp(disch:=omega)only[push_cast,↓zz,seval,pRc,pFc,pX,pW]);(fail_if_success change False))|omega|intro _));refine Bv (B8 (λ(k:Nat)=>k<=W.length) (λk=>W.length-k) (λk=>[(3,AE x),(9,G0 W),(11,.ptr 0 1 0 0),(12,.int .i64 k)]) (λ_=>[⟨6,1,true,[CQ c]⟩]) (λenv _=>[DD 6 (env 11)]) 0 (Ay _) ?_ ?_)
   ·(with_reducible repeat'(first|simp (disch:=omega) only[push_cast,↓zz,seval,pRc,pFc,pX,pW]|apply Aa|refine sp_ ?_ ?_<;>intro hc<;>push_cast at hc|omega|intro _))
   intro k hk;rcases Aj k W.length with hkl|hkl
   ·have hm:=Bo hkl
    have hRk:=hRel _ (hW _ hm);rw[hYes _ hm] at hRk;have pw:A9 ((nth W k).map (AV.int .i32))=true:=Bt .i32 _;generalize hwe:nth W k=w at *;refine W_T ?_;(with_reducible repeat'(first|simp (disch:=omega) only[push_cast,↓zz,seval,pRc,pFc,pX,pW,hwe,pw]|apply Aa|refine sp_ ?_ ?_<;>intro hc<;>push_cast at hc|refine ee hRk ?_|(refine cc hRk ?_;(simp(disch:=omega)only[push_cast,↓zz,seval,pRc,pFc,pX,pW,hwe,pw]);(fail_if_success change False))|omega|intro _))
    all_goals
     refine⟨k+1,?_⟩;(with_reducible repeat'(first|simp (disch:=omega) only[push_cast,↓zz,seval,pRc,pFc,pX,pW]|apply Aa|refine sp_ ?_ ?_<;>intro hc<;>push_cast at hc|omega|intro _))
   ·obtain rfl:k=W.length:=by omega
    refine W_T ?_;(with_reducible repeat'(first|simp (disch:=omega) only[push_cast,↓zz,seval,pRc,pFc,pX,pW]|apply Aa|refine sp_ ?_ ?_<;>intro hc<;>push_cast at hc|refine ee hA ?_|(refine cc hA ?_;(simp(disch:=omega)only[push_cast,↓zz,seval,pRc,pFc,pX,pW]);(fail_if_success change False))|omega|intro _))
  ·have pW:=Cb (outW d x 0 d.start)
   generalize outW d x 0 d.start=W at *;generalize Fa (Gg d r f)=ck at *;generalize Gg d r f=c at *;refine W_T ?_;(with_reducible repeat'(first|simp (disch:=omega) only[push_cast,↓zz,seval,pRc,pFc,pX,pW,hck]|apply Aa|refine sp_ ?_ ?_<;>intro hc<;>push_cast at hc|refine ee hS ?_|refine ee hCk ?_|refine ee hA ?_|((first|refine cc hS ?_|refine cc hCk ?_|refine cc hA ?_);(simp(disch:=omega)only[push_cast,↓zz,seval,pRc,pFc,pX,pW,hck]);(fail_if_success change False))|omega|intro _))
 ·generalize Fa (Gg d r f)=ck at *
  generalize Gg d r f=c at *;refine W_T ?_;(with_reducible repeat'(first|simp (disch:=omega) only[push_cast,↓zz,seval,pRc,pFc,pX,he]|apply Aa|refine sp_ ?_ ?_<;>intro hc<;>push_cast at hc|refine ee hS ?_|refine ee hCk ?_|refine ee hA ?_|((first|refine cc hS ?_|refine cc hCk ?_|refine cc hA ?_);(simp(disch:=omega)only[push_cast,↓zz,seval,pRc,pFc,pX,he]);(fail_if_success change False))|omega|intro _))
  all_goals trace_state
end Go.Proofs.YtbcjoeadpjfcfaaGreat
