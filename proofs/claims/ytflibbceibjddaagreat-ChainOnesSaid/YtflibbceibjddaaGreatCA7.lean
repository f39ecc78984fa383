/-
  Parts of the proof that the law holds whatever the input; without conditions.
-/
import Derived.Shelf.SlSortCmp.WholeK
import Derived.Shelf.Small.Bits
import Derived.Ground.SlsfProg
import Derived.Ground.NamesProg
import Derived.Test.YtflibbceibjddaaGreatProg
import Derived.Test.YtflibbceibjddaaGreatCA6
import Derived.Test.YtflibbceibjddaaGreatCA5
import Derived.Test.YtflibbceibjddaaGreatCA4
set_option linter.unusedSimpArgs false
set_option linter.unusedVariables false
set_option linter.unusedSectionVars false
set_option maxRecDepth 100000
namespace Go.Proofs.YtflibbceibjddaaGreat
open Abs O1 O2 O3
structure zis(d:Desc)(x:List Int)(n:Nat):Prop where
 st:d.states=n
 n1:n<=1024
 start:0<=d.start/\d.start<n
 rl:d.rules.length<=4096
 fl:d.finals.length<=4096
 xl:x.length<=1024
 x32:∀v∈x,-2147483648<=v/\v<=2147483647
 goes:Goes d n
 ff:∀f∈d.finals,0<=f.from_/\f.from_<n
 rb:∀r∈d.rules,(r.guards.length<=1000000/\∀g∈r.guards,g.length<=1000000)/\(r.out.length<=64/\∀t∈r.out,t.parts.length<=1000000)/\0<=r.eat/\r.eat<=1000000
 fb:∀f∈d.finals,(f.guards.length<=1000000/\∀g∈f.guards,g.length<=1000000)/\(f.out.length<=64/\∀t∈f.out,t.parts.length<=1000000)
 cyc:¬cycP d.rules n
def setT(n m:Nat)(S:Nat->Nat->List (List Int)):List AV:=(List.range m).map λp=>JY (S (p / n) (p % n))
section
variable {n m a t:Nat}{S:Nat->Nat->List (List Int)}
theorem z2e:(setT n m S).length=m:=by simp[setT]
theorem QQ:AJ (setT n m S)=true:=Bz.2 λx hx=>by
 obtain⟨i,_,rfl⟩:=Al.1 hx;exact KX _
theorem zcd{z:AV}(ht:t<n)(hp:a * n+t<m):(setT n m S).getD (a * n+t) z=JY (S a t):=by
 rw[setT,Dn hp,Na ht,Nb ht]
theorem zit{v:List (List Int)}(ht:t<n)(hp:a * n+t<m):(setT n m S).set (a * n+t) (JY v)=setT n m (setP S a t v):=by
 rw[setT,E0 hp,setT];refine A6 λp _=>?_;simp only[setP];by_cases e:p=a * n+t
 ·subst e;rw[Ae rfl,Na ht,Nb ht,Ae ⟨rfl,rfl⟩]
 ·rw[Ad e,Ad λh=>e (z1v ht h)]
theorem zce{l:List Grp}:leSL l (List.replicate m .nilS) (setT n m λ_ _=>[]):=by
 have key:∀(f:Nat->Nat)(q:List Nat),leSL l (List.replicate q.length .nilS) (q.map λ_=>JY []):=λ_ q=>by
  induction q with
  |nil=>exact rfl
  |cons a q ih=>exact⟨⟨Nat.one_pos,rfl⟩,ih⟩
 have:=key id (List.range m)
 rwa [C0] at this
end
def outH(d:Desc)(R:AV)(mo n m:Nat)(S:Nat->Nat->List (List Int))(many:Bool):List Grp:=[⟨6,1,true,[C6 d]⟩,⟨1,1,true,[.int .i64 mo]⟩,⟨1,1,true,[R]⟩,⟨1,1,true,setT n m S⟩,⟨1,1,true,[.ref 3 1 0 m]⟩,⟨1,1,true,[.bool many]⟩]
theorem QR{d:Desc}{R:AV}(hR:R.pure=true){mo n m:Nat}{S:Nat->Nat->List (List Int)}{many:Bool}:∀G∈outH d R mo n m S many,ltL 6 G.xs:=λG hG=>by
 simp only[outH,Af,An,A7] at hG;rcases hG with rfl|rfl|rfl|rfl|rfl|rfl
 ·exact BU _ _ (by simp[AJ,J7])
 ·exact⟨oy,oy⟩
 ·exact BU _ _ (by simp[AJ,hR])
 ·exact BU _ _ QQ
 ·exact⟨(show 3<6 by omega),oy⟩
 ·exact⟨oy,oy⟩
theorem z2f{d:Desc}{x:List Int}{S:Nat->Nat->List (List Int)}{at_ s B:Nat}(hB:∀r∈d.rules,r.from_=(s:Nat)->goB x r.guards at_=true->(S (at_+r.eat.toNat) r.to_.toNat).length<=B):∀k,k<=(ruI d.rules s).length->(rulW d x S at_ s k).length<=k * B
 |0,_=>by simp[rulW]
 |k+1,hk=>by
  have ih:=z2f hB k om;obtain⟨i1,i2⟩:=Je.1 (Bi (show k<(ruI d.rules s).length by omega));have e:(k+1) * B=k * B+B:=Nat.succ_mul k B;cases hg:goB x (nth d.rules (nth (ruI d.rules s) k)).guards at_ with
  |true =>
   rw[z2b om rfl hg,Ai,Au];have:=hB _ (Bi i1) i2 hg;omega
  |false =>
   rw[zc8 om rfl hg];omega
def putW(d:Desc)(x:List Int)(S:Nat->Nat->List (List Int))(at_ s k:Nat):List (List Int):=finW d x at_ s (fiI d.finals s).length++rulW d x S at_ s k
def putQ(A:List (List Int))(h:List Int)(W:List (List Int))(q:Nat):List (List Int):=A++(W.take q).map (h++·)
theorem zcf{A:List (List Int)}{h:List Int}{W:List (List Int)}:putQ A h W 0=A:=by simp[putQ]
theorem zcg{A:List (List Int)}{h:List Int}{W:List (List Int)}{q:Nat}(hq:q<W.length):putQ A h W (q+1)=putQ A h W q++[h++nth W q]:=by
 rw[putQ,putQ,take_at hq,Aw,A3];rfl
theorem ziu{A:List (List Int)}{h:List Int}{W:List (List Int)}{q:Nat}:(putQ A h W q).length<=A.length+W.length:=by
 simp[putQ];omega
theorem ziv{d:Desc}{x:List Int}{n:Nat}{ord:List Nat}{L:Nat->Nat->Bool}{mo a j:Nat}{S:Nat->Nat->List (List Int)}(hI:OutI d x L ord mo a j S false)(hl:LivE d x n L)(hg:Goes d n)(ht:Topo d.rules n ord)(hj:j<n)(ha:a<=x.length)(hlv:L a (nth ord j)=true)
 {r:Rule} (hr:r∈d.rules) (hf:r.from_=(nth ord j:Nat)) (hgo:goB x r.guards a=true):S (a+r.eat.toNat) r.to_.toNat=outW d x (a+r.eat.toNat) (r.to_.toNat:Nat)/\(S (a+r.eat.toNat) r.to_.toNat).length<=mo/\L (a+r.eat.toNat) r.to_.toNat=true/\a+r.eat.toNat<=x.length/\r.to_.toNat<n:=by
 obtain⟨_,htt,e1,e2⟩:=hg.r r hr;have hle:=L8 hgo;have hlt:=hl.clos _ _ hlv r hr hf hgo;have h1:=hI.no rfl (a+r.eat.toNat) r.to_.toNat om hlt (YT hg ht hj hr hf);exact⟨h1.1,h1.2,hlt,om,om⟩
theorem zch(d:Desc)(x:List Int){n:Nat}(hk:zis d x n){ord:List Nat}{L:Nat->Nat->Bool}(ht:Topo d.rules n ord)(hl:LivE d x n L)(mo:Nat)(hmo:mo<=9223372036854775807)(hB:Nat.min mo (outW d x 0 d.start).length<=200000)
 (a j:Nat) (S:Nat->Nat->List (List Int)) (many:Bool) (ha:a<=x.length) (hj:j<n) (hI:OutI d x L ord mo a j S many) (hlv:L a (nth ord j)=true) :
 B9 Tryz.prog 62 [.int .i64 a,.int .i64 (nth ord j:Nat),.ptr 5 1 0 0,.ptr 2 1 0 0,.ptr 0 1 0 0,.ptr 4 1 0 0,.ptr 1 1 0 0]
  (Abs.hl (outH d (Fe d x (ruV d.rules n) (fiV d.finals n) (.lst 1 (ord.map e1)) (.lst 1 (lvB n ((x.length+1) * n) L))) mo n ((x.length+1) * n) S many)) λy H'=>y=.tup []/\∃(s':(Nat->Nat->List (List Int)) × Bool),
   H'=Abs.hl (outH d (Fe d x (ruV d.rules n) (fiV d.finals n) (.lst 1 (ord.map e1)) (.lst 1 (lvB n ((x.length+1) * n) L))) mo n ((x.length+1) * n) s'.1 s'.2)/\OutI d x L ord mo a (j+1) s'.1 s'.2:=by
 have pR:=BJ d.rules;have pFi:=BD d.finals;have pX:=Gb x;have pO:AJ (ord.map e1)=true:=Fg (λ_=>rfl) _;have pL:AJ (lvB n ((x.length+1) * n) L)=true:=Pi;have pRU:AJ (fD 1 e1 n (ruI d.rules))=true:=GT λ_=>rfl;have pFI:AJ (fD 1 e1 n (fiI d.finals))=true:=GT λ_=>rfl;have lRU:(fD 1 e1 n (ruI d.rules)).length=n:=z1s;have lFI:(fD 1 e1 n (fiI d.finals)).length=n:=z1s;have hdn:=hk.st;have hn:=hk.n1;have hx:=hk.xl;have hol:=FD ht;have htn:nth ord j<n:=(ht.all _).1 (Bi om);have hgoes:=hk.goes;have hmx:(x.length+1) * n<=1025 * 1024:=CS om hn;have hpm:=Il htn ha;unfold ruV fiV;refine EU (IK PS (W_T ?_));unfold Kq;cases many with
 |true =>
  generalize fD 1 e1 n (ruI d.rules)=RU at *;generalize fD 1 e1 n (fiI d.finals)=FI at *;unfold outH;refine ywA ?_
  all_goals exact⟨_,_,Ent.refl,rfl,(S,true),rfl,zbw hI _ _⟩
 |false =>
  have hto:=λr hr hf hgo=>ziv hI hl hgoes ht hj ha hlv (r:=r) hr hf hgo
  have hSB:∀r∈d.rules,r.from_=(nth ord j:Nat)->goB x r.guards a=true->(S (a+r.eat.toNat) r.to_.toNat).length<=200000:=λr hr hf hgo=>by
   obtain⟨h1,h2,h3,h4,h5⟩:=hto r hr hf hgo;have h6:=zig hl hgoes ht hk.start h3;rw[<-h1] at h6;exact Bl (Nat.le_min.2 ⟨h2,h6⟩) hB
  have hwl:∀r∈d.rules,r.from_=(nth ord j:Nat)->goB x r.guards a=true->∀w∈S (a+r.eat.toNat) r.to_.toNat,w.length<=100000000:=λr hr hf hgo w hw=>by
   obtain⟨h1,h2,h3,h4,h5⟩:=hto r hr hf hgo;rw[h1] at hw;exact z1w hgoes ht ⟨λr hr=>(hk.rb r hr).2.1.1,λf hf=>(hk.fb f hf).2.1⟩ hn hx h4 h5 (((QL hgoes ht h4 h5).2 w).1 hw)
  have hMeq:=zpn hI hl hgoes ht hj ha hlv;rw[<-zc9] at hMeq;have hnext:=zby hI hl hgoes ht hj ha hlv (M:=Lv (allW d x S a (nth ord j))) hMeq;have hRL:=z2f (d:=d) (x:=x) (S:=S) (at_:=a) (s:=nth ord j) hSB;have aR:(fD 1 e1 n (ruI d.rules)).getD (nth ord j) .any=.lst 1 ((ruI d.rules (nth ord j)).map e1):=zi3 htn;have aR2:(fD 1 e1 n (ruI d.rules))[nth ord j]? = some (.lst 1 ((ruI d.rules (nth ord j)).map e1)):=z1t htn;have aF:(fD 1 e1 n (fiI d.finals)).getD (nth ord j) .any=.lst 1 ((fiI d.finals (nth ord j)).map e1):=zi3 htn;have aF2:(fD 1 e1 n (fiI d.finals))[nth ord j]? = some (.lst 1 ((fiI d.finals (nth ord j)).map e1)):=z1t htn;have pRI:AJ ((ruI d.rules (nth ord j)).map e1)=true:=Fg (λ_=>rfl) _;have pFJ:AJ ((fiI d.finals (nth ord j)).map e1)=true:=Fg (λ_=>rfl) _;have hrI:=YO d.rules (nth ord j);have hfI:=zpo d.finals (nth ord j);have hrl:=hk.rl;have hfl:=hk.fl;have pST:AJ (setT n ((x.length+1) * n) S)=true:=QQ;have lST:(setT n ((x.length+1) * n) S).length=(x.length+1) * n:=z2e;have aST:∀b t,b<=x.length->t<n->(setT n ((x.length+1) * n) S).getD (b * n+t) .any=JY (S b t):=λb t hb htn=>zcd htn (Il htn hb);have sST:=λv=>zit (v:=v) (S:=S) htn hpm;have pl:∀b t,b<=x.length->t<n->b * n+t<(x.length+1) * n:=λb t hb htn=>Il htn hb;generalize hRUe:fD 1 e1 n (ruI d.rules)=RU at *;generalize hFIe:fD 1 e1 n (fiI d.finals)=FI at *;generalize hme:(x.length+1) * n=m at *;generalize hLVe:lvB n m L=LV at *;generalize hODe:ord.map e1=OD at *;have hEnds:=λ(f:DO) (hf:f∈d.finals)=>zhz d x (.lst 1 RU) (.lst 1 FI) (.lst 1 OD) (.lst 1 LV) f a pRU pFI pO pL om hk.x32 (hk.fb f hf).1.2 (hk.fb f hf).1.1 om;have hWf:=λ(f:DO) (hf:f∈d.finals) (hgo:goB x f.guards a=true)=>SL d x (.lst 1 RU) (.lst 1 FI) (.lst 1 OD) (.lst 1 LV) f.out a f.guards.length pRU pFI pO pL om hk.x32 (by have:=(hk.fb f hf).2.1;omega) (hk.fb f hf).2.2 (by have:=L8 hgo;omega);have hFits:=λ(r:Rule) (hr:r∈d.rules)=>Uu d x (.lst 1 RU) (.lst 1 FI) (.lst 1 OD) (.lst 1 LV) r.guards a pRU pFI pO pL om hk.x32 (hk.rb r hr).1.2 (hk.rb r hr).1.1 om;have hWr:=λ(r:Rule) (hr:r∈d.rules) (hgo:goB x r.guards a=true)=>SL d x (.lst 1 RU) (.lst 1 FI) (.lst 1 OD) (.lst 1 LV) r.out a r.guards.length pRU pFI pO pL om hk.x32 (by have:=(hk.rb r hr).2.1.1;omega) (hk.rb r hr).2.1.2 (by have:=L8 hgo;omega);have pRn:(Fe d x (.lst 1 RU) (.lst 1 FI) (.lst 1 OD) (.lst 1 LV)).pure=true:=by simp[AV.pure,AJ,pR,pFi,pX,pO,pL,pRU,pFI]
  have hcl:=λS many=>QR (d:=d) (R:=Fe d x (.lst 1 RU) (.lst 1 FI) (.lst 1 OD) (.lst 1 LV)) pRn (mo:=mo) (n:=n) (m:=m) (S:=S) (many:=many);generalize nth ord j=s at *;obtain⟨F,hF⟩:∃F,F=finW d x a s (fiI d.finals s).length:=⟨_,rfl⟩;have hFlen:F.length<=4096:=by rw[hF];have:=z2c (d:=d) (x:=x) (at_:=a) (s:=s) (k:=(fiI d.finals s).length);omega
  unfold outH;generalize hSTe:setT n m S=ST at *;have f_:=Aa pO (Aa pL (Aa pRU (Aa pFI (Aa aF (Aa aF2 (Aa lFI (Aa pST lST)))))));refine ywB ?_;clear f_
  refine Ba (B7 (λ(k:Nat)=>k<=(fiI d.finals s).length) (λk=>(fiI d.finals s).length-k)
   (λk=>[(0,.int .i64 a),(1,.int .i64 s),(2,.ptr 5 1 0 0),(3,.ptr 2 1 0 0),(4,.ptr 0 1 0 0),(5,.ptr 4 1 0 0),(6,.ptr 1 1 0 0),(9,.ref 6 1 0 (finW d x a s k).length),(26,.lst 1 ((fiI d.finals s).map e1)),(27,.int .i64 (fiI d.finals s).length),(28,.int .i64 k)])
   (λk=>[⟨6,1,true,[C6 d]⟩,⟨1,1,true,[.int .i64 mo]⟩,⟨1,1,true,[Fe d x (.lst 1 RU) (.lst 1 FI) (.lst 1 OD) (.lst 1 LV)]⟩,⟨1,1,true,ST⟩,⟨1,1,true,[.ref 3 1 0 m]⟩,⟨1,1,true,[.bool false]⟩,⟨1,1,false,(finW d x a s k).map Bp⟩]) (λenv _=>[D4 1 (env 9)]) 0 (Ap _) ?_ ?_)
  ·(with_reducible repeat'(first|simp(disch:=omega)only[push_cast,↓zz,seval,pO,pL,pRU,pFI,pST,pFJ,zc6,List.length_nil,AX]|refine sp_ ?_ ?_<;>try(intro hc;push_cast at hc)|omega|intro _))
  intro k hkk;rcases Aj k (fiI d.finals s).length with hkl|hkl
  ·obtain⟨i,hi⟩:∃i,i=nth (fiI d.finals s) k:=⟨_,rfl⟩
   have him:i∈fiI d.finals s:=by rw[hi];exact Bi hkl
   obtain⟨i1,i2⟩:=YW.1 him;have aI:((fiI d.finals s).map e1).getD k .any=.int .i64 i:=by rw[hi];simp[nth,List.getD,hkl]
   have hE:=hEnds _ (Bi i1);have hW:=hWf _ (Bi i1);have hyes:=λf hf h=>zil (d:=d) (x:=x) (at_:=a) (s:=s) hkl (f:=f) hf h;have hno:=λf hf h=>zpp (d:=d) (x:=x) (at_:=a) (s:=s) hkl (f:=f) hf h;rw[<-hi] at hyes hno;have hyes:=hyes _ rfl;have hno:=hno _ rfl;have hlen:=z2c (d:=d) (x:=x) (at_:=a) (s:=s) (k:=k);generalize hfe:nth d.finals i=f at *;generalize finW d x a s k=A at *;cases hb:(decide (f.guards.length+a=x.length)&&goB x f.guards a) with
   |true =>
    rw[hb] at hE;have hyes:=hyes hb;have hgo:goB x f.guards a=true:=by simp only[Ac] at hb;exact hb.2
    have hW:=hW hgo;rw[show Gv f.out ((x.drop a).take f.guards.length)=GR x f.out f.guards a from rfl] at hW;generalize GR x f.out f.guards a=w at *;refine W_T ?_;have f_:=Aa pO (Aa pL (Aa pRU (Aa pFI (Aa pST (Aa pFJ (Aa aI hfe))))));have e_:=hE;have e_1:=hW;refine ywD ?_;clear f_ e_ e_1
    all_goals
     refine⟨k+1,?_⟩;have f_:=Aa pO (Aa pL (Aa pRU (Aa pFI (Aa pST (Aa pFJ hyes)))));exact gwB
   |false =>
    rw[hb] at hE;have hno:=hno hb;refine W_T ?_;have f_:=Aa pO (Aa pL (Aa pRU (Aa pFI (Aa pST (Aa pFJ (Aa aI hfe))))));have e_:=hE;refine ywD ?_;clear f_ e_
    all_goals
     refine⟨k+1,?_⟩;have f_:=Aa pO (Aa pL (Aa pRU (Aa pFI (Aa pST (Aa pFJ hno)))));exact gwB
  obtain rfl:k=(fiI d.finals s).length:=om
  rw[<-hF];have hP0:putW d x S a s 0=F:=by rw[putW,zc7,Ax,hF]
  refine W_T ?_;have f_:=Aa pO (Aa pL (Aa pRU (Aa pFI (Aa pST (Aa pFJ (Aa aR (Aa aR2 lRU)))))));refine ywB ?_;clear f_
  refine Ba (B7 (λ(k:Nat)=>k<=(ruI d.rules s).length) (λk=>(ruI d.rules s).length-k)
   (λk=>[(0,.int .i64 a),(1,.int .i64 s),(2,.ptr 5 1 0 0),(3,.ptr 2 1 0 0),(4,.ptr 0 1 0 0),(5,.ptr 4 1 0 0),(6,.ptr 1 1 0 0),(9,.ref 6 1 0 (putW d x S a s k).length),(59,.lst 1 ((ruI d.rules s).map e1)),(60,.int .i64 (ruI d.rules s).length),(61,.int .i64 k)])
   (λk=>[⟨6,1,true,[C6 d]⟩,⟨1,1,true,[.int .i64 mo]⟩,⟨1,1,true,[Fe d x (.lst 1 RU) (.lst 1 FI) (.lst 1 OD) (.lst 1 LV)]⟩,⟨1,1,true,ST⟩,⟨1,1,true,[.ref 3 1 0 m]⟩,⟨1,1,true,[.bool false]⟩,⟨1,1,false,(putW d x S a s k).map Bp⟩]) (λenv _=>[D4 1 (env 9)]) 0 (Ap _) ?_ ?_)
  ·have f_:=Aa pO (Aa pL (Aa pRU (Aa pFI (Aa pST (Aa pRI hP0)))));exact gwB
  intro k hkk;have hRk:=hRL k hkk
  have hlk:(putW d x S a s k).length<=900000000:=by
   rw[putW,Ai,<-hF];have:k * 200000<=4096 * 200000:=Bf _ om;omega
  rcases Aj k (ruI d.rules s).length with hkl|hkl
  ·obtain⟨i,hi⟩:∃i,i=nth (ruI d.rules s) k:=⟨_,rfl⟩
   have him:i∈ruI d.rules s:=by rw[hi];exact Bi hkl
   obtain⟨i1,i2⟩:=Je.1 him;have aI:((ruI d.rules s).map e1).getD k .any=.int .i64 i:=by rw[hi];simp[nth,List.getD,hkl]
   have hr:=Bi i1;have hE:=hFits _ hr;have hW:=hWr _ hr;have hyes:=λr hf h=>z2b (d:=d) (x:=x) (S:=S) (at_:=a) (s:=s) hkl (r:=r) hf h;have hno:=λr hf h=>zc8 (d:=d) (x:=x) (S:=S) (at_:=a) (s:=s) hkl (r:=r) hf h;rw[<-hi] at hyes hno;have hyes:=hyes _ rfl;have hno:=hno _ rfl;have hto:=hto _ hr i2;have hSB:=hSB _ hr i2;have hwl:=hwl _ hr i2;obtain⟨_,htt,e1',e2'⟩:=hgoes.r _ hr;have heb:=(hk.rb _ hr).2.2;have hol:=(hk.rb _ hr).2.1.1;generalize hre:nth d.rules i=r at *;obtain⟨e,he⟩:∃e:Nat,r.eat=e:=⟨r.eat.toNat,om⟩;obtain⟨t,htq⟩:∃t:Nat,r.to_=t:=⟨r.to_.toNat,om⟩;have het:r.eat.toNat=e:=om
   have htt2:r.to_.toNat=t:=om
   rw[het,htt2] at hyes hto hSB hwl;generalize hAe:putW d x S a s k=A at *;cases hb:goB x r.guards a with
   |false =>
    rw[hb] at hE;have hno:putW d x S a s (k+1)=A:=by rw[putW,hno hb];exact hAe
    refine W_T ?_;have f_:=Aa pO (Aa pL (Aa pRU (Aa pFI (Aa pST (Aa pRI (Aa aI hre))))));have e_:=hE;refine ywD ?_;clear f_ e_
    all_goals
     refine⟨k+1,?_⟩;have f_:=Aa pO (Aa pL (Aa pRU (Aa pFI (Aa pST (Aa pRI hno)))));exact gwB
   |true =>
    rw[hb] at hE;have hyes:=hyes hb;have hW:=hW hb;obtain⟨h1,h2,h3,h4,h5⟩:=hto hb;have hSB:=hSB hb;have hwl:=hwl hb;have hle:=L8 hb;have hhl:(GR x r.out r.guards a).length<=64:=by simp[GR,Gv];omega
    rw[show Gv r.out ((x.drop a).take r.guards.length)=GR x r.out r.guards a from rfl] at hW;have hAn:putW d x S a s (k+1)=putQ A (GR x r.out r.guards a) (S (a+e) t) (S (a+e) t).length:=by rw[putW,hyes,<-A3,putQ,As,<-hAe];rfl
    have aT:=aST (a+e) t h4 h5;have hpl:=pl (a+e) t h4 h5;have hae:(a:Int)+(e:Int)=((a+e:Nat):Int):=by norm_cast
    have hmul:((a+e:Nat):Int) * (n:Int)=(((a+e) * n:Nat):Int):=by norm_cast
    have hmulb:(a+e) * n<=1024 * 1024:=CS om hn;generalize GR x r.out r.guards a=h at *;generalize S (a+e) t=Wd at *;generalize hpe:(a+e) * n+t=p at *;generalize (a+e) * n=an at *;have hpi:(an:Int)+(t:Int)=(p:Int):=om
    generalize hbe:a+e=b at *;refine W_T ?_;have f_:=Aa pO (Aa pL (Aa pRU (Aa pFI (Aa pST (Aa lST (Aa pRI (Aa aI (Aa hre (Aa he (Aa htq (Aa hae (Aa hdn (Aa hmul (Aa hpi aT))))))))))))));have e_:=hE;have e_1:=hW;refine ywD ?_;clear f_ e_ e_1
    refine Ba (B7 (λ(q:Nat)=>q<=Wd.length) (λq=>Wd.length-q)
     (λq=>[(0,.int .i64 a),(1,.int .i64 s),(2,.ptr 5 1 0 0),(3,.ptr 2 1 0 0),(4,.ptr 0 1 0 0),(5,.ptr 4 1 0 0),(6,.ptr 1 1 0 0),(9,.ref 6 1 0 (putQ A h Wd q).length),(16,Bp h),(59,.lst 1 ((ruI d.rules s).map e1)),(60,.int .i64 (ruI d.rules s).length),(61,.int .i64 k),(96,JY Wd),(97,.int .i64 Wd.length),(98,.int .i64 q)])
     (λq=>[⟨6,1,true,[C6 d]⟩,⟨1,1,true,[.int .i64 mo]⟩,⟨1,1,true,[Fe d x (.lst 1 RU) (.lst 1 FI) (.lst 1 OD) (.lst 1 LV)]⟩,⟨1,1,true,ST⟩,⟨1,1,true,[.ref 3 1 0 m]⟩,⟨1,1,true,[.bool false]⟩,⟨1,1,false,(putQ A h Wd q).map Bp⟩]) (λenv _=>[D4 1 (env 9)]) 0 (Ap _) ?_ ?_)
    ·(with_reducible repeat'(first|simp(disch:=omega)only[push_cast,↓zz,seval,pO,pL,pRU,pFI,pST,pRI,zcf]|refine sp_ ?_ ?_<;>try(intro hc;push_cast at hc)|omega|intro _))
    intro q hq;have hAq:(putQ A h Wd q).length<=901000000:=by have:=ziu (A:=A) (h:=h) (W:=Wd) (q:=q);omega
    rcases Aj q Wd.length with hql|hql
    ·have hC:=U6 h (nth Wd q) (by have:=hwl _ (Bi hql);omega)
     have hnx:=zcg (A:=A) (h:=h) hql;generalize hwe:nth Wd q=w at *;generalize hAqe:putQ A h Wd q=A2 at *;generalize hve:h++w=v at *;refine W_T ?_;have f_:=Aa pO (Aa pL (Aa pRU (Aa pFI (Aa pST (Aa pRI hwe)))));have e_:=hC;refine ywD ?_;clear f_ e_
     all_goals
      refine⟨q+1,?_⟩;have f_:=Aa pO (Aa pL (Aa pRU (Aa pFI (Aa pST (Aa pRI hnx)))));exact gwB
    ·obtain rfl:q=Wd.length:=om
     rw[<-hAn] at *;refine W_T ?_;have f_:=Aa pO (Aa pL (Aa pRU (Aa pFI (Aa pST pRI))));refine ywB ?_;clear f_
     all_goals
      refine⟨k+1,?_⟩;have f_:=Aa pO (Aa pL (Aa pRU (Aa pFI (Aa pST pRI))));exact gwB
  ·obtain rfl:k=(ruI d.rules s).length:=om
   have hall:putW d x S a s (ruI d.rules s).length=allW d x S a s:=rfl;have hlk:(allW d x S a s).length<=900000000:=hlk;rw[hall]
   have hSo:=zcc (allW d x S a s) om (λw hw=>by
    have h1:w∈outW d x a (s:Nat):=by rw[<-hMeq,KB];exact hw
    have h2:w.length<=100000000:=z1w hgoes ht ⟨λr hr=>(hk.rb r hr).2.1.1,λf hf=>(hk.fb f hf).2.1⟩ hn hx ha htn (((QL hgoes ht ha htn).2 w).1 h1)
    exact Bl h2 ox)
   have hML:=W6 (allW d x S a s);generalize allW d x S a s=A at *;generalize Lv A=M at *;have hmul:(a:Int) * (n:Int)=((a * n:Nat):Int):=by norm_cast
   have hmulb:a * n<=1024 * 1024:=CS om hn;have sM:=sST M;generalize hpe:a * n+s=p at *;generalize a * n=an at *;have hpi:(an:Int)+(s:Int)=(p:Int):=om
   have hdec:decide ((mo:Int)<(M.length:Int))=decide (mo<M.length):=Dv.2 om;refine W_T ?_;have f_:=Aa pO (Aa pL (Aa pRU (Aa pFI (Aa pST (Aa lST (Aa hdn (Aa hmul (Aa hpi sM))))))));have e_:=hSo;refine ywD ?_;clear f_ e_;rw[hdec];exact⟨_,_,IU (l0:=outH d (Fe d x (.lst 1 RU) (.lst 1 FI) (.lst 1 OD) (.lst 1 LV)) mo n m (setP S a s M) (decide (mo<M.length))) (gar:=[⟨0,2,false,[]⟩]) rfl (Ab _) (hcl _ _) trivial,rfl,(setP S a s M,decide (mo<M.length)),rfl,hnext⟩
theorem Za{P:Program}{f:Nat}{xs:List AV}{l l':List Grp}{K:AV->A4->Prop}(h:B9 P f xs (Abs.hl l') K)(hle:IM l l l'):B9 P f xs (Abs.hl l) K:=⟨h.1,λS cargs hS hx=>h.2 S cargs (Jn hS hle) hx⟩
noncomputable def outA (d:Desc) (x:List Int) (mo:Nat):AV:=if (outW d x 0 d.start).length<=mo then .tup [JY (outW d x 0 d.start),.int .i64 0] else .tup [.nilS,.int .i64 5]
theorem ziw{d:Desc}{x:List Int}{n:Nat}(hk:zis d x n):B9 Tryz.prog 60 [C6 d,Bp x] (Abs.hl []) λy H'=>H'=Abs.hl []/\∃ord L,y=Fe d x (ruV d.rules n) (fiV d.finals n) (.lst 1 (ord.map e1)) (.lst 1 (lvB n ((x.length+1) * n) L))/\Topo d.rules n ord/\LivE d x n L :=
 zc2 d x hk.st hk.n1 hk.rl hk.fl hk.start hk.goes hk.cyc hk.ff hk.xl hk.x32 λr hr=>⟨(hk.rb r hr).1,(hk.rb r hr).2.2⟩
theorem Zb(d:Desc)(x:List Int){n:Nat}(hk:zis d x n)(hq:PC Tryz.prog 59 [C6 d,Bp x] (.int .i64 0))(mo:Nat)(h1:1<=mo)(hmo:mo<=9223372036854775807)(hB:Nat.min mo (outW d x 0 d.start).length<=200000):
 PC Tryz.prog 23 [C6 d,Bp x,.int .i64 mo] (outA d x mo):=by
 have pR:=BJ d.rules;have pFi:=BD d.finals;have pX:=Gb x;have hBe:=ziw hk;have hdn:=hk.st;refine Cd JN ?_;unfold Ie;have e_:=hq;refine ywC ?_;clear e_
 (refine at_c [] (hBe) ox oc (by refine⟨?_,?_,?_,?_⟩<;>(simp(disch:=omega)only[push_cast,↓zz,seval,Af,An,A7,B6,Cr,BG])) ?_)
 rintro y H' ⟨rfl,ord,L,rfl,ht,hl⟩;refine⟨_,rfl,oc,?_⟩;have hmx:(x.length+1) * n<=1025 * 1024:=CS (by have:=hk.xl;omega) hk.n1;have pO:AJ (ord.map e1)=true:=Fg (λ_=>rfl) _;have pL:AJ (lvB n ((x.length+1) * n) L)=true:=Pi;have lL:(lvB n ((x.length+1) * n) L).length=(x.length+1) * n:=Mk;have pRU:AJ (fD 1 e1 n (ruI d.rules))=true:=GT λ_=>rfl;have pFI:AJ (fD 1 e1 n (fiI d.finals))=true:=GT λ_=>rfl;have pRn:(Fe d x (ruV d.rules n) (fiV d.finals n) (.lst 1 (ord.map e1)) (.lst 1 (lvB n ((x.length+1) * n) L))).pure=true:=by simp[AV.pure,AJ,pR,pFi,pX,pO,pL,pRU,pFI,ruV,fiV]
 have hbk:=zio (σ:=(Nat->Nat->List (List Int)) × Bool) d x (ruV d.rules n) (fiV d.finals n) pRU pFI hdn hk.n1 hk.xl ht (L:=L) 62 [.ptr 5 1 0 0,.ptr 2 1 0 0,.ptr 0 1 0 0,.ptr 4 1 0 0,.ptr 1 1 0 0] 6
  (λs=>outH d (Fe d x (ruV d.rules n) (fiV d.finals n) (.lst 1 (ord.map e1)) (.lst 1 (lvB n ((x.length+1) * n) L))) mo n ((x.length+1) * n) s.1 s.2) (λ_=>rfl) (λ_=>QR pRn) ⟨(show 5<6 by omega),(show 2<6 by omega),(show 0<6 by omega),(show 4<6 by omega),(show 1<6 by omega),oy⟩
  (λa j s=>OutI d x L ord mo a j s.1 s.2) ((λ_ _=>[]),false) (zbv (FD ht)) (λa j s ha hj hI hlv=>zch d x hk ht hl mo hmo hB a j s.1 s.2 ha hj hI hlv)
  (λa j s ha hj hI hlv=>zbx hI (by rw[FD ht];exact hj) hlv) (λa s ha hI=>zie hI hl ht)
 generalize hm:(x.length+1) * n=m at *;have f_:=lL;refine ywB ?_;clear f_;refine Za (B9.mono hbk ?_) ?_
 rotate_left
 ·unfold outH
  refine⟨⟨rfl,rfl,id,AN _ _⟩,⟨rfl,rfl,id,AN _ _⟩,⟨rfl,rfl,id,AN _ _⟩,⟨rfl,rfl,id,zce (n:=n)⟩,⟨rfl,rfl,id,AN _ _⟩,⟨rfl,rfl,id,AN _ _⟩,oy⟩
 rintro y H' ⟨rfl,⟨S,many⟩,rfl,hI⟩;simp only at hI ⊢;obtain⟨g1,g2⟩:=zif hI hl hk.goes ht hk.start;unfold outH;have hst:=hk.start;obtain⟨s0,hs0⟩:∃s0:Nat,d.start=s0:=⟨d.start.toNat,om⟩;have hsn:s0<n:=om
 have hsm:0 * n+s0<m:=by rw[<-hm];exact Il hsn (Ap _)
 have aS:(setT n m S).getD s0 .any=JY (S 0 s0):=by
  have:=zcd (S:=S) (z:=.any) hsn hsm
  rwa [Ft,AY] at this
 have lS:(setT n m S).length=m:=z2e;have pS:AJ (setT n m S)=true:=QQ;have hsm2:s0<m:=om
 unfold outA;cases many with
 |true =>
  rw[Ad (by have:=of_decide_eq_true g1.symm;omega)];exact gwA
 |false =>
  have g2:=g2 rfl;rw[Ae (by have:=of_decide_eq_false g1.symm;omega),<-g2,show d.start.toNat=s0 by omega];have f_:=Aa hs0 (Aa aS (Aa lS pS));exact gwB
def zuu(l:List Bool)(k:Nat):List Int:=((List.range k).filter λi=>nth l i).map λi:Nat=>(i:Int)
noncomputable def zuv (d:Desc):List Int:=zuu (comeL d) d.states.toNat
noncomputable def goesI (d:Desc):List Int:=zuu (goL d) d.states.toNat
theorem WS(l:List Term)(h0:l≠[])(hl:l.length<=1000000000000):B9 Tryz.prog 174 [C5 l] (Abs.hl []) λy H'=>y=.ref 0 2 0 l.length/\H'=Abs.hl [⟨6,2,false,l.map C9⟩]:=by
 refine Gh (b:=0) Eh rfl ?_;unfold Dc
 have hne:(l.map C9).isEmpty=false:=by
  cases l with
  |nil=>exact absurd rfl h0
  |cons _ _=>rfl
 have f_:=hne;exact gwB
noncomputable def zix (d:Desc) (i:Nat):Bool:=z1m (fwdE d) [d.start] i&&z1m (bwdE d) (endE d) i
def cntB(u:Nat->Bool)(k:Nat):Nat:=((List.range k).filter u).length
def numB(u:Nat->Bool)(i:Nat):Int:=if u i=true then (cntB u i:Int) else -1
def keepR(u:Nat->Bool)(l:List Rule):List Rule:=(l.filter λr=>u r.from_.toNat&&u r.to_.toNat).map λr=>⟨numB u r.from_.toNat,numB u r.to_.toNat,r.guards,r.eat,r.out⟩
def keepF(u:Nat->Bool)(l:List DO):List DO:=(l.filter λf=>u f.from_.toNat).map λf=>⟨numB u f.from_.toNat,f.guards,f.out⟩
noncomputable def trimV (d:Desc):Desc :=
 if z1m (bwdE d) (endE d) d.start.toNat=false then zuk d.in_ d.out
 else ⟨d.in_,d.out,cntB (zix d) d.states.toNat,numB (zix d) d.start.toNat,keepR (zix d) d.rules,keepF (zix d) d.finals⟩
theorem Nf(u:Nat->Bool)(k:Nat):cntB u (k+1)=if u k=true then cntB u k+1 else cntB u k:=by
 simp only[cntB,Dh,BZ,Ai,BV,List.filter_nil];split<;>simp_all
theorem zci{s x:Int}(h:memL (domL s) x):Fo s [[⟨x,x⟩]]=true:=by
 have hb:=(zhw s).2 x h
 have hm:Hs [⟨x,x⟩] (domL s)=[]:=(QH (λv hv=>by obtain⟨t,ht,h1,h2⟩:=hv;simp only[Am] at ht;subst ht;simp only at h1 h2;omega) (λt ht=>by simp only[Am] at ht;subst ht;simp)).2 λv hv=>by
  obtain⟨t,ht,h1,h2⟩:=hv;simp only[Am] at ht;subst ht;simp only at h1 h2;have:v=x:=om
  rw[this];exact h
 have hc:L6 (-1073741826) [⟨x,x⟩]=true:=by simp[L6];omega
 simp[Fo,K6,hm,SE,hc]
section
variable {d:Desc}
end
structure Trimmed(c:Desc):Prop where
 check:FB c=0
 again:trimV c=c
 all:((zuv c).length=c.states.toNat/\(goesI c).length=c.states.toNat)\/(c.states=1/\c.rules=[]/\c.finals=[])
theorem QS{d:Desc}(h:FB d=0):K8 d:=by
 obtain⟨h1,h2,h3⟩:=ET h;refine⟨λr hr t ht=>?_,λf hf t ht=>?_⟩
 ·have:=h2 r hr
  simp only[Kh,Ac] at this;have:=(IS this.2.2.2.2).2 t ht;omega
 ·have:=h3 f hf
  simp only[Ht,Ac] at this;have:=(IS this.2.2).2 t ht;omega
section
variable {α β:Type}[Inhabited α]
variable {W:Nat->List α}{g:Nat->α->List β}
end
structure WayOk(n:Nat)(w:Int × List Term):Prop where
 e:0<=w.1/\w.1<n
 l:w.2.length<=70000
 p:∀t∈w.2,t.parts.length<=4
abbrev pathV(p:List Nat):AV:=.lst 1 (p.map e1)
def resV:Option (List Nat)->AV
 |some x=>pathV x
 |none=>.nilS
theorem WT{u v:Nat->Bool}:∀{n:Nat},(∀i,i<n->u i=v i)->cntB u n=cntB v n
 |0,_=>rfl
 |n+1,h=>by rw[Nf,Nf,h n om,WT λi hi=>h i om]
theorem z2g{on:Nat->Bool}{s:Nat}(ho:on s=false):∀{n:Nat},s<n->cntB (setB on s) n=cntB on n+1
 |n+1,h=>by
  rw[Nf,Nf];by_cases hs:s=n
  ·subst hs
   rw[Ae (by simp[setB]),Ad (by simp[ho]),WT (u:=setB on s) (v:=on) λi hi=>by simp[setB];omega]
  ·have:=z2g ho (n:=n) om
   have e:setB on s n=on n:=by simp[setB];omega
   rw[e];split<;>omega
structure RInv(n:Nat)(F:List Int)(E:List (Int × Int))(on:Nat->Bool):Prop where
 sound:∀i:Nat,on i=true->Reach E F i
 base:∀s∈F,on s.toNat=true
theorem RInv.set{n:Nat}{F:List Int}{E:List (Int × Int)}{on:Nat->Bool}(h:RInv n F E on){x y:Nat}(hx:on x=true)(he:((x:Int),(y:Int))∈E):RInv n F E (setB on y) where
 sound i hi:=by
  unfold setB at hi;split at hi
  ·rename_i e;subst e;exact .step (h.sound x hx) he
  ·exact h.sound i hi
 base s hs:=by
  unfold setB;split
  ·rfl
  ·exact h.base s hs
structure RIn(n:Nat)(F:List Int)(E:List (Int × Int))(on0 on:Nat->Bool)(more:Bool)(i:Nat):Prop where
 inv:RInv n F E on
 no:more=false->on=on0/\∀j,j<i->on (nth E j).1.toNat=true->on (nth E j).2.toNat=true
 yes:more=true->cntB on0 n<cntB on n
theorem RIn.start{n:Nat}{F:List Int}{E:List (Int × Int)}{on:Nat->Bool}(h:RInv n F E on):RIn n F E on on false 0 :=
 ⟨h,λ_=>⟨rfl,λj hj=>absurd hj (AZ j)⟩,λh=>by cases h⟩
theorem RIn.skip{n i:Nat}{F:List Int}{E:List (Int × Int)}{on0 on:Nat->Bool}{more:Bool}(h:RIn n F E on0 on more i){x y:Nat}(he:nth E i=((x:Int),(y:Int)))(hs:on x=true->on y=true):RIn n F E on0 on more (i+1):=by
 refine⟨h.inv,λhm=>⟨(h.no hm).1,λj hj=>?_⟩,h.yes⟩;by_cases e:j=i
 ·subst e;rw[he];simpa using hs
 ·exact (h.no hm).2 j om
theorem RIn.take{n i:Nat}{F:List Int}{E:List (Int × Int)}{on0 on:Nat->Bool}{more:Bool}(h:RIn n F E on0 on more i){x y:Nat}(he:((x:Int),(y:Int))∈E)(hx:on x=true)(hy:on y=false)(hyn:y<n):RIn n F E on0 (setB on y) true (i+1):=by
 refine⟨h.inv.set hx he,λhm=>(by cases hm),λ_=>?_⟩;have h1:=z2g hy hyn;cases more with
 |true=>have:=h.yes rfl;omega
 |false=>have:=(h.no rfl).1;subst this;omega
theorem RIn.done{n:Nat}{F:List Int}{E:List (Int × Int)}{on0 on:Nat->Bool}(h:RIn n F E on0 on false E.length):∀e∈E,on e.1.toNat=true->on e.2.toNat=true:=λe he=>by
 obtain⟨j,hj,rfl⟩:=Bw he;have:=(h.no rfl).2 j hj;have e:nth E j=E[j]:=by simp[nth,List.getD,hj]
 rwa [e] at this
theorem zuw{d:Desc}(h:FB d=0):¬cycP d.rules d.states.toNat:=λhc=>by
 obtain⟨h1,h2,h3⟩:=ET h
 have h0:(IR d).1=0:=by
  unfold FB at h;split at h
  ·assumption
  ·omega
 rw[IR,Ad (by simp[h1]),MU h2] at h0;simp only at h0;rw[MU h3] at h0;simp only at h0;rw[Ae hc] at h0;simp at h0
theorem wf_n{d:Desc}(h:FB d=0):∃n:Nat,d.states=n/\1<=n/\n<=1024/\¬cycP d.rules n/\∀r∈d.rules,(0<=r.from_/\r.from_<n)/\0<=r.to_/\r.to_<n:=by
 have hw:=NJ h;obtain⟨n,hn,h1,h2⟩:=hw.n;refine⟨n,hn,h1,h2,?_,λr hr=>by have:=hw.r r hr;rw[hn] at this;exact this⟩;have:=zuw h
 rwa [hn,Int.toNat_natCast] at this
def conT(x:Int):Term:=⟨0,0,21,0,x,[]⟩
theorem WU{x:Int}(hx:0<=x/\x<=1114111){w:List Int}(hw:w.all symB=true):Ga (conT x) w=some x:=by
 have ho:(conT x).outer=⟨0,0,21,0⟩:=rfl;obtain⟨_,h1,h2⟩:=z9p (p:=⟨0,0,21,0⟩) (x:=x) ox om;have h3:valB ⟨0,0,21,0⟩ x=true:=h1;rw[Ga,Ae hw];simp only[conT,sumP];show (if valB (conT x).outer x&&decide (x<=1114111) then some (IntKind.i64.wrap (0+valP (conT x).outer x)) else none)=some x;rw[ho,h1,h2,Bv hx.2,Int.zero_add,IntWalk.i64_in _ om];rfl
theorem ziy{gs:List (List Span)}:∀{w:List Int},Win (gs.map symI) w->w.all symB=true:=by
 induction gs with
 |nil=>intro w hw;rw[zpa.1 hw];rfl
 |cons g gs ih =>
  intro w hw;obtain⟨x,r,rfl,h1,h2⟩:=win_cons.1 hw;have hm:=((MO g).2 x).1 h1;rw[List.all_cons,ih h2,Gy,symB];exact Bv hm.1
theorem ziz{x:Int}{i o:Int}{gs:List (List Span)}(h4:gs.length<=4)(hr:J2 (conT x) i o gs.length=true)(hx:0<=x/\x<=1114111)(ho:IE o x=true):Kg (conT x) i o gs=true:=by
 refine (zbf h4).2 ⟨hr,λw hw=>?_⟩;rw[fitW,WU hx (ziy hw)];simp[hx,ho]
theorem z2h{d:Desc}{x:List Int}:askV d x=0↔FB d=0/\x.length<=1024/\x.all (IE d.in_)=true:=by
 unfold askV;by_cases h:FB d=0
 ·rw[Ad (by simp[h])]
  by_cases h2:1024<x.length
  ·rw[Ae h2];constructor
   ·intro h;cases h
   ·intro h;omega
  ·rw[Ad h2]
   cases h3:x.all (IE d.in_) with
   |true=>simp[h];omega
   |false=>simp
 ·rw[Ae h];constructor
  ·intro h;cases h
  ·intro h';exact absurd h'.1 h
theorem zj0{s v:Int}(h:IE s v=true):0<=v/\v<1114112:=by
 simp only[IE,Ah] at h;omega
theorem zps{d:Desc}(h:FB d=0){n:Nat}(hn:d.states=n):Goes d n:=by
 obtain⟨h1,h2,h3⟩:=ET h;have hw:=NJ h;refine⟨λr hr=>?_⟩;have h4:=h2 r hr;have h5:=hw.r r hr;rw[hn] at h5;simp only[Kh,eatB,Ac,Cj,BB] at h4;obtain⟨_,_,_,⟨h6,h7⟩,_⟩:=h4;refine⟨h5.1,h5.2,om,λhe=>?_⟩;simp only[DL,BB] at he;omega
theorem zj1{d:Desc}{x:List Int}(h:askV d x=0):∃n,zis d x n:=by
 obtain⟨h1,h2,h3⟩:=z2h.1 h;obtain⟨n,hn,hn1,hn2,hc,hl⟩:=wf_n h1;have hw:=NJ h1;have hst:=hw.start;have hff:=hw.f;rw[hn] at hst hff;obtain⟨_,k2,k3⟩:=ET h1;refine⟨n,hn,hn2,hst,hw.rl,hw.fl,h2,λv hv=>?_,zps h1 hn,hff,λr hr=>?_,λf hf=>?_,hc⟩
 ·have:=zj0 (AP.1 h3 v hv);omega
 ·have h4:=k2 r hr
  simp only[Kh,eatB,Ac,Cj,BB] at h4;obtain⟨_,_,h5,⟨h6,h7⟩,h8⟩:=h4;obtain⟨g1,g2⟩:=GZ h5;obtain⟨w1,w2⟩:=IS h8;exact⟨⟨om,λg hg=>by have:=g2 g hg;omega⟩,⟨w1,λt ht=>by have:=w2 t ht;omega⟩,om,om⟩
 ·have h4:=k3 f hf
  simp only[Ht,Ac] at h4;obtain⟨_,h5,h8⟩:=h4;obtain⟨g1,g2⟩:=GZ h5;obtain⟨w1,w2⟩:=IS h8;exact⟨⟨om,λg hg=>by have:=g2 g hg;omega⟩,w1,λt ht=>by have:=w2 t ht;omega⟩
noncomputable def runA (d:Desc) (x:List Int) (mo:Int):AV:=if askV d x≠0 then .tup [.nilS,.int .i64 (askV d x)] else if mo<1 then .tup [.nilS,.int .i64 1] else outA d x mo.toNat
theorem WW(d:Desc)(x:List Int)(hf:K8 d)(hl:x.length<=9223372036854775807)(h32:∀v∈x,-2147483648<=v/\v<=2147483647)(mo:Int)(hmo:mo<=9223372036854775807)(hB:askV d x=0->Nat.min mo.toNat (outW d x 0 d.start).length<=200000):
 PC Tryz.prog 23 [C6 d,Bp x,.int .i64 mo] (runA d x mo):=by
 have hq:=zbl d x hf hl h32;unfold runA;by_cases h:askV d x=0
 ·rw[Ad (by simp[h])]
  rw[h] at hq;by_cases h1:mo<1
  ·rw[Ae h1]
   refine Cd JN ?_;unfold Ie;have e_:=hq;exact gwC
  ·rw[Ad h1]
   obtain⟨n,hk⟩:=zj1 h;obtain⟨m,rfl⟩:∃m:Nat,mo=m:=⟨mo.toNat,om⟩;rw[Int.toNat_natCast] at hB ⊢;exact Zb d x hk hq m om om (hB h)
 ·rw[Ae h]
  generalize askV d x=k at *;refine Cd JN ?_;unfold Ie;have f_:=h;have e_:=hq;exact gwD
theorem zj2{d:Desc}{x:List Int}{mo:Nat}(h:askV d x=0)(h1:1<=mo)(hle:(outW d x 0 d.start).length<=mo):runA d x mo=.tup [JY (outW d x 0 d.start),.int .i64 0]:=by
 unfold runA outA;rw[Ad (by simp[h]),Ad om,Int.toNat_natCast,Ae hle]
structure Ones(b:Desc):Prop where
 r:∀r∈b.rules,∃g,r.guards=[g]
 e:∀r∈b.rules,r.eat=1
 f:∀f∈b.finals,f.guards=[]
inductive zcj(b:Desc):Int->List Int->Int->List Int->Prop
 |nil (q:Int):zcj b q [] q []
 |cons {q:Int} {c:Int} {v:List Int} {q':Int} {u:List Int} (r:Rule) (g:List Span):r∈b.rules->r.from_=q->r.guards=[g]->hasI g c=true->zcj b r.to_ v q' u->zcj b q (c::v) q' (Gv r.out [c]++u)
section
variable {b:Desc}{x:List Int}
end
structure Chained(a b c:Desc)(x:List Int):Prop where
 ones:Ones b
 ar:∀r∈a.rules,0<=r.from_/\0<=r.to_
 br:∀r∈b.rules,0<=r.to_/\r.to_<b.states
 bf:∀f∈b.finals,0<=f.from_/\f.from_<b.states
 rule:∀(i:Nat)(s s':Int)(e:Int)(u:List Int),(∃r∈c.rules,r.from_=s/\goB x r.guards i=true/\r.to_=s'/\r.eat=e/\GR x r.out r.guards i=u) ↔
  ∃r∈a.rules,∃q,(0<=q/\q<b.states)/\s=r.from_ * b.states+q/\goB x r.guards i=true/\r.eat=e/\∃q',s'=r.to_ * b.states+q'/\zcj b q (GR x r.out r.guards i) q' u
 fin:∀(i:Nat)(s:Int)(u:List Int),(∃f∈c.finals,f.from_=s/\f.guards.length+i=x.length/\goB x f.guards i=true/\GR x f.out f.guards i=u) ↔
  ∃f∈a.finals,∃q,(0<=q/\q<b.states)/\s=f.from_ * b.states+q/\f.guards.length+i=x.length/\goB x f.guards i=true/\∃q' u1,zcj b q (GR x f.out f.guards i) q' u1/\∃g∈b.finals,g.from_=q'/\u=u1++Gv g.out []
section
variable {a b c:Desc}{x:List Int}
end
abbrev Pie:=List Rule × Nat × Nat
def inP(f S:Nat)(p:Pie)(a:Nat):Prop:=a=f\/(S<=a/\a<p.2.1)
structure Host(D:Desc)(f S:Nat)(p:Pie):Prop where
 has:∀r∈p.1,r∈D.rules
 only:∀r∈D.rules,∀a:Nat,r.from_=a->inP f S p a->a≠p.2.2->r∈p.1
 fin:∀g∈D.finals,∀a:Nat,g.from_=a->inP f S p a->a=p.2.2
abbrev Sem:=Nat->Nat->List Int->Prop
structure Good(x:List Int)(sem:Sem)(nl:Bool)(f S:Nat)(p:Pie):Prop where
 mono:S<=p.2.1
 to_:inP f S p p.2.2
 same:p.2.2=f->p.1=[]/\nl=true/\p.2.1=S
 dom:∀r∈p.1,∃a c:Nat,r.from_=a/\r.to_=c/\inP f S p a/\(S<=c/\c<p.2.1)/\a≠p.2.2
 rel:∀D,Host D f S p->∀at_ w,at_<=x.length->(RelW D x at_ f w↔∃e u v,sem at_ e u/\RelW D x e p.2.2 v/\w=u++v)
 cyc:∀l n C,z0m l n C->(∀r∈l,∀c:Nat,r.to_=c->S<=c->c<p.2.1->r∈p.1)->(∀j:Nat,S<=j->j<p.2.1->C j->C f)/\(p.2.2≠f->C p.2.2->nl=true)
 semd:∀at_ e u,sem at_ e u->at_<=x.length->at_<=e/\e<=x.length/\(nl=false->at_<e)
section
variable {x:List Int}{f S:Nat}
end
section
variable {x:List Int}{f S:Nat}
structure EpsR(r:Rule)(a c:Nat):Prop where
 from_:r.from_=a
 to_:r.to_=c
 guards:r.guards=[]
 out:r.out=[]
 eat:r.eat=0
theorem EpsR.eps{r:Rule}{a c:Nat}(h:EpsR r a c):DL r=true:=by simp[DL,h.guards]
inductive Star(s:Sem):Sem where
 |nil (a:Nat):Star s a a []
 |cons {a e e2:Nat} {u v:List Int}:s a e u->Star s e e2 v->Star s a e2 (u++v)
end
structure AltG(x:List Int)(sem:Sem)(nl:Bool)(f t S:Nat)(rs:List Rule)(S':Nat):Prop where
 mono:S<=S'
 dom:∀r∈rs,∃a c:Nat,r.from_=a/\r.to_=c/\(a=f\/(S<=a/\a<S'))/\(c=t\/(S<=c/\c<S'))
 rel:∀D:Desc,(∀r∈rs,r∈D.rules)->(∀r∈D.rules,∀a:Nat,r.from_=a->S<=a->a<S'->r∈rs)->(∀g∈D.finals,∀a:Nat,g.from_=a->S<=a->a<S'->False)->∀at_ w,at_<=x.length ->
  ((∃r∈rs,r.from_=(f:Nat)/\goB x r.guards at_=true/\∃v,RelW D x (at_+r.eat.toNat) r.to_ v/\w=GR x r.out r.guards at_++v)↔∃e u v,sem at_ e u/\RelW D x e (t:Nat) v/\w=u++v)
 cyc:∀l n C,z0m l n C->(∀r∈l,∀c:Nat,r.to_=c->S<=c->c<S'->r∈rs)->(∀j:Nat,S<=j->j<S'->C j->C f)/\(∀r∈rs,DL r=true->r.to_=(t:Nat)->C r.from_->nl=true/\C f)
 semd:∀at_ e u,sem at_ e u->at_<=x.length->at_<=e/\e<=x.length/\(nl=false->at_<e)
section
variable {x:List Int}{f t S S':Nat}
end
theorem Pj{m b:Nat}{env:Env}{l l':List Grp}(i g w v n:Nat){ex:Bool}{X:List AV}(hw:0<w)(hlt:g<l.length)(hg:l.getD g default=⟨w,v,ex,X⟩)(pX:AJ X=true)(hn:X.length=n)(hi:env i=.ref g v 0 n)(hl':Ec 0 [g] l=l'):
 Ent m b env (Abs.hl l) (env.put (some i) (.lst w X)) (Abs.hl l'):=by
 subst hl' hn
 have hat:((Abs.hl l).only [g]).at_ g=⟨w,v,ex,X⟩:=by
  show (if g∈[g] then _ else _)=_;rw[Ae oc,Da,hg]
 have hpz:=HH ((Abs.hl l).only [g]) 0 pX
 have f1:DX 1 ((Abs.hl l).only [g]) (.ref g v 0 X.length):=by
  simp only[DX];rw[hat];simp only[BH,As];exact⟨oy,hw,om,hpz.1⟩
 have f2:frzV 1 ((Abs.hl l).only [g]) (.ref g v 0 X.length)=.lst w X:=by
  simp only[frzV];rw[hat];simp[frzV]
 rw[<-hi] at f1 f2;have:=Qz (n:=m) (b:=b) i 1 [g] f1;rw[f2] at this;refine this.trans (K7 (by simp[A4.kill,hl_n,Gm]) λj hj=>?_);rw[Da,IL 0 [g] l j hj,AY];rfl
def zux(S:Nat)(R:List Rule):Bool:=decide (1024<S)||decide ((4096:Int)<R.length)
abbrev MSt:=Nat × List Rule
def zpt(st:MSt):Bool:=zux st.1 st.2
structure WSt where
 n:Nat
 w:List Int
 f:Nat
 S:Nat
 R:List Rule
 v:Nat
end Go.Proofs.YtflibbceibjddaaGreat
namespace Go.Proofs.YtflibbceibjddaaGreat
open Abs O1 O2 O3 Go.RowKit
section
variable {x:List Int}{f S:Nat}
end
section
variable {x:List Int}
theorem Good.lt{s:Sem}{nl:Bool}{f S:Nat}{p:Pie}(h:Good x s nl f S p)(hf:f<S):p.2.2<p.2.1:=by
 have h1:=h.mono;rcases h.to_ with h2|h2
 ·omega
 ·exact h2.2
end
def ExtS(st st':MSt):Prop:=st.1<=st'.1/\st.2.length<=st'.2.length
theorem ExtS.trans{a b c:MSt}(h:ExtS a b)(k:ExtS b c):ExtS a c:=⟨Bl h.1 k.1,Bl h.2 k.2⟩
theorem ExtS.refl(a:MSt):ExtS a a:=⟨Ab _,Ab _⟩
theorem ExtS.full{a b:MSt}(h:ExtS a b)(hb:zpt b=false):zpt a=false:=by
 simp only[zpt,zux,Bool.or_eq_false_iff,BB] at hb ⊢;obtain⟨h1,h2⟩:=h;omega
structure Way where
 state:Int
 guards:List (List Span)
 out:List Term
instance:Inhabited Way:=⟨⟨0,[],[]⟩⟩
def Ml(t:Term):List Term->Option (List Term)
 |[]=>some []
 |u::l=>match putT u t with
  |none=>none
  |some v=>match Ml t l with
   |none=>none
   |some r=>some (v::r)
def z6b(b:List (List Span)):Bool:=b.any λs=>decide (64<(s.length:Int))
def Ng(w:Way)(t:Term)(r:Rule):Option (List Way) :=
 if (boxV t w.guards (nth r.guards 0)).1=0 then
  if (boxV t w.guards (nth r.guards 0)).2=[] then some []
  else match Ml t r.out with
   |none=>none
   |some o=>if 64<(w.out++o).length then none else if (boxV t w.guards (nth r.guards 0)).2.any z6b=true then none
    else some ((boxV t w.guards (nth r.guards 0)).2.map λb=>⟨r.to_,b,w.out++o⟩)
 else none
abbrev WayQ:=Option (List Way) × Nat
def QT(w:Way)(t:Term):List Rule->List Way->Nat->WayQ
 |[],nx,k=>(some nx,k)
 |r::rs,nx,k=>if 65536<k+1 then (none,k+1) else match Ng w t r with
  |none=>(none,k+1)
  |some more=>if 4096<nx.length+more.length then (none,k+1) else QT w t rs (nx++more) (k+1)
def zck(b:Desc)(q:Int):List Rule:=b.rules.filter λr=>decide (r.from_=q)
def zcl(b:Desc)(q:Int):List DO:=b.finals.filter λf=>decide (f.from_=q)
def OI(b:Desc)(t:Term):List Way->List Way->Nat->WayQ
 |[],nx,k=>(some nx,k)
 |w::ws,nx,k=>match QT w t (zck b w.state) nx k with
  |(none,k')=>(none,k')
  |(some nx',k')=>OI b t ws nx' k'
def Jf(b:Desc):List Term->List Way->Nat->WayQ
 |[],now,k=>(some now,k)
 |t::ts,now,k=>match OI b t now [] k with
  |(none,k')=>(none,k')
  |(some nx,k')=>Jf b ts nx k'
structure OneOk(b:Desc):Prop where
 ones:Ones b
 fits:∀r∈b.rules,∀u∈r.out,Kg u 2 b.out r.guards=true
 to_:∀r∈b.rules,0<=r.to_/\r.to_<b.states
def IV(B:Int)(r:Rule)(q:Int)(w:Way):Rule:=⟨r.from_ * B+q,r.to_ * B+w.state,w.guards.map AR,r.eat,w.out⟩
abbrev zuy:=Option (List Rule) × Nat
abbrev FinQ:=Option (List DO) × Nat
def Zc(b:Desc)(r:Rule):List Int->List Rule->Nat->zuy
 |[],R,k=>(some R,k)
 |q::qs,R,k=>match Jf b r.out [⟨q,r.guards,[]⟩] k with
  |(none,k')=>(none,k')
  |(some ws,k')=>if 4096<(R++ws.map (IV b.states r q)).length then (none,k') else Zc b r qs (R++ws.map (IV b.states r q)) k'
def OJ(b:Desc):List Rule->List Rule->Nat->zuy
 |[],R,k=>(some R,k)
 |r::rs,R,k=>match Zc b r (idsN b.states.toNat) R k with
  |(none,k')=>(none,k')
  |(some R',k')=>OJ b rs R' k'
def OK(B:Int)(f:DO)(q:Int)(w:Way)(g:DO):DO:=⟨f.from_ * B+q,w.guards.map AR,w.out++g.out⟩
def Ki(b:Desc)(f:DO)(q:Int)(ws:List Way):List DO:=ws.flatMap λw=>(zcl b w.state).map (OK b.states f q w)
def zcm(b:Desc)(f:DO):List Int->List DO->Nat->FinQ
 |[],F,k=>(some F,k)
 |q::qs,F,k=>match Jf b f.out [⟨q,f.guards,[]⟩] k with
  |(none,k')=>(none,k')
  |(some ws,k')=>if 4096<(F++Ki b f q ws).length then (none,k') else zcm b f qs (F++Ki b f q ws) k'
def R4(b:Desc):List DO->List DO->Nat->FinQ
 |[],F,k=>(some F,k)
 |f::fs,F,k=>match zcm b f (idsN b.states.toNat) F k with
  |(none,k')=>(none,k')
  |(some F',k')=>R4 b fs F' k'
def R5(a b:Desc)(R:List Rule)(F:List DO):Desc:=⟨a.in_,b.out,a.states * b.states,a.start * b.states+b.start,R,F⟩
def Nh(a b:Desc):Option Desc:=match OJ b a.rules [] 0 with
 |(none,_)=>none
 |(some R,k)=>match R4 b a.finals [] k with
  |(none,_)=>none
  |(some F,_)=>if W3 (R5 a b R F)<=64 then some (R5 a b R F) else none
theorem WX{b:Desc}{w:Way}{t:Term}{P:Way->Prop}(h:∀r∈b.rules,∀more,Ng w t r=some more->∀y∈more,P y):
 ∀(rs:List Rule),(∀r∈rs,r∈b.rules)->∀(nx:List Way)(k:Nat)(zs:List Way)(k':Nat),(∀y∈nx,P y)->QT w t rs nx k=(some zs,k')->∀y∈zs,P y
 |[],_,nx,k,zs,k',hn,e=>by
  obtain⟨h1,_⟩:=Prod.mk.inj e;obtain rfl:=A5 h1;exact hn
 |r::rs,hr,nx,k,zs,k',hn,e=>by
  rw[QT] at e;split at e
  ·cases (Prod.mk.inj e).1
  split at e
  ·cases (Prod.mk.inj e).1
  rename_i more hm;split at e
  ·cases (Prod.mk.inj e).1
  exact WX h rs (λs hs=>hr s (by simp[hs])) _ _ zs k' (λy hy=>by
   rcases Av.1 hy with hy|hy
   ·exact hn y hy
   ·exact h r (hr r oc) more hm y hy) e
theorem WY{b:Desc}{t:Term}{P:Way->Prop}(h:∀w,P w->∀r∈b.rules,∀more,Ng w t r=some more->∀y∈more,P y):
 ∀(ws:List Way),(∀w∈ws,P w)->∀(nx:List Way)(k:Nat)(zs:List Way)(k':Nat),(∀y∈nx,P y)->OI b t ws nx k=(some zs,k')->∀y∈zs,P y
 |[],_,nx,k,zs,k',hn,e=>by
  obtain⟨h1,_⟩:=Prod.mk.inj e;obtain rfl:=A5 h1;exact hn
 |w::ws,hw,nx,k,zs,k',hn,e=>by
  rw[OI] at e;split at e
  ·cases (Prod.mk.inj e).1
  rename_i nx' k1 hR;exact WY h ws (λy hy=>hw y (by simp[hy])) nx' k1 zs k' (WX (h w (hw w oc)) (zck b w.state) (λr hr=>(AW.1 hr).1) nx k nx' k1 hn hR) e
theorem WZ{b:Desc}{P:Way->Prop}:∀(ts:List Term),(∀w t,t∈ts->P w->∀r∈b.rules,∀more,Ng w t r=some more->∀y∈more,P y) ->
 ∀(ws:List Way),(∀w∈ws,P w)->∀(k:Nat)(zs:List Way)(k':Nat),Jf b ts ws k=(some zs,k')->∀y∈zs,P y
 |[],_,ws,hw,k,zs,k',e=>by
  obtain⟨h1,_⟩:=Prod.mk.inj e;obtain rfl:=A5 h1;exact hw
 |t::ts,h,ws,hw,k,zs,k',e=>by
  rw[Jf] at e;split at e
  ·cases (Prod.mk.inj e).1
  rename_i nx k1 hW;exact WZ ts (λw s hs=>h w s (by simp[hs])) nx (WY (λw=>h w t oc) ws hw [] k nx k1 (λy hy=>by cases hy) hW) k1 zs k' e
theorem Xa{w:Way}{t:Term}{r:Rule}{more:List Way}(h:Ng w t r=some more):∀y∈more,∃bs o bx,boxV t w.guards (nth r.guards 0)=(0,bs)/\Ml t r.out=some o/\(w.out++o).length<=64/\bx∈bs/\z6b bx=false/\y=⟨r.to_,bx,w.out++o⟩:=λy hy=>by
 rw[Ng] at h;split at h
 ·rename_i h0
  split at h
  ·obtain rfl:=A5 h;cases hy
  ·split at h
   ·cases h
   rename_i o ho;split at h
   ·cases h
   rename_i hl;split at h
   ·cases h
   rename_i hw;obtain rfl:=A5 h;obtain⟨bx,hbx,rfl⟩:=Al.1 hy;refine⟨_,o,bx,Prod.ext h0 rfl,ho,om,hbx,?_,rfl⟩;simp only[Bool.not_eq_true,List.any_eq_false] at hw;simpa using hw bx hbx
 ·cases h
section
variable {x:List Int}
def zky(i:Int)(ts:List Term)(gs:List (List Span)):Prop:=gs.length<=4/\∀t∈ts,Kg t i 2 gs=true
end
abbrev KH:AV:=.agg [.int .i64 0,.int .i64 0]
theorem z6c(n:Nat)(h0:0<n)(hn:n<=1000000000):B9 Tryz.prog 248 [.nilS,.int .i64 n] (Abs.hl []) λy H'=>y=.ref 0 1 0 0/\H'=Abs.hl [⟨2,1,false,List.replicate n KH⟩]:=by
 refine Gh (b:=0) FL rfl ?_;unfold Eu;have e0:((n:Int)-0).toNat=n:=om
 have f_:=e0;exact gwB
theorem Zd:PC Tryz.prog 248 [.nilS,.int .i64 0] .nilS:=by
 refine Cd FL ?_;unfold Eu;exact gwA
theorem JC(l:List Span):AJ (l.map Ce)=true:=Cs l
def FO(ws:List (List Span))(k:Nat):List AV:=(ws.take k).flatten.map Ce++List.replicate (ws.flatten.length-(ws.take k).flatten.length) KH
theorem Xb(ws:List (List Span))(hk:ws.length<=1000000000)(h0:0<ws.flatten.length)(hl:ws.flatten.length<=1000000000):PC Tryz.prog 244 [.lst 1 (ws.map AA)] (AA ws.flatten):=by
 have pW:AJ (ws.map AA)=true:=Bz.2 λx hx=>by
  obtain⟨l,_,rfl⟩:=Al.1 hx;exact JC l
 have aW:∀k,k<ws.length->(ws.map AA).getD k .any=AA (nth ws k):=λk hk=>by simp[nth,List.getD,hk]
 have hG:=z6c ws.flatten.length h0 hl;refine Cd F0 ?_;unfold DZ;(with_reducible repeat'(first|simp(disch:=omega)only[push_cast,↓zz,seval,pW]|refine sp_ ?_ ?_<;>try(intro hc;push_cast at hc)|omega|intro _))
 refine Ba (B7 (λ(k:Nat)=>k<=ws.length) (λk=>ws.length-k)
  (λk=>[(0,.lst 1 (ws.map AA)),(3,.int .i64 (ws.take k).flatten.length),(9,.lst 1 (ws.map AA)),(10,.int .i64 ws.length),(11,.int .i64 k)]) (λ_=>[]) (λ_ _=>[]) 0 oc ?_ ?_)
 ·(with_reducible repeat'(first|simp(disch:=omega)only[push_cast,↓zz,seval,pW,List.flatten_nil,List.length_nil]|refine sp_ ?_ ?_<;>try(intro hc;push_cast at hc)|omega|intro _))
 intro k hkw;rcases Aj k ws.length with hkl|hkl
 ·have hn:nth ws k=ws[k]:=by simp[nth,hkl]
  have hf:=Lj ws hkl;rw[<-hn] at hf;have h1:=Lk ws (k+1);have h2:(ws.take (k+1)).flatten.length=(ws.take k).flatten.length+(nth ws k).length:=by rw[hf];simp
  have aK:=aW k hkl;generalize (ws.take k).flatten.length=m at *;refine W_T ?_;(with_reducible repeat'(first|simp(disch:=omega)only[push_cast,↓zz,seval,pW,aK]|refine sp_ ?_ ?_<;>try(intro hc;push_cast at hc)|omega|intro _))
  all_goals
   refine⟨k+1,?_⟩;(with_reducible repeat'(first|simp(disch:=omega)only[push_cast,↓zz,seval,pW,h2]|refine sp_ ?_ ?_<;>try(intro hc;push_cast at hc)|omega|intro _))
 ·obtain rfl:k=ws.length:=om
  rw[Ay (Ab _)];have hzz:(ws.flatten.length:Int)≠0:=om
  refine W_T ?_;(with_reducible repeat'(first|simp(disch:=omega)only[push_cast,↓zz,seval,pW]|refine sp_ ?_ ?_<;>try(intro hc;push_cast at hc)|omega|intro _))
  (refine at_c [] (hG) ox oc (by refine⟨?_,?_,?_,?_⟩<;>(simp(disch:=omega)only[push_cast,↓zz,seval,Af,An,A7,B6,Cr,BG])) ?_)
  rintro y H' ⟨rfl,rfl⟩;refine⟨_,rfl,oc,?_⟩;(with_reducible repeat'(first|simp(disch:=omega)only[push_cast,↓zz,seval,pW]|refine sp_ ?_ ?_<;>try(intro hc;push_cast at hc)|omega|intro _))
  refine Ba (B7 (λ(k:Nat)=>k<=ws.length) (λk=>ws.length-k)
   (λk=>[(6,.ref 0 1 0 (ws.take k).flatten.length),(25,.lst 1 (ws.map AA)),(26,.int .i64 ws.length),(27,.int .i64 k)]) (λk=>[⟨2,1,false,FO ws k⟩]) (λenv _=>[D4 2 (env 6)]) 0 oc ?_ ?_)
  ·have r0:FO ws 0=List.replicate ws.flatten.length KH:=by simp[FO]
   have pZ:∀n,AJ (List.replicate n KH)=true:=λn=>Bz.2 λx hx=>by rw[Ca hx];rfl
   (with_reducible repeat'(first|simp(disch:=omega)only[push_cast,↓zz,seval,pW,pZ,r0,List.flatten_nil,List.length_nil]|refine sp_ ?_ ?_<;>try(intro hc;push_cast at hc)|omega|intro _))
  intro k hkw
  have pL:∀k,AJ (FO ws k)=true:=λk=>by
   rw[FO,Jp,JC,Bj];exact Bz.2 λx hx=>by rw[Ca hx];rfl
  have h1:=Lk ws k;have lR:(FO ws k).length=ws.flatten.length:=by simp only[FO,Ai,Au,List.length_replicate];omega
  rcases Aj k ws.length with hkl|hkl
  ·have hn:nth ws k=ws[k]:=by simp[nth,hkl]
   have hf:=Lj ws hkl;rw[<-hn] at hf;have h1':=Lk ws (k+1);have h2:(ws.take (k+1)).flatten.length=(ws.take k).flatten.length+(nth ws k).length:=by rw[hf];simp
   have aK:=aW k hkl;have pw:=JC (nth ws k)
   have hR:(FO ws k).take (ws.take k).flatten.length++(nth ws k).map Ce++(FO ws k).drop ((ws.take k).flatten.length+(nth ws k).length)=FO ws (k+1):=by
    have e1:(FO ws k).take (ws.take k).flatten.length=(ws.take k).flatten.map Ce:=by
     rw[FO];exact DF (by rw[Au])
    have e2:(FO ws k).drop ((ws.take k).flatten.length+(nth ws k).length)=List.replicate (ws.flatten.length-(ws.take (k+1)).flatten.length) KH:=by
     rw[<-Fw,FO,List.drop_left' (by rw[Au]),List.drop_replicate,h2];congr 1;omega
    rw[e1,e2,FO,hf,Aw,A3]
   rw[A3] at hR
   have hQ:(FO ws k).length<=(ws.take k).flatten.length->FO ws k++(nth ws k).map Ce=FO ws (k+1):=λh=>by
    have h0:nth ws k=[]:=Az om;rw[FO,FO,hf,h0,Ax,AX,Ax]
   have pT:AJ ((FO ws k).take (ws.take k).flatten.length)=true:=Bz.2 λx hx=>Bz.1 (pL k) x (Be hx);have pD:AJ ((FO ws k).drop ((ws.take k).flatten.length+(nth ws k).length))=true:=Bz.2 λx hx=>Bz.1 (pL k) x (Bc hx);have hpk:=pL k;have hpk1:=pL (k+1);generalize (ws.take k).flatten.length=m at *;generalize hRk:FO ws k=R at *;generalize hRk1:FO ws (k+1)=R1 at *;refine W_T ?_;(with_reducible repeat'(first|simp(disch:=omega)only[push_cast,↓zz,seval,pW,aK,pw,hpk]|refine sp_ ?_ ?_<;>try(intro hc;push_cast at hc)|omega|intro _))
   all_goals
    refine⟨k+1,?_⟩;(with_reducible repeat'(first|simp(disch:=omega)only[push_cast,↓zz,seval,pW,h2,hRk1,hpk1,pw,hpk,pT,pD,hR,hQ]|refine sp_ ?_ ?_<;>try(intro hc;push_cast at hc)|omega|intro _))
  ·obtain rfl:k=ws.length:=om
   have rE:FO ws ws.length=ws.flatten.map Ce:=by simp[FO]
   rw[rE,As] at *;refine W_T ?_;have f_:=Aa pW JC;exact gwB
theorem U7(ws:List (List Span))(hk:ws.length<=1000000000)(h0:ws.flatten.length=0):PC Tryz.prog 244 [.lst 1 (ws.map AA)] (AA ws.flatten):=by
 have pW:AJ (ws.map AA)=true:=Bz.2 λx hx=>by
  obtain⟨l,_,rfl⟩:=Al.1 hx;exact JC l
 have hE:ws.flatten=[]:=Az h0
 have aW:∀k,k<ws.length->(ws.map AA).getD k .any=.lst 2 []:=λk hk=>by
  have:ws[k]=[]:=by
   have:=List.flatten_eq_nil_iff.1 hE _ (BM hk);exact this
  simp[List.getD,hk,this,AA]
 have hG:=Zd;rw[hE];refine Cd F0 ?_;unfold DZ;have f_:=pW;refine ywB ?_;clear f_
 refine Ba (B7 (λ(k:Nat)=>k<=ws.length) (λk=>ws.length-k)
  (λk=>[(0,.lst 1 (ws.map AA)),(3,.int .i64 0),(9,.lst 1 (ws.map AA)),(10,.int .i64 ws.length),(11,.int .i64 k)]) (λ_=>[]) (λ_ _=>[]) 0 oc ?_ ?_)
 ·have f_:=pW;exact gwB
 intro k hkw;rcases Aj k ws.length with hkl|hkl
 ·have aK:=aW k hkl
  refine W_T ?_;have f_:=Aa pW aK;refine ywB ?_;clear f_
  all_goals
   refine⟨k+1,?_⟩;have f_:=pW;exact gwB
 ·obtain rfl:k=ws.length:=om
  refine W_T ?_;have f_:=pW;have e_:=hG;refine ywD ?_;clear f_ e_
  refine Ba (B7 (λ(k:Nat)=>k<=ws.length) (λk=>ws.length-k)
   (λk=>[(6,.ref 0 1 0 0),(25,.lst 1 (ws.map AA)),(26,.int .i64 ws.length),(27,.int .i64 k)]) (λk=>[⟨2,1,true,[]⟩]) (λenv _=>[D4 2 (env 6)]) 0 oc ?_ ?_)
  ·have f_:=pW;exact gwB
  intro k hkw;rcases Aj k ws.length with hkl|hkl
  ·have aK:=aW k hkl
   refine W_T ?_;have f_:=Aa pW aK;refine ywB ?_;clear f_
   all_goals exact⟨k+1,om,om,om⟩
  ·obtain rfl:k=ws.length:=om
   refine W_T ?_;have f_:=pW;exact gwB
theorem Xc(a b:List Span)(hl:a.length+b.length<=1000000000):PC Tryz.prog 244 [.lst 1 [AA a,AA b]] (AA (a++b)):=by
 have e:[a,b].flatten=a++b:=oc
 have el:[a,b].flatten.length=a.length+b.length:=by rw[e,Ai]
 rw[<-e];rcases Nat.eq_zero_or_pos [a,b].flatten.length with h|h
 ·exact U7 [a,b] oc h
 ·exact Xb [a,b] oc h om
section
variable {n k:Nat}{f:Nat->Bool}
end
theorem z6d(a b:List Span)(la:a.length<=1000000000000)(lb:b.length<=1000000000000):PC Tryz.prog 220 [AA a,AA b] (.bool (!decide (EN (AR a) (AR b)=[]))):=by
 have h:=IB a b la lb;refine Cd VJ ?_;unfold Ox;have e_:=h;refine ywC ?_;clear e_
 all_goals
  rw[<-decide_not,Dv];have:=@Cz _ (EN (AR a) (AR b));constructor
  ·intro h;exact this.1 om
  ·intro h;have:=this.2 h;omega
theorem z6e(a b:List Span)(hl:a.length+b.length<=1000000000):PC Tryz.prog 224 [AA a,AA b] (AA (AR (a++b))):=by
 have h1:=Xc a b hl;have h2:=CE (a++b) (by rw[Ai];omega);refine Cd VK ?_;unfold Oy;have e_:=h1;have e_1:=h2;exact gwC
theorem z6f(l:List Span)(hl:l.length<=1000000000):PC Tryz.prog 236 [AA l] (.int .i64 (cntI (AR l))):=by
 refine Cd VM ?_;unfold O0;(with_reducible repeat'(first|simp(disch:=omega)only[push_cast,↓zz,seval]|refine sp_ ?_ ?_<;>try(intro hc;push_cast at hc)|(have q_:=CE l om;refine ee q_ ?_;clear q_)|(have q_:=CE l om;refine cc q_ ?_;clear q_;simp(disch:=omega)only[push_cast,↓zz,seval];fail_if_success change False)|omega|intro _));have hb:zp4 (AR l):=E6 l;have hn:=En l;generalize AR l=m at *
 refine Ba (B7 (λ(s:Nat × Int)=>s.1<=m.length/\cntI m=s.2+cntI (m.drop s.1)/\0<=s.2/\s.2<=s.1 * 2147483649) (λs=>m.length-s.1)
  (λs=>[(3,.int .i64 s.2),(7,AA m),(8,.int .i64 m.length),(9,.int .i64 s.1)]) (λs=>[]) (λenv _=>[]) (0,0) oc ?_ ?_)
 ·exact gwA
 rintro⟨k,n⟩ ⟨h1,h2,h3,h4⟩;simp only at h1 h2 h3 h4;rcases Aj k m.length with hk|hk
 ·have hx:=hb _ (Bi hk)
  rw[drop_at hk,cntI] at h2;refine W_T ?_;refine ywA ?_
  all_goals
   refine⟨(k+1,n+((nth m k).hi-(nth m k).lo+1)),?_⟩;exact gwA
  all_goals first|omega|(push_cast;omega)
 ·rw[Ao hk,cntI] at h2
  refine W_T ?_;(with_reducible repeat'(first|simp(disch:=omega)only[push_cast,↓zz,seval]|refine sp_ ?_ ?_<;>try(intro hc;push_cast at hc)|omega|intro _))
  all_goals omega
def idxI(x:Int):List Int->Int->Int
 |[],_=>-1
 |y::l,k=>if x=y then k else idxI x l (k+1)
theorem slices_Index(l:List Int)(x:Int)(hl:l.length<=1000000000000):PC Tryz.prog 195 [FY l,.int .i64 x] (.int .i64 (idxI x l 0)):=by
 have pl:AJ (l.map (AV.int .i64))=true:=C4 .i64 _;refine Cd Kc ?_;unfold Hp;have f_:=pl;refine ywB ?_;clear f_
 refine Ba (B7 (λ(k:Nat)=>k<=l.length/\idxI x l 0=idxI x (l.drop k) k) (λk=>l.length-k)
  (λk=>[(0,FY l),(1,.int .i64 x),(7,.int .i64 l.length),(8,.int .i64 k)]) (λ_=>[]) (λ_ _=>[]) 0 oc ?_ ?_)
 ·have f_:=pl;exact gwB
 rintro k ⟨hk,hr⟩;refine W_T ?_;rcases Aj k l.length with hkl|hkl
 ·rw[drop_at hkl,idxI] at hr
  by_cases hx:x=nth l k
  ·rw[Ae hx] at hr
   rw[hr];have f_:=Aa pl hx;exact gwB
  ·rw[Ad hx] at hr
   have f_:=Aa pl hx;refine ywB ?_;clear f_
   all_goals
    refine⟨k+1,?_⟩;have f_:=pl;exact gwB
   all_goals first|exact hr|omega
 ·rw[Ao hkl,idxI] at hr
  rw[hr];have f_:=pl;exact gwB
theorem U8(a b:List Span)(hl:a.length<=1000000000000):PC Tryz.prog 243 [AA a,AA b] (.bool (decide (a=b))):=by
 refine Cd Ho ?_;unfold FA;(with_reducible repeat'(first|simp(disch:=omega)only[push_cast,↓zz,seval]|refine sp_ ?_ ?_<;>try(intro hc;push_cast at hc)|omega|intro _))
 ·have:a≠b:=by intro h;subst h;first|omega|simp_all
  simp[this]
 refine Ba (B7 (λ(k:Nat)=>k<=a.length/\decide (a=b)=decide (a.drop k=b.drop k)) (λk=>a.length-k)
  (λk=>[(0,AA a),(1,AA b),(12,.int .i64 a.length),(13,.int .i64 k)]) (λs=>[]) (λenv _=>[]) 0 oc ?_ ?_)
 ·exact gwA
 rintro k ⟨hk,hr⟩;refine W_T ?_;(with_reducible repeat'(first|simp(disch:=omega)only[push_cast,↓zz,seval,Y7]|refine sp_ ?_ ?_<;>try(intro hc;push_cast at hc)|omega|intro _))
 all_goals first
  |(rw[hr,Ao om,Ao om];simp;done)
  |(rw[hr,MX om om];simp_all;done)
  |(refine⟨k+1,?_⟩
    (with_reducible repeat'(first|simp(disch:=omega)only[push_cast,↓zz,seval]|refine sp_ ?_ ?_<;>try(intro hc;push_cast at hc)|omega|intro _))
    rw[hr,MX om om];simp_all;done)
  
abbrev IH(l:List Row):AV:=.lst 1 (l.map AQ)
theorem GG(l:List Row):AJ (l.map AQ)=true:=CO (λs=>by simp only[AQ,AV.pure,B0]) l
theorem z6g(a b:List Span)(hl:a.length<=1000000000000):PC Tryz.prog 242 [AA a,AA b] (.bool (decide (a=b))):=by
 have h:=U8 a b hl;refine Cd Ql ?_;unfold Ku;have e_:=h;exact gwC
theorem zcn(a b:Row)(ha:a.length<=1000000000000)(hs:∀s∈a,s.length<=1000000000000):PC Tryz.prog 241 [AQ a,AQ b,.fn 242 []] (.bool (decide (a=b))):=by
 refine Cd E7 ?_;unfold CJ;(with_reducible repeat'(first|simp(disch:=omega)only[push_cast,↓zz,seval]|refine sp_ ?_ ?_<;>try(intro hc;push_cast at hc)|omega|intro _))
 ·have:a≠b:=by intro h;subst h;first|omega|simp_all
  simp[this]
 refine Ba (B7 (λ(k:Nat)=>k<=a.length/\decide (a=b)=decide (a.drop k=b.drop k)) (λk=>a.length-k)
  (λk=>[(1,AQ b),(2,.fn 242 []),(15,AQ a),(16,.int .i64 a.length),(17,.int .i64 k)]) (λs=>[]) (λenv _=>[]) 0 oc ?_ ?_)
 ·exact gwA
 rintro k ⟨hk,hr⟩;refine W_T ?_;rcases Aj k a.length with hkl|hkl
 ·have hE:=z6g (nth a k) (nth b k) (hs _ (Bi hkl))
  rw[MX hkl om] at hr;by_cases he:nth a k=nth b k
  ·rw[Bv he] at hE
   rw[he] at hr hE;(with_reducible repeat'(first|simp(disch:=omega)only[push_cast,↓zz,seval,he]|refine sp_ ?_ ?_<;>try(intro hc;push_cast at hc)|refine ee hE ?_|(refine cc hE ?_;simp(disch:=omega)only[push_cast,↓zz,seval,he];fail_if_success change False)|omega|intro _))
   all_goals
    refine⟨k+1,?_⟩;refine ywA ?_
   all_goals first|omega|(rw[hr];simp;done)
  ·rw[By he] at hE
   (with_reducible repeat'(first|simp(disch:=omega)only[push_cast,↓zz,seval]|refine sp_ ?_ ?_<;>try(intro hc;push_cast at hc)|refine ee hE ?_|(refine cc hE ?_;simp(disch:=omega)only[push_cast,↓zz,seval];fail_if_success change False)|omega|intro _))
   all_goals first|omega|(rw[hr,By he];simp;done)
 ·(with_reducible repeat'(first|simp(disch:=omega)only[push_cast,↓zz,seval]|refine sp_ ?_ ?_<;>try(intro hc;push_cast at hc)|omega|intro _))
  all_goals first|omega|(rw[hr,Ao om,Ao om];simp;done)
theorem z6h(a b:Row)(ha:a.length<=1000000000000)(hs:∀s∈a,s.length<=1000000000000):PC Tryz.prog 240 [AQ a,AQ b] (.bool (decide (a=b))):=by
 have h:=zcn a b ha hs;refine Cd TR ?_;unfold MI;have e_:=h;exact gwC
theorem z6i(a b:List Row)(ha:a.length<=1000000000000)(hr:∀r∈a,r.length<=1000000000000/\∀s∈r,s.length<=1000000000000):PC Tryz.prog 239 [IH a,IH b,.fn 240 []] (.bool (decide (a=b))):=by
 have pa:=GG a;have pb:=GG b;refine Cd E5 ?_;unfold CC;(with_reducible repeat'(first|simp(disch:=omega)only[push_cast,↓zz,seval,pa,pb]|refine sp_ ?_ ?_<;>try(intro hc;push_cast at hc)|omega|intro _))
 ·have:a≠b:=by intro h;subst h;first|omega|simp_all
  simp[this]
 refine Ba (B7 (λ(k:Nat)=>k<=a.length/\decide (a=b)=decide (a.drop k=b.drop k)) (λk=>a.length-k)
  (λk=>[(1,IH b),(2,.fn 240 []),(15,IH a),(16,.int .i64 a.length),(17,.int .i64 k)]) (λs=>[]) (λenv _=>[]) 0 oc ?_ ?_)
 ·have f_:=Aa pa pb;exact gwB
 rintro k ⟨hk,hq⟩;refine W_T ?_;rcases Aj k a.length with hkl|hkl
 ·have hE:=z6h (nth a k) (nth b k) (hr _ (Bi hkl)).1 (hr _ (Bi hkl)).2
  rw[MX hkl om] at hq;by_cases he:nth a k=nth b k
  ·rw[Bv he] at hE
   rw[he] at hq hE;(with_reducible repeat'(first|simp(disch:=omega)only[push_cast,↓zz,seval,pa,pb,he]|refine sp_ ?_ ?_<;>try(intro hc;push_cast at hc)|refine ee hE ?_|(refine cc hE ?_;simp(disch:=omega)only[push_cast,↓zz,seval,pa,pb,he];fail_if_success change False)|omega|intro _))
   all_goals
    refine⟨k+1,?_⟩;have f_:=Aa pa pb;refine ywB ?_;clear f_
   all_goals first|omega|(rw[hq];simp;done)
  ·rw[By he] at hE
   (with_reducible repeat'(first|simp(disch:=omega)only[push_cast,↓zz,seval,pa,pb]|refine sp_ ?_ ?_<;>try(intro hc;push_cast at hc)|refine ee hE ?_|(refine cc hE ?_;simp(disch:=omega)only[push_cast,↓zz,seval,pa,pb];fail_if_success change False)|omega|intro _))
   all_goals first|omega|(rw[hq,By he];simp;done)
 ·(with_reducible repeat'(first|simp(disch:=omega)only[push_cast,↓zz,seval,pa,pb]|refine sp_ ?_ ?_<;>try(intro hc;push_cast at hc)|omega|intro _))
  all_goals first|omega|(rw[hq,Ao om,Ao om];simp;done)
theorem zco(a b:List Row)(ha:a.length<=1000000000000)(hr:∀r∈a,r.length<=1000000000000/\∀s∈r,s.length<=1000000000000):PC Tryz.prog 223 [IH a,IH b] (.bool (decide (a=b))):=by
 have h:=z6i a b ha hr;have pa:=GG a;have pb:=GG b;refine Cd Yt ?_;unfold Qi;have f_:=Aa pa pb;have e_:=h;exact gwD
theorem zcp(t:Term)(n:Int):askT t n=true↔n<=4/\t.parts.length<=4/\EJ t.outer=true/\Gq t.base=true/\Gq t.sum=true/\Ka t.parts=true/\prtB t n=true:=by
 simp only[askT,DN,Ac,Ah];constructor
 ·rintro⟨h1,⟨⟨⟨h2,h3⟩,h4⟩,h5,h6⟩,h7⟩;exact⟨h1,h6,h4,h2,h3,h5,h7⟩
 ·rintro⟨h1,h6,h4,h2,h3,h5,h7⟩;exact⟨h1,⟨⟨⟨h2,h3⟩,h4⟩,h5,h6⟩,h7⟩
theorem zpu{t:Term}{n:Int}(h:¬(n<=4/\(t.parts.length:Int)<=4/\EJ t.outer=true/\-1114111<=t.base/\t.base<=1114111/\-1114111<=t.sum/\t.sum<=1114111)):false=askT t n:=by
 symm
 rw[Bool.eq_false_iff];intro hk;obtain⟨h1,h2,h3,h4,h5,_⟩:=(zcp t n).1 hk;simp only[Gq,Ah] at h4 h5;exact h ⟨h1,om,h3,h4.1,h4.2,h5.1,h5.2⟩
theorem zpv{t:Term}{n:Int}(h1:n<=4)(h2:(t.parts.length:Int)<=4)(h3:EJ t.outer=true)(h4:-1114111<=t.base/\t.base<=1114111)(h5:-1114111<=t.sum/\t.sum<=1114111):askT t n=(Ka t.parts&&t.parts.all λp=>EP p n):=by
 rw[Ep,zcp,Ac];simp only[Gq,Ah,prtB];exact⟨λh=>h.2.2.2.2.2,λh=>⟨h1,om,h3,h4,h5,h⟩⟩
theorem zcq(t:Term)(n:Int)(h64:∀x∈[t.base,t.sum],-9223372036854775808<x/\x<=9223372036854775807)(hl:t.parts.length<=1000000000000):PC Tryz.prog 192 [C9 t,.int .i64 n] (.bool (askT t n)):=by
 have hb:=h64 t.base oc;have hs:=h64 t.sum oc;have hO:=LZ t;refine Cd Yp ?_;unfold Qf;(with_reducible repeat'(first|simp(disch:=omega)only[push_cast,↓zz,seval]|refine sp_ ?_ ?_<;>try(intro hc;push_cast at hc)|refine ee hO ?_|(refine cc hO ?_;simp(disch:=omega)only[push_cast,↓zz,seval];fail_if_success change False)|omega|intro _))
 all_goals first
  |(refine zpu λhk=>?_;first|omega|(rw[‹EJ t.outer=false›] at hk;exact Bool.noConfusion hk.2.2.1))
  |skip
 all_goals
  rw[zpv om om ‹_› om om]
  refine Ba (B7 (λ(k:Nat)=>k<=t.parts.length/\(Ka t.parts&&t.parts.all λp=>EP p n)=(Ka (t.parts.drop (k-1))&&(t.parts.drop k).all λp=>EP p n)) (λk=>t.parts.length-k)
   (λk=>[(1,.int .i64 n),(2,.ptr 0 1 0 0),(51,Cu t.parts),(52,.int .i64 t.parts.length),(53,.int .i64 k)]) (λ_=>[⟨6,1,true,[C9 t]⟩]) (λenv _=>[D4 6 (env 2)]) 0 oc ?_ ?_)
  ·exact gwA
  rintro k ⟨hk,hr⟩;refine W_T ?_;have hR:=H5 (nth t.parts k) n;(with_reducible repeat'(first|simp(disch:=omega)only[push_cast,↓zz,seval]|refine sp_ ?_ ?_<;>try(intro hc;push_cast at hc)|refine ee hR ?_|(refine cc hR ?_;simp(disch:=omega)only[push_cast,↓zz,seval];fail_if_success change False)|omega|intro _))
 all_goals first
  |(rw[hr,VP om,Ao om];rfl)
  |(rw[hr,z1e om,‹EP (nth t.parts k) n=false›];simp;done)
  |(rw[hr,MK (i:=k-1) om,show k-1+1=k by omega,By om];simp;done)
  |(refine⟨k+1,om,⟨om,?_⟩,om⟩
    rw[hr,MK (i:=k-1) om,show k-1+1=k by omega,z1e om,‹EP (nth t.parts k) n=true›,Bv om]
    simp;done)
  |(obtain rfl:k=0:=om
    refine⟨1,om,⟨om,?_⟩,om⟩;rw[hr,z1e om,‹EP (nth t.parts 0) n=true›]
    simp;done)
  
theorem IW{y:AV}{l l0 gar:List Grp}(d:Nat)(ks:List Nat)(hok:DX d ((Abs.hl l).only ks) y)(hk:Ec 0 ks l=l0++gar)(hcl:∀G∈l0,ltL l0.length G.xs){z:AV}(hz:frzV d ((Abs.hl l).only ks) y=z)(hp:z.pure=true):
 Ent 1 l0.length (λ_=>y) (Abs.hl l) (λ_=>z) (Abs.hl l0):=by
 refine (Qz 0 d ks hok).trans ((K7 (H':=Abs.hl (l0++gar)) ?_ ?_).trans ((I9 (Ab _) hcl λi hi=>?_).trans ?_))
 ·rw[<-hk];simp[Abs.hl,A4.kill,Gm]
 ·intro g hg
  show (l0++gar).getD g default=if g∈ks then (l.getD g default).dead else l.getD g default
  rw[<-hk,IL 0 ks l g hg,AY]
 ·obtain rfl:i=0:=om
  show ltV _ (if (0:Nat)=0 then frzV d ((Abs.hl l).only ks) y else y);rw[Ae rfl,hz];exact AL _ _ hp
 ·intro S val hb hS hv
  refine Ent.refl S val hb hS λi hi=>?_;obtain rfl:i=0:=om
  have:=hv 0 om;change VRel S (if (0:Nat)=0 then frzV d ((Abs.hl l).only ks) y else y) _ at this;rw[Ae rfl,hz] at this;exact this
abbrev Hl(P:List (List Part)):AV:=.lst 1 (P.map Cu)
abbrev fndV(W:List Span)(G:List (List Span))(A:List Int)(P:List (List Part))(M:List Int)(s:Int):AV:=.agg [AA W,AQ G,FY A,Hl P,FY M,.int .i64 s]
abbrev fndL(W:List Span)(G:List (List Span))(A:List Int)(P:List (List Part))(M:List Int)(s:Int):List Grp:=[⟨6,1,true,[fndV W G A P M s]⟩]
theorem IX(W:List Span)(G:List (List Span))(A:List Int)(P:List (List Part))(M:List Int)(s:Int):(fndV W G A P M s).pure=true:=by
 have pP:AJ (P.map Cu)=true:=CO (λl=>by simp[Cu,AV.pure,Cx]) P;simp[fndV,AV.pure,AJ,Cs,B0,C4,pP,AA,AQ,FY]
theorem Ze(W:List Span)(G:List (List Span))(A:List Int)(P:List (List Part))(M:List Int)(s:Int)(k:Nat)(hk:k<=A.length)(hl:A.length<=1000000)(hA:∀a∈A,0<=a/\a<G.length)(hg:G.length<=1000000):
 B9 Tryz.prog 221 [.ptr 0 1 0 0,.int .i64 k] (Abs.hl (fndL W G A P M s)) λy H'=>y=AQ ((A.drop k).map λa=>nth G a.toNat)/\H'=Abs.hl (fndL W G A P M s):=by
 have pF:=IX W G A P M s;have pA:=C4 .i64 A;refine EU (Gh (b:=1) N1 rfl ?_);unfold Jy;have dA:List.drop k (List.map (AV.int .i64) A)=List.map (AV.int .i64) (A.drop k):=List.map_drop.symm;have pD:=C4 .i64 (A.drop k);have lD:(A.drop k).length=A.length-k:=List.length_drop;generalize hR:(A.drop k).map (λa=>nth G a.toNat)=R;have lR:R.length=A.length-k:=by rw[<-hR,Au,lD]
 have pR:=B0 R;have f_:=Aa pA (Aa pF (Aa dA pD));refine ywB ?_;clear f_
 all_goals
  refine Ba (B7 (λ(i:Nat)=>i<=R.length) (λi=>R.length-i)
   (λi=>[(0,.ptr 0 1 0 0),(5,.ref 1 1 0 i),(13,FY (A.drop k)),(14,.int .i64 R.length),(15,.int .i64 i)]) (λi=>fndL W G A P M s++[⟨1,1,false,(R.take i).map AA⟩]) (λenv _=>[D4 1 (env 5)]) 0 oc ?_ ?_)
  ·(with_reducible repeat'(first|simp(disch:=omega)only[push_cast,↓zz,seval,pA,pF,dA,pD,lR,List.take_zero,AX]|refine sp_ ?_ ?_<;>try(intro hc;push_cast at hc)|omega|intro _))
  intro i hi;refine W_T ?_;rcases Aj i R.length with hil|hil
  ·have e1:R.take (i+1)=R.take i++[nth R i]:=by rw[List.take_add_one];simp[nth,Ak,hil]
   have lT:(R.take i).length=i:=by rw[Bb];omega
   have hd:nth (A.drop k) i=nth A (k+i):=U3 A k i;have hm:nth A (k+i)∈A:=Bi om;have hb:=hA _ hm
   have hn:nth R i=nth G (nth A (k+i)).toNat:=by
    rw[<-hR,z5p om,hd]
   have f_:=Aa pA (Aa pF (Aa dA (Aa pD (Aa lT hd))));refine ywB ?_;clear f_
   all_goals
    refine⟨i+1,?_⟩;rw[e1,Aw,List.map_singleton,hn];have f_:=Aa pA (Aa pF (Aa dA (Aa pD lT)));exact gwB
  ·obtain rfl:i=R.length:=om
   (with_reducible repeat'(first|simp(disch:=omega)only[push_cast,↓zz,seval,pA,pF,dA,pD,As]|refine sp_ ?_ ?_<;>try(intro hc;push_cast at hc)|omega|intro _))
   all_goals
    refine⟨_,_,IW (l0:=fndL W G A P M s) (gar:=[(⟨1,1,false,R.map AA⟩:Grp).dead]) 4 [1] (z:=AQ R) ?_ ?_ ?_ ?_ ?_,rfl,rfl⟩
    ·(simp(disch:=omega)only[push_cast,↓zz,seval,pR])
    ·rfl
    ·intro g hg
     obtain rfl:g=_:=by simpa using hg
     exact⟨AL _ _ pF,oy⟩
    ·(simp(disch:=omega)only[push_cast,↓zz,seval,pR])
    ·simp[AQ,AV.pure,pR]
end Go.Proofs.YtflibbceibjddaaGreat
namespace Go.Proofs
open Go.Shelf
def Tryz.sortCh_ren:Go.Shelf.Ren:=⟨fun|6=>237|15=>139|14=>247|28=>164|29=>165|20=>249|21=>250|22=>251|23=>252|24=>253|25=>254|26=>255|27=>256|46=>257|47=>182|48=>183|49=>258|50=>259|57=>260|n=>n,fun|22=>251|24=>255|25=>267|3=>3|39=>179|0=>0|53=>196|55=>198|4=>4|46=>190|45=>189|50=>141|5=>5|9=>9|66=>212|70=>216|76=>237|77=>103|n=>n,fun|n=>n⟩
theorem Tryz.sortCh:Go.Proofs.SlLaysF0.n6 Tryz.prog Tryz.sortCh_ren:={
 mixed:=by kernel_rfl
 f6:=⟨Tryz.f237.name,by decide,Tryz.func237.trans (congrArg some (by kernel_rfl))⟩
 f14:=⟨Tryz.f247.name,by decide,Tryz.func247.trans (congrArg some (by kernel_rfl))⟩
 f15:=Tryz.func139.trans (congrArg some (by kernel_rfl))
 f20:=⟨Tryz.f249.name,by decide,Tryz.func249.trans (congrArg some (by kernel_rfl))⟩
 f21:=⟨Tryz.f250.name,by decide,Tryz.func250.trans (congrArg some (by kernel_rfl))⟩
 f22:=⟨Tryz.f251.name,by decide,Tryz.func251.trans (congrArg some (by kernel_rfl))⟩
 f23:=⟨Tryz.f252.name,by decide,Tryz.func252.trans (congrArg some (by kernel_rfl))⟩
 f24:=⟨Tryz.f253.name,by decide,Tryz.func253.trans (congrArg some (by kernel_rfl))⟩
 f25:=⟨Tryz.f254.name,by decide,Tryz.func254.trans (congrArg some (by kernel_rfl))⟩
 f26:=⟨Tryz.f255.name,by decide,Tryz.func255.trans (congrArg some (by kernel_rfl))⟩
 f27:=⟨Tryz.f256.name,by decide,Tryz.func256.trans (congrArg some (by kernel_rfl))⟩
 f28:=Tryz.func164.trans (congrArg some (by kernel_rfl))
 f29:=Tryz.func165.trans (congrArg some (by kernel_rfl))
 f46:=⟨Tryz.f257.name,by decide,Tryz.func257.trans (congrArg some (by kernel_rfl))⟩
 f47:=Tryz.func182.trans (congrArg some (by kernel_rfl))
 f48:=Tryz.func183.trans (congrArg some (by kernel_rfl))
 f49:=⟨Tryz.f258.name,by decide,Tryz.func258.trans (congrArg some (by kernel_rfl))⟩
 f50:=⟨Tryz.f259.name,by decide,Tryz.func259.trans (congrArg some (by kernel_rfl))⟩
 f57:=⟨Tryz.f260.name,by decide,Tryz.func260.trans (congrArg some (by kernel_rfl))⟩
 t0:=Tryz.underlying0
 a0:=Tryz.isAgg0
 z0:=Tryz.sizeOf0
 v0:=Tryz.zeroValue0
 t3:=Tryz.underlying3
 a3:=Tryz.isAgg3
 z3:=Tryz.sizeOf3
 v3:=Tryz.zeroValue3
 t4:=Tryz.underlying4
 a4:=Tryz.isAgg4
 z4:=Tryz.sizeOf4
 v4:=Tryz.zeroValue4
 t5:=Tryz.underlying5
 a5:=Tryz.isAgg5
 z5:=Tryz.sizeOf5
 v5:=Tryz.zeroValue5
 t9:=Tryz.underlying9
 a9:=Tryz.isAgg9
 z9:=Tryz.sizeOf9
 v9:=Tryz.zeroValue9
 t22:=Tryz.underlying251
 a22:=Tryz.isAgg251
 z22:=Tryz.sizeOf251
 v22:=Tryz.zeroValue251
 t25:=Tryz.underlying267
 a25:=Tryz.isAgg267
 z25:=Tryz.sizeOf267
 v25:=Tryz.zeroValue267
 t39:=Tryz.underlying179
 a39:=Tryz.isAgg179
 z39:=Tryz.sizeOf179
 v39:=Tryz.zeroValue179
 t45:=Tryz.underlying189
 a45:=Tryz.isAgg189
 z45:=Tryz.sizeOf189
 v45:=Tryz.zeroValue189
 t46:=Tryz.underlying190
 a46:=Tryz.isAgg190
 z46:=Tryz.sizeOf190
 v46:=Tryz.zeroValue190
 t50:=Tryz.underlying141
 a50:=Tryz.isAgg141
 z50:=Tryz.sizeOf141
 v50:=Tryz.zeroValue141
 t53:=Tryz.underlying196
 a53:=Tryz.isAgg196
 z53:=Tryz.sizeOf196
 v53:=Tryz.zeroValue196
 t55:=Tryz.underlying198
 a55:=Tryz.isAgg198
 z55:=Tryz.sizeOf198
 v55:=Tryz.zeroValue198
 t66:=Tryz.underlying212
 a66:=Tryz.isAgg212
 z66:=Tryz.sizeOf212
 v66:=Tryz.zeroValue212
 t70:=Tryz.underlying216
 a70:=Tryz.isAgg216
 z70:=Tryz.sizeOf216
 v70:=Tryz.zeroValue216
 t76:=Tryz.underlying237
 a76:=Tryz.isAgg237
 z76:=Tryz.sizeOf237
 v76:=Tryz.zeroValue237
 t77:=Tryz.underlying103
 a77:=Tryz.isAgg103
 z77:=Tryz.sizeOf103
 v77:=Tryz.zeroValue103 }
end Go.Proofs
namespace Go.Proofs.YtflibbceibjddaaGreat
open Abs O1 O2 O3 Go.Shelf Go.RowKit Go.Lib Go.Sort
abbrev choV(c:Cho):AV:=.agg [.int .i64 c.1,AA c.2]
abbrev QU(l:List Cho):AV:=.lst 2 (l.map choV)
theorem HN(l:List Cho):AJ (l.map choV)=true:=CO (λc=>by simp[choV,AV.pure,AJ,Cs]) l
def CV(S:MS):Type:={ p:Cho × Value // VRel S (AA p.1.2) p.2/\0<=p.1.1/\p.1.1<=1099511627776 }
instance (S:MS):Inhabited (CV S):=⟨⟨((0,[]),.slice none 0 0),⟨rfl,ox,none,0,[],rfl,⟨Ab _,λ_=>rfl⟩,rfl,λh=>absurd rfl h⟩,ox,ox⟩⟩
def encC(S:MS)(p:CV S):List Value:=[.int .i64 p.val.1.1,p.val.2]
def cfC(S:MS)(p q:CV S):Int:=p.val.1.1-q.val.1.1
theorem ltCC(S:MS)(p q:CV S):ltOf (cfC S) p q=decide (p.val.1.1<q.val.1.1):=by
 unfold ltOf cfC;rw[Dv];omega
theorem swoC(S:MS):SWO (ltOf (cfC S)) where
 irrefl x:=by rw[ltCC];simp
 trans x y z h1 h2:=by rw[ltCC] at *;simp at *;omega
 ntrans x y z h1 h2:=by rw[ltCC] at *;simp at *;omega
theorem z6j(a b:Int)(s t:List Span)(ha:0<=a/\a<=1099511627776)(hb:0<=b/\b<=1099511627776):PC Tryz.prog 238 [.agg [.int .i64 a,AA s],.agg [.int .i64 b,AA t]] (.int .i64 (a-b)):=by
 refine Cd Kd ?_;unfold Hq;exact gwA
theorem zuz:∀w,(isAgg (Tryz.sortCh_ren.t 24)).run Tryz.prog w=.ok true w:=Tryz.isAgg255
theorem zpw:∀w,(Go.sizeOf (Tryz.sortCh_ren.t 24)).run Tryz.prog w=.ok 2 w:=Tryz.sizeOf255
theorem KI{α:Type}[Inhabited α](enc:α->List Value)(K:Nat)(w:World)(b m:Nat)(d:Array α)(os:Array Obj):w.heap.size<=(sortWorldK enc K w b 0 m d os).heap.size:=by
 show _<=((w.heap.modify _ _)++os).size;rw[Fu,Ci];omega
theorem Kb{α:Type}[Inhabited α](enc:α->List Value)(K:Nat)(w:World)(b m:Nat)(d:Array α)(os:Array Obj){k:Nat}(hk:k<w.heap.size)(hb:b≠k):(sortWorldK enc K w b 0 m d os).heap[k]? = w.heap[k]? := by
 show ((w.heap.modify _ _)++os)[k]? = _;rw[B2 (by rw[Ci];exact hk),C2,Ad hb]
theorem z6k(S:MS){H:A4}(hS:SRel S H){blk:Nat}(hni:¬S.im blk)(size:Nat):CmpLays Tryz.prog 238 #[] (encC S) 2 (cfC S) blk 0 size S.w:=by
 intro m os dk _ x y;obtain⟨W,hW⟩:∃W,W=sortWorldK (encC S) 2 S.w blk 0 m dk os:=⟨_,rfl⟩;rw[<-hW];have hsz:S.w.heap.size<=W.heap.size:=by rw[hW];exact KI ..
 let S2:MS:=⟨W,S.im,λb=>b<W.heap.size,0,λ_=>0,λ_=>0,λ_=>0,λ_=>0,0⟩
 have hS2:SRel S2 A4.nil:=⟨rfl,λg hg=>absurd hg (AZ _),λg _ hg=>absurd hg (AZ _),λb hb=>hb.elim (λh=>AO (hS.im b (.inl h)) hsz) id⟩
 have hev:Evi S { S with w:=W }:=⟨λb hb=>by
  show W.heap[b]? = _;rw[hW]
  exact Kb _ _ _ _ _ _ _ (hS.im b (.inl hb)) (λe=>hni (e ▸ hb)),λ_ h=>h,Ab _,λ_ _=>Ab _,λ_ _ _=>⟨rfl,rfl,rfl⟩⟩
 have tr:∀z:CV S,VRel S2 (AA z.val.1.2) z.val.2:=λz=>VRel.of_pure (S:={ S with w:=W }) (S':=S2) rfl (λ_ h=>h) (by simp[AA,AV.pure,Cs]) (VRel.moni hev _ z.property.1);refine ((z6j x.val.1.1 y.val.1.1 x.val.1.2 y.val.1.2 x.property.2 y.property.2).2 S2 [.agg (encC S x).toArray,.agg (encC S y).toArray] hS2 ⟨_,_,rfl,⟨_,rfl,_,_,rfl,rfl,_,_,rfl,tr x,rfl⟩,_,_,rfl,⟨_,rfl,_,_,rfl,rfl,_,_,rfl,tr y,rfl⟩,rfl⟩).mono λe w' hh=>?_;obtain⟨v,S',z,H',rfl,rfl,ev,_,hv,rfl,_⟩:=hh;have hv':v=.int .i64 (x.val.1.1-y.val.1.1):=hv;subst hv';have hsz2:W.heap.size<=S'.w.heap.size:=ev.size;refine⟨rfl,S'.w.drawn-W.drawn,S'.w.heap.extract W.heap.size S'.w.heap.size,WO ?_ ev.tape.1 ?_ ev.os ev.output⟩
 ·show S'.w.heap=W.heap++_
  refine Array.ext_getElem? λi=>?_;rcases Aj i W.heap.size with hi|hi
  ·rw[B2 hi]
   exact ev.kept i (.inr hi)
  ·rw[Array.getElem?_append_right hi,Array.getElem?_extract]
   rcases Aj i S'.w.heap.size with h2|h2
   ·rw[Ae om];congr 1;omega
   ·rw[Ad om,CF om]
 ·show S'.w.drawn=W.drawn+(S'.w.drawn-W.drawn)
  have:=ev.tape.2;have h2:W.drawn<=S'.w.drawn:=this;omega
abbrev OA{S:MS}(p:CV S):Value:=.agg #[.int .i64 p.val.1.1,p.val.2]
theorem Xd{S:MS}:∀{l:List Cho}{vs:List Value},(∀c∈l,0<=c.1/\c.1<=1099511627776)->AB S (l.map choV) vs->∃pl:List (CV S),pl.map (λp=>p.val.1)=l/\pl.map OA=vs
 |[],vs,_,h=>⟨[],rfl,h.symm⟩
 |x::l,vs,hl,⟨v,r,hv,h1,h2⟩=>by
  obtain⟨pl,a,b⟩:=Xd (λw hw=>hl w (by simp[hw])) h2;obtain⟨ws,rfl,a1,r1,rfl,rfl,c1,r2,rfl,hc,rfl⟩:=h1;exact⟨⟨(x,c1),hc,hl x oc⟩::pl,by show x::pl.map _=x::l;rw[a],by rw[hv,<-b];rfl⟩
theorem U9{S:MS}(p:CV S):∃a n c,p.val.2=.slice a n c:=by
 obtain⟨_,_,a,cap,vs,hv,_⟩:=p.property.1;exact⟨a,_,cap,hv⟩
theorem Ni{S:MS}(p:CV S):(OA p).cells=#[.int .i64 p.val.1.1,p.val.2]:=by
 obtain⟨a,n,c,h⟩:=U9 p;rw[OA,h];rfl
theorem zcr{S:MS}(d:Array (CV S))(i j:Nat)(hi:i<d.size)(hj:j<2):(flatK (encC S) 2 d)[i * 2+j]! = (encC S d[i]!)[j]! := by
 rw[get_flatK _ _ _ _ om,show (i * 2+j) / 2=i from by omega,show (i * 2+j) % 2=j from by omega]
theorem zj3{S:MS}{b:Nat}{cells:Array Value}{T:TypeId}{pl:List (CV S)}(hb:S.w.heap[b]? = some (.cells cells T (0,0)))(hf:Hg cells 2 (pl.map OA)):HoldsK (encC S) 2 S.w b 0 pl.toArray:=by
 intro j hj;rw[size_flatK,BN] at hj;have hi:j / 2<pl.length:=om
 have he:(pl.map OA)[j / 2]? = some (OA pl[j / 2]):=by simp[hi]
 obtain⟨_,_,h3⟩:=hf _ _ he;have h4:=h3 (j % 2) om;rw[show j / 2 * 2+j % 2=j from by omega,Ni] at h4;have h5:=zcr pl.toArray (j / 2) (j % 2) (by simpa using hi) om;rw[show j / 2 * 2+j % 2=j from by omega] at h5;refine⟨?_,?_⟩
 ·simp only[World.cell?,hb,AY,Option.isSome_none,A8,Bq,h4,id,h5]
  have hg:pl.toArray[j / 2]! = pl[j / 2]:=by simp[hi]
  rw[hg];rcases Nat.mod_two_eq_zero_or_one j with h|h<;>rw[h]<;>simp[encC]
 ·simp[World.frozen?,hb]
theorem zpx{S:MS}{b n:Nat}{cells:Array Value}{T:TypeId}{d:Array (CV S)}{os:Array Obj}(hb:S.w.heap[b]? = some (.cells cells T (0,0)))(hsz:d.size * 2<=cells.size):
 ∃cells',(sortWorldK (encC S) 2 S.w b 0 n d os).heap[b]? = some (.cells cells' T (0,0))/\cells'.size=cells.size/\Hg cells' 2 (d.toList.map OA):=by
 have hlt:b<S.w.heap.size:=(AU.1 hb).1;refine⟨putCells id 0 (flatK (encC S) 2 d) cells,?_,by simp[putCells],λi v hv=>?_⟩
 ·show ((S.w.heap.modify b _)++os)[b]? = _
  rw[B2 (by rw[Ci];exact hlt),C2,Ae rfl,hb];rfl
 ·rw[Df] at hv
  obtain⟨x,hx,rfl⟩:=Ag.1 hv;have hi:i<d.size:=by have:=(Bh.1 hx).1;simpa using this
  refine⟨by rw[Ni];rfl,λc hc=>?_,λj hj=>?_⟩
  ·rw[Ni] at hc
   obtain⟨a,n,q,h⟩:=U9 x;rw[h] at hc;simp at hc;rcases hc with rfl|rfl<;>rfl
  ·have h5:=zcr d i j hi hj
   have hlt2:i * 2+j<cells.size:=om
   have hd:d[i]! = x:=by
    rw[D2] at hx;rw[getElem!_pos d i hi];exact (AU.1 hx).2
   rw[putCells,Ev,D7 hlt2];simp only[Option.map_some,Ap,Dz,AY,size_flatK,Nat.sub_zero];rw[Ae om,h5,hd,Ni];rcases (by omega:j=0\/j=1) with rfl|rfl<;>simp[encC]
def NM(l:List Cho):Prop:=l.Pairwise λa b=>a.1<=b.1
theorem zcs{S:MS}{d:Array (CV S)}(h:SortedIn (ltOf (cfC S)) 0 d.size d):NM (d.toList.map λp=>p.val.1):=by
 rw[NM,DJ,D8];intro i j hi hj hij;have hi':i<d.size:=by simpa using hi
 have hj':j<d.size:=by simpa using hj
 have:=h i j (Ap _) hij hj';rw[ltCC,getElem!_pos d j hj',getElem!_pos d i hi'] at this;simp at this;simpa using this
theorem zct{S:MS}:∀(pl:List (CV S)),AB S (pl.map λp=>choV p.val.1) (pl.map OA)
 |[]=>rfl
 |p::pl=>⟨_,_,rfl,⟨_,rfl,_,_,rfl,rfl,_,_,rfl,p.property.1,rfl⟩,zct pl⟩
theorem zpy{H:A4}{g ver:Nat}{ex:Bool}{l:List Cho}(hg:g<H.n)(hG:H.at_ g=⟨2,ver,ex,l.map choV⟩)(h1:l≠[])(hl:l.length<4611686018427387904)(hw:∀c∈l,0<=c.1/\c.1<=1099511627776):
 B9 Tryz.prog 237 [.ref g ver 0 l.length,.fn 238 []] H λy H'=>y=.tup []/\∃l':List Cho,l'.Perm l/\NM l'/\H'=H.set g ⟨2,ver,ex,l'.map choV⟩:=by
 have eg:∀args w,(callFunc 238 args).run Tryz.prog w=.ok (.enter 238 args) w:=enters_of Tryz.func238 (by kernel_rfl) rfl;refine⟨enters_of Tryz.func237 (by kernel_rfl) rfl,λS cargs hS hx=>?_⟩;obtain⟨v1,r1,rfl,⟨_,hgn,_,hv1⟩,v2,r2,rfl,⟨lb,rfl,rfl⟩,rfl⟩:=hx;have hgr:=hS.grp g hg;rw[hG] at hgr;obtain⟨a,cap',rfl,hcase⟩:=hv1 hgr.ver;have hpos:0<l.length:=by cases l;exact absurd rfl h1;simp
 obtain⟨rfl,rfl,hcap⟩:=hcase.resolve_right (λh=>by omega);have hlen:l.length<=S.cap g:=by have:=hgr.len (show 0<2 by decide);simpa using this
 obtain⟨⟨cells,T,vs,b1,b2,b3,b4⟩,hni⟩:=hgr.live (show 0<2 by decide) om;obtain⟨pl,e1,rfl⟩:=Xd hw b3;have b2':cells.size=S.cap g * 2:=b2;have hpl:pl.length=l.length:=by rw[<-e1,Au]
 have hblk:S.place g<S.w.heap.size:=(AU.1 b1).1
 have hcon:=AnyQ.slices_SortFunc Tryz.sortCh 2 zuz zpw (encC S) (λ_=>rfl) (λx v hv=>by
  obtain⟨a,n,q,h⟩:=U9 x;simp only[encC,h,Af,An,A7] at hv
  rcases hv with rfl|rfl<;>rfl) (cfC S) (swoC S) 238 #[] (S.place g) 0 (S.cap g-0) pl.toArray S.w eg (z6k S hS (λh=>hni (.inl h)) _) (zj3 b1 b4) hblk (by simp;omega)
 change Calls Tryz.prog 237 _ _ _ at hcon;rw[BN,hpl] at hcon;rw[Ft];refine hcon.mono λe w' ⟨he,d',n,os,hp,hs,hw'⟩=>?_;subst he hw';obtain⟨q1,q2,q3⟩:=hp;have q1:d'.size=l.length:=by simpa [hpl] using q1
 have hperm:(d'.toList.map λp=>p.val.1).Perm l:=by
  rw[CU,CU] at q3;have q4:d'.toList.Perm pl:=by simpa [List.extract,q1,hpl,Ay (show d'.toList.length<=l.length by simp[q1]),Ay (show pl.length<=l.length by omega)] using q3
  rw[<-e1];exact q4.map _
 rw[<-q1] at hs;obtain⟨cells',c1,c2,c3⟩:=zpx (n:=n) (d:=d') (os:=os) b1 om;have hoth:∀b,b≠S.place g->b<S.w.heap.size->(sortWorldK (encC S) 2 S.w (S.place g) 0 n d' os).heap[b]? = S.w.heap[b]? := λb hb hlt=>Kb _ _ _ _ _ _ _ hlt (Du hb);have hmm:(d'.toList.map λp=>p.val.1).map choV=d'.toList.map λp=>choV p.val.1:=by rw[BP];rfl
 have hh:=hS.moved hg (by rw[hG];exact (show 0<2 by decide)) (sortWorldK (encC S) 2 S.w (S.place g) 0 n d' os) (S.place g) (S.cap g) ⟨2,ver,ex,(d'.toList.map λp=>p.val.1).map choV⟩ rfl ⟨rfl,EM _ _⟩ rfl
  (KI ..)
  (λb hb hlt=>hoth b (λe=>hb ⟨om,e⟩) hlt)
  (.inl ⟨om,rfl⟩) (λ_=>⟨cells',T,_,c1,by rw[c2];exact b2',by rw[hmm];exact zct _,c3⟩) (by simp[q1];exact hlen)
  (λhx=>by have:=hgr.full (show 0<2 by decide) hx;simp at this;simp[q1];exact this) (show 0<2 by decide) (by rw[hgr.ver];exact Ab _) (λ_=>⟨rfl,rfl,by rw[hgr.wid]⟩)
 exact⟨_,_,.tup [],_,rfl,rfl,hh.1,hh.2,⟨[],rfl,rfl⟩,rfl,_,hperm,zcs hs,rfl⟩
def choR:Option (List Cho)->AV
 |none=>.tup [.nilS,.bool false]
 |some cs=>.tup [QU cs,.bool true]
theorem QV(o:Option (List Cho)):(choR o).pure=true:=by
 cases o with
 |none=>rfl
 |some cs=>simp[choR,QU,AV.pure,AJ,HN]
theorem Zf(W:List Span)(G:List (List Span))(A:List Int)(P:List (List Part))(M:List Int)(st:Int)(k:Nat)(hk:k<A.length)(hP:P.length=A.length)(ha:0<=nth A k/\nth A k<G.length)(hg:G.length<=1000000)(hA:A.length<=1000000)
 (h1:(nth P k).length=1) (hs:(nth G (nth A k).toNat).length<=100000) (hIl:(imgL (nth (nth P k) 0) (nth G (nth A k).toNat)).length<=1000000000) (hc:cntI (AR (imgL (nth (nth P k) 0) (nth G (nth A k).toNat)))<=1000000000) (hn:(Dx (AR (imgL (nth (nth P k) 0) (nth G (nth A k).toNat)))).length<=1000000000) :
 B9 Tryz.prog 222 [.ptr 0 1 0 0,.int .i64 k] (Abs.hl (fndL W G A P M st)) λy H'=>y=choR (choL (nth G (nth A k).toNat) (nth P k))/\H'=Abs.hl (fndL W G A P M st):=by
 have pF:=IX W G A P M st;have pA:=C4 .i64 A;have pP:AJ (P.map Cu)=true:=CO (λl=>by simp[Cu,AV.pure,Cx]) P;rw[choL,Ae h1];generalize hsv:nth G (nth A k).toNat=s at *;generalize hlv:nth P k=l at *;have hI:=Lb (nth l 0) s om;generalize hw:imgL (nth l 0) s=w at *;have hC:=z6f w hIl;have hE:=J4 w om;refine EU (Gh (b:=1) HZ rfl ?_);unfold HX;(with_reducible repeat'(first|simp(disch:=omega)only[push_cast,↓zz,seval,pA,pP,pF,hsv,hlv,h1]|refine sp_ ?_ ?_<;>try(intro hc;push_cast at hc)|refine ee hI ?_|refine ee hC ?_|refine ee hE ?_|((first|refine cc hI ?_|refine cc hC ?_|refine cc hE ?_);simp(disch:=omega)only[push_cast,↓zz,seval,pA,pP,pF,hsv,hlv,h1];fail_if_success change False)|omega|intro _))
 all_goals first
  |(rw[Ae ‹_›]
    refine⟨_,_,IU (l0:=fndL W G A P M st) rfl (Ab _) ?_ (AL _ _ rfl),rfl,rfl⟩;intro g hg;obtain rfl:g=_:=by simpa using hg
    exact⟨AL _ _ pF,oy⟩)
  |skip
 all_goals
  rw[Ad ‹_›];have hit:=J3 (AR w) (by have:=En w;omega) (E6 w);generalize Dx (AR w)=m at *
  refine Kv (Sf (σ:=Nat × List Cho) (λj q=>q.2=(m.take j).map (λv=>(v,preL (nth l 0) s [⟨v,v⟩]))/\q.2.length<=j) [(4,.ptr 1 1 0 0),(5,.ptr 2 1 0 0),(6,.ptr 3 1 0 0),(7,.ptr 4 1 0 0),(9,.ptr 5 1 0 0),(53,.fn 232 [.cptr (AA (AR w))])]
   (λq=>fndL W G A P M st++[⟨1,1,true,[.nilS]⟩,⟨1,1,true,[.bool false]⟩,⟨1,1,true,[AA s]⟩,⟨1,1,true,[Cu l]⟩,⟨1,1,true,[.ref 6 q.1 0 q.2.length]⟩,⟨2,q.1,false,q.2.map choV⟩])
   [.grp 3,.grp 4,.grp 5,.grp 6,.grp 7,.virt 2] 7 (1,[]) hit ?_ (λ_=>rfl) rfl ?_ rfl rfl (J5 _) (La _) oc ⟨oc,oc⟩ ?_ ?_)
  ·have f_:=pF;exact gwB
  ·exact gwA
  ·rintro j row ⟨v,out⟩ hrow ⟨hq,hlq⟩
   simp only at hq hlq;obtain⟨hj,rfl⟩:=S7 hrow;have hstep:(m.take (j+1)).map (λv=>((v,preL (nth l 0) s [⟨v,v⟩]):Cho))=out++[(nth m j,preL (nth l 0) s [⟨nth m j,nth m j⟩])]:=by rw[take_at hj,Aw,<-hq];rfl
   generalize nth m j=x at *;have hPre:=Uj (nth l 0) s [⟨x,x⟩] hs oc;have po:=HN out;refine W_T ?_;refine ywA ?_;refine W_T ?_;have f_:=po;have e_:=hPre;refine ywD ?_;clear f_ e_
   all_goals exact⟨(v+1,out++[(x,preL (nth l 0) s [⟨x,x⟩])]),⟨⟨rfl,oc⟩,rfl,by simp only[Aw,List.map_singleton];exact AN _ _⟩,hstep.symm,by simp only[Ai,List.length_singleton];omega⟩
  ·rintro⟨v,out⟩ ⟨hq,hlq⟩
   simp only at hq hlq;have po:=HN out;rw[Au,As] at hq;have f_:=Aa pF po;refine ywB ?_;clear f_
   all_goals
    refine⟨_,_,IW (l0:=fndL W G A P M st) 4 [6] (z:=choR (some out)) ?_ rfl ?_ ?_ (QV _),by rw[hq],rfl⟩
    ·(simp(disch:=omega)only[push_cast,↓zz,seval,po])
    ·intro g hg
     obtain rfl:g=_:=by simpa using hg
     exact⟨AL _ _ pF,oy⟩
    ·(simp(disch:=omega)only[push_cast,↓zz,seval,po,choR])
section
variable {P:Program}{H:A4}{K:AV->A4->Prop}{g h v hv n:Nat}{ids:List Nat}{xs:List AV}
theorem zkz:@opK P .lenM H [.map g v] ⟨K⟩=(OE H g v/\@nx (.int .i64 ((H.at_ g).xs.length / 2:Nat)) H ⟨K⟩):=(rfl)
theorem zj4:@opK P .rangeM H [.map g v] ⟨K⟩=(OE H g v/\@nx (.ptr H.n 1 0 0) (H.push ⟨0,1,true,itX g v (H.at_ g).xs.length []⟩) ⟨K⟩):=(rfl)
theorem zpz(hh:H.at_ h=⟨0,hv,true,itX g v (H.at_ g).xs.length ids⟩)(hm:OE H g v)
 (h1:∀j,2 * j<(H.at_ g).xs.length->j∉ids->@nx (.tup [.bool true,(H.at_ g).xs.getD (2 * j) .any,(H.at_ g).xs.getD (2 * j+1) .any]) (H.set h ⟨0,hv,true,itX g v (H.at_ g).xs.length (ids++[j])⟩) ⟨K⟩)
 (h2:(∀j,2 * j<(H.at_ g).xs.length->j∈ids)->@nx (.tup [.bool false]) H ⟨K⟩):@opK P .nextM H [.ptr h hv 0 0] ⟨K⟩:=by
 show (0=0/\0=0/\_);exact⟨rfl,rfl,by rw[hh],by rw[hh],by rw[hh],g,v,ids,by rw[hh],hm,h1,h2⟩
theorem zj5{j:Nat}(hh:H.at_ h=⟨0,hv,true,itX g v (H.at_ g).xs.length (ids++[j])⟩)(hm:OE H g v)(hj:2 * j<(H.at_ g).xs.length)
 (h1:@nx (.tup [(H.at_ g).xs.getD (2 * j) .any,(H.at_ g).xs.getD (2 * j+1) .any]) H ⟨K⟩):@opK P .entryM H [.ptr h hv 0 0] ⟨K⟩:=by
 show (0=0/\0=0/\_);exact⟨rfl,rfl,by rw[hh],by rw[hh],by rw[hh],g,v,ids,j,by rw[hh],hm,hj,h1⟩
end
theorem SY:∀{l l':List Cho},l'.Perm l->NM l'->l.Pairwise (λa b=>a.1<b.1)->l'=l
 |[],l',hp,_,_=>hp.eq_nil
 |x::l,[],hp,_,_=>absurd hp.length_eq oc
 |x::l,y::l',hp,hs,hl=>by
  obtain⟨hs1,hs2⟩:=AH.1 hs;obtain⟨hl1,hl2⟩:=AH.1 hl
  have e:y=x:=by
   rcases Af.1 (hp.subset (List.mem_cons_self ..)) with h|h
   ·exact h
   ·have h3:=hl1 y h
    rcases Af.1 (hp.symm.subset (List.mem_cons_self ..)) with h4|h4
    ·exact h4.symm
    ·have:=hs1 x h4
     omega
  subst e;rw[SY ((List.perm_cons y).1 hp) hs2 hl2]
def Jg(f:Int->Int)(xs:List Int):List Int:=xs.foldl (λS x=>if f x∈S then S else S++[f x]) []
theorem Pk(f:Int->Int):∀(xs S:List Int),S.Nodup->(xs.foldl (λS x=>if f x∈S then S else S++[f x]) S).Nodup/\∀n,n∈xs.foldl (λS x=>if f x∈S then S else S++[f x]) S↔n∈S\/n∈xs.map f
 |[],S,h=>⟨h,λn=>by simp⟩
 |x::xs,S,h=>by
  rw[List.foldl_cons];by_cases hx:f x∈S
  ·rw[Ae hx]
   obtain⟨h1,h2⟩:=Pk f xs S h;refine⟨h1,λn=>?_⟩;rw[h2,AD,Af];constructor
   ·rintro (h|h)
    ·exact .inl h
    ·exact .inr (.inr h)
   ·rintro (h|rfl|h)
    ·exact .inl h
    ·exact .inl hx
    ·exact .inr h
  ·rw[Ad hx]
   obtain⟨h1,h2⟩:=Pk f xs (S++[f x]) (Dg.2 ⟨h,oc,λa ha b hb e=>by simp at hb;subst hb;subst e;exact hx ha⟩);refine⟨h1,λn=>?_⟩;rw[h2,AD,Af,Av,Am,or_assoc]
theorem SZ(f:Int->Int)(xs:List Int):(Jg f xs).Nodup:=(Pk f xs [] Cm).1
theorem Pm{f:Int->Int}{xs:List Int}{n:Int}:n∈Jg f xs↔n∈xs.map f:=by
 rw[Jg,(Pk f xs [] Cm).2];simp
theorem QW(s:List Span)(ps:List Part):ER (NI s ps):=(Pe _ [] List.Pairwise.nil).1
theorem Xe(s:List Span)(ps:List Part):(Jg (totV ps) (Dx (AR s))).Perm (NI s ps):=by
 refine (List.perm_ext_iff_of_nodup (SZ _ _) ((QW s ps).imp λh=>Int.ne_of_lt h)).2 λn=>?_;rw[Pm,NI,(Pe _ [] List.Pairwise.nil).2.2];simp
theorem Zg{s:List Span}{ps:List Part}{out:List Cho}(hp:out.Perm ((Jg (totV ps) (Dx (AR s))).map λn=>(n,MV s ps n)))(hs:NM out):out=(NI s ps).map λn=>(n,MV s ps n):=by
 refine SY (hp.trans ((Xe s ps).map _)) hs ?_;rw[DJ];exact QW s ps
theorem zj6(s:List Span)(ps:List Part):(Jg (totV ps) (Dx (AR s))).length=(NI s ps).length:=(Xe s ps).length_eq
theorem Xf{f:Int->Int}{xs:List Int}{j:Nat}(h:j<xs.length):Jg f (xs.take (j+1))=if f (nth xs j)∈Jg f (xs.take j) then Jg f (xs.take j) else Jg f (xs.take j)++[f (nth xs j)]:=by
 have e:xs.take (j+1)=xs.take j++[nth xs j]:=by rw[List.take_add_one];simp[nth,Ak,h]
 rw[e,Jg,E2];rfl
theorem Xg{f:Int->Int}{xs:List Int}{j:Nat}:∀d,j+d<=xs.length->(Jg f (xs.take j)).length<=(Jg f (xs.take (j+d))).length
 |0,_=>Ab _
 |d+1,h=>by
  have h1:=Xg (f:=f) (xs:=xs) (j:=j) d om;have h2:=Xf (f:=f) (xs:=xs) (j:=j+d) om;rw[<-Bu,h2];split
  ·exact h1
  ·rw[Ai];omega
theorem zq0{f:Int->Int}{xs:List Int}{j:Nat}(h:j<=xs.length):(Jg f (xs.take j)).length<=(Jg f xs).length:=by
 have:=Xg (f:=f) (xs:=xs) (j:=j) (xs.length-j) om
 rwa [show j+(xs.length-j)=xs.length by omega,As] at this
def metL(f:Int->Int)(xs:List Int)(j:Nat)(n:Int):List Int:=(xs.take j).filter λx=>decide (f x=n)
theorem zj7{f:Int->Int}{xs:List Int}{j:Nat}(h:j<xs.length)(n:Int):metL f xs (j+1) n=if f (nth xs j)=n then metL f xs j n++[nth xs j] else metL f xs j n:=by
 have e:xs.take (j+1)=xs.take j++[nth xs j]:=by rw[List.take_add_one];simp[nth,Ak,h]
 rw[metL,e,BZ];by_cases hn:f (nth xs j)=n
 ·rw[Ae hn];simp[hn,metL]
 ·rw[Ad hn];simp[hn,metL]
theorem zq1{f:Int->Int}{xs:List Int}{j:Nat}{n:Int}:n∉Jg f (xs.take j)↔metL f xs j n=[]:=by
 rw[Pm,metL,List.filter_eq_nil_iff];simp only[Al,Ah];exact⟨λh x hx e=>h ⟨x,hx,e⟩,λh ⟨x,hx,e⟩=>h x hx e⟩
theorem Xh(gs:List (List Span))(hl:gs.length<=1000000)(hs:∀g∈gs,g.length<=1000000000):PC Tryz.prog 120 [AQ gs] (AQ (gs.map AR)):=by
 refine Cd Yj ?_;unfold PZ;refine ywA ?_
 refine Ba (B7 (λ(i:Nat)=>i<=gs.length) (λi=>gs.length-i)
  (λi=>[(3,.ref 0 1 0 i),(6,AQ gs),(7,.int .i64 gs.length),(8,.int .i64 i)]) (λi=>[⟨1,1,false,((gs.take i).map AR).map AA⟩]) (λenv _=>[D4 1 (env 3)]) 0 oc ?_ ?_)
 ·(with_reducible repeat'(first|simp(disch:=omega)only[push_cast,↓zz,seval,List.take_zero,AX]|refine sp_ ?_ ?_<;>try(intro hc;push_cast at hc)|omega|intro _))
 intro i hi;refine W_T ?_;have lT:((gs.take i).map AR).length=i:=by rw[Au,Bb];omega
 rcases Aj i gs.length with hil|hil
 ·have e1:gs.take (i+1)=gs.take i++[nth gs i]:=by rw[List.take_add_one];simp[nth,Ak,hil]
  have hN:=CE (nth gs i) (by have:=hs _ (Bi hil);omega);have f_:=lT;have e_:=hN;refine ywD ?_;clear f_ e_
  all_goals
   refine⟨i+1,?_⟩;rw[e1,Aw,Aw];(with_reducible repeat'(first|simp(disch:=omega)only[push_cast,↓zz,seval,lT,AD,AX]|refine sp_ ?_ ?_<;>try(intro hc;push_cast at hc)|omega|intro _))
 ·obtain rfl:i=gs.length:=om
  have lA:(gs.map AR).length=gs.length:=Au ..;(with_reducible repeat'(first|simp(disch:=omega)only[push_cast,↓zz,seval,lA,As]|refine sp_ ?_ ?_<;>try(intro hc;push_cast at hc)|omega|intro _))
  all_goals rw[Ay om]
theorem UA{α:Type}(p:α->Bool):∀(l:List α)(i:Nat),(FM (λr=>!p r) l i).isSome=l.any p
 |[],i=>rfl
 |r::l,i=>by
  rw[FM,List.any_cons,<-UA p l (i+1)];cases h:p r<;>simp
def HV(r:Rule):Bool:=!decide ((r.guards.length:Int)=1)
def GJ(f:DO):Bool:=decide (0<(f.guards.length:Int))
def UB(s:List Span):Bool:=decide (64<(s.length:Int))
theorem z6l(r:Rule):PC Tryz.prog 72 [DD r] (.bool (HV r)):=by
 refine Cd TF ?_;unfold M5 HV;exact gwA
theorem Xi(l:List Rule)(hl:l.length<=9223372036854775807):PC Tryz.prog 117 [CB l,.fn 72 []] (.int .i64 (match FM (λr=>!HV r) l 0 with|some i=>i|none=>-1)):=by
 generalize hT:FM (λr=>!HV r) l 0=T;refine Cd EO ?_;unfold D5;refine ywA ?_
 refine Ba (B7 (λ(k:Nat)=>k<=l.length/\T=FM (λr=>!HV r) (l.drop k) k) (λk=>l.length-k)
  (λk=>[(0,CB l),(1,.fn 72 []),(7,.int .i64 l.length),(8,.int .i64 k)]) (λk=>[]) (λ_ _=>[]) 0 ⟨oc,hT.symm⟩ ?_ ?_)
 ·exact gwA
 rintro k ⟨k1,k2⟩;rcases Aj k l.length with hk|hk
 ·have hF:=z6l (nth l k)
  rw[Lg hk] at k2;refine W_T ?_;cases he:HV (nth l k) with
  |true =>
   rw[he] at hF k2;rw[k2];have e_:=hF;exact gwC
  |false =>
   rw[he] at hF k2;have e_:=hF;refine ywC ?_;clear e_
   all_goals exact⟨k+1,by push_cast,⟨om,k2⟩,om⟩
 ·rw[Ao hk,FM] at k2
  rw[k2];refine W_T ?_;exact gwA
theorem QX(l:List Rule)(hl:l.length<=9223372036854775807):PC Tryz.prog 71 [CB l,.fn 72 []] (.bool (l.any HV)):=by
 have hI:=Xi l hl;rw[<-UA HV l 0];refine Cd E4 ?_;unfold Dm;cases h:FM (λr=>!HV r) l 0 with
 |none =>
  rw[h] at hI;have e_:=hI;exact gwC
 |some i =>
  rw[h] at hI;simp only at hI;have e_:=hI;exact gwC
theorem Zh(r:DO):PC Tryz.prog 74 [CY r] (.bool (GJ r)):=by
 refine Cd TG ?_;unfold M6 GJ;exact gwA
theorem UC(l:List DO)(hl:l.length<=9223372036854775807):PC Tryz.prog 118 [Cv l,.fn 74 []] (.int .i64 (match FM (λr=>!GJ r) l 0 with|some i=>i|none=>-1)):=by
 generalize hT:FM (λr=>!GJ r) l 0=T;refine Cd G1 ?_;unfold EB;refine ywA ?_
 refine Ba (B7 (λ(k:Nat)=>k<=l.length/\T=FM (λr=>!GJ r) (l.drop k) k) (λk=>l.length-k)
  (λk=>[(0,Cv l),(1,.fn 74 []),(7,.int .i64 l.length),(8,.int .i64 k)]) (λk=>[]) (λ_ _=>[]) 0 ⟨oc,hT.symm⟩ ?_ ?_)
 ·exact gwA
 rintro k ⟨k1,k2⟩;rcases Aj k l.length with hk|hk
 ·have hF:=Zh (nth l k)
  rw[Lg hk] at k2;refine W_T ?_;cases he:GJ (nth l k) with
  |true =>
   rw[he] at hF k2;rw[k2];have e_:=hF;exact gwC
  |false =>
   rw[he] at hF k2;have e_:=hF;refine ywC ?_;clear e_
   all_goals exact⟨k+1,by push_cast,⟨om,k2⟩,om⟩
 ·rw[Ao hk,FM] at k2
  rw[k2];refine W_T ?_;exact gwA
theorem OL(l:List DO)(hl:l.length<=9223372036854775807):PC Tryz.prog 73 [Cv l,.fn 74 []] (.bool (l.any GJ)):=by
 have hI:=UC l hl;rw[<-UA GJ l 0];refine Cd Gc ?_;unfold El;cases h:FM (λr=>!GJ r) l 0 with
 |none =>
  rw[h] at hI;have e_:=hI;exact gwC
 |some i =>
  rw[h] at hI;simp only at hI;have e_:=hI;exact gwC
theorem Zi(r:(List Span)):PC Tryz.prog 177 [AA r] (.bool (UB r)):=by
 refine Cd Lt ?_;unfold HW UB;exact gwA
theorem UD(l:List (List Span))(hl:l.length<=9223372036854775807):PC Tryz.prog 200 [AQ l,.fn 177 []] (.int .i64 (match FM (λr=>!UB r) l 0 with|some i=>i|none=>-1)):=by
 generalize hT:FM (λr=>!UB r) l 0=T;refine Cd G3 ?_;unfold EC;refine ywA ?_
 refine Ba (B7 (λ(k:Nat)=>k<=l.length/\T=FM (λr=>!UB r) (l.drop k) k) (λk=>l.length-k)
  (λk=>[(0,AQ l),(1,.fn 177 []),(7,.int .i64 l.length),(8,.int .i64 k)]) (λk=>[]) (λ_ _=>[]) 0 ⟨oc,hT.symm⟩ ?_ ?_)
 ·exact gwA
 rintro k ⟨k1,k2⟩;rcases Aj k l.length with hk|hk
 ·have hF:=Zi (nth l k)
  rw[Lg hk] at k2;refine W_T ?_;cases he:UB (nth l k) with
  |true =>
   rw[he] at hF k2;rw[k2];have e_:=hF;exact gwC
  |false =>
   rw[he] at hF k2;have e_:=hF;refine ywC ?_;clear e_
   all_goals exact⟨k+1,by push_cast,⟨om,k2⟩,om⟩
 ·rw[Ao hk,FM] at k2
  rw[k2];refine W_T ?_;exact gwA
theorem OM(l:List (List Span))(hl:l.length<=9223372036854775807):PC Tryz.prog 176 [AQ l,.fn 177 []] (.bool (l.any UB)):=by
 have hI:=UD l hl;rw[<-UA UB l 0];refine Cd Gd ?_;unfold Em;cases h:FM (λr=>!UB r) l 0 with
 |none =>
  rw[h] at hI;have e_:=hI;exact gwC
 |some i =>
  rw[h] at hI;simp only at hI;have e_:=hI;exact gwC
def oneV(d:Desc):Bool:=!d.rules.any HV&&!d.finals.any GJ
theorem Xj(d:Desc)(hr:d.rules.length<=9223372036854775807)(hf:d.finals.length<=9223372036854775807):PC Tryz.prog 32 [C6 d] (.bool (oneV d)):=by
 have h1:=QX d.rules hr;have h2:=OL d.finals hf;refine Cd XY ?_;unfold PN oneV;generalize d.rules.any HV=c1 at *;generalize d.finals.any GJ=c2 at *;(with_reducible repeat'(first|simp(disch:=omega)only[push_cast,↓zz,seval]|refine sp_ ?_ ?_<;>try(intro hc;push_cast at hc)|refine ee h1 ?_|refine ee h2 ?_|((first|refine cc h1 ?_|refine cc h2 ?_);simp(disch:=omega)only[push_cast,↓zz,seval];fail_if_success change False)|omega|intro _))
 all_goals (cases c1<;>cases c2<;>simp_all)
theorem zcu{d:Desc}:oneV d=true↔(∀r∈d.rules,r.guards.length=1)/\∀f∈d.finals,f.guards=[]:=by
 simp only[oneV,Ac,Cj,List.any_eq_false,HV,GJ,Bool.not_eq_true,Ah,Bool.not_eq_false',BB];constructor
 ·rintro⟨h1,h2⟩
  exact⟨λr hr=>by have:=h1 r hr;omega,λf hf=>Az (by have:=h2 f hf;omega)⟩
 ·rintro⟨h1,h2⟩
  exact⟨λr hr=>by have:=h1 r hr;omega,λf hf=>by rw[h2 f hf];simp⟩
structure Two(a b:Desc):Prop where
 ca:FB a=0
 cb:FB b=0
 ao:a.out=2
 bi:b.in_=2
 fr:z5m a=true
 on:oneV b=true
theorem HA{d:Desc}{out:List Term}{gs:List (List Span)}(h:H8 d out gs=true):out.length<=64/\∀t∈out,Kg t d.in_ d.out gs=true:=by
 simp only[H8,Ac,Ah] at h;exact⟨om,AP.1 h.2⟩
theorem Iv{d:Desc}{r:Rule}(h:Kh d r=true):(0<=r.from_/\r.from_<d.states)/\(0<=r.to_/\r.to_<d.states)/\Fo d.in_ r.guards=true/\eatB r.guards.length r.eat=true/\H8 d r.out r.guards=true:=by
 simp only[Kh,IQ,Ac,Ah] at h;exact⟨h.1,h.2.1,h.2.2.1,h.2.2.2.1,h.2.2.2.2⟩
theorem Mm{d:Desc}{f:DO}(h:Ht d f=true):(0<=f.from_/\f.from_<d.states)/\Fo d.in_ f.guards=true/\H8 d f.out f.guards=true:=by
 simp only[Ht,IQ,Ac,Ah] at h;exact⟨h.1,h.2.1,h.2.2⟩
theorem z6m{d:Desc}{r:Rule}(h1:0<=r.from_/\r.from_<d.states)(h2:0<=r.to_/\r.to_<d.states)(h3:Fo d.in_ r.guards=true)(h4:eatB r.guards.length r.eat=true)(h5:r.out.length<=64)(h6:∀t∈r.out,Kg t d.in_ d.out r.guards=true):Kh d r=true:=by
 simp only[Kh,IQ,H8,Ac,Ah,AP];exact⟨h1,h2,h3,h4,om,h6⟩
theorem Zj{d:Desc}{f:DO}(h1:0<=f.from_/\f.from_<d.states)(h3:Fo d.in_ f.guards=true)(h5:f.out.length<=64)(h6:∀t∈f.out,Kg t d.in_ d.out f.guards=true):Ht d f=true:=by
 simp only[Ht,IQ,H8,Ac,Ah,AP];exact⟨h1,h3,om,h6⟩
theorem z6n{d:Desc}(h1:0<((domL d.in_).length:Int))(h2:0<((domL d.out).length:Int))(h3:1<=d.states/\d.states<=1024)(h4:0<=d.start/\d.start<d.states)(h5:d.rules.length<=4096)(h6:d.finals.length<=4096):R2 d=true:=by
 simp only[R2,IQ,Ac,Ah];exact⟨h1,h2,h3.1,h3.2,h4,om,om⟩
section
variable {a b:Desc}{x:List Int}
theorem Two.ones(h:Two a b):Ones b:=by
 obtain⟨h1,h2⟩:=zcu.1 h.on;obtain⟨_,k1,k2⟩:=ET h.cb;refine⟨λr hr=>List.length_eq_one_iff.1 (h1 r hr),λr hr=>?_,h2⟩;have:=(Iv (k1 r hr)).2.2.2.1;rw[h1 r hr] at this;simp only[eatB,Ac,Cj,BB] at this;omega
theorem Two.ruleFit(h:Two a b):∀r∈a.rules,zky a.in_ r.out r.guards:=λr hr=>by
 obtain⟨_,k1,k2⟩:=ET h.ca;have k3:=Iv (k1 r hr);refine⟨(GZ k3.2.2.1).1,λt ht=>?_⟩;have:=(HA k3.2.2.2.2).2 t ht
 rwa [h.ao] at this
theorem Two.finFit(h:Two a b):∀f∈a.finals,zky a.in_ f.out f.guards:=λf hf=>by
 obtain⟨_,k1,k2⟩:=ET h.ca;have k3:=Mm (k2 f hf);refine⟨(GZ k3.2.1).1,λt ht=>?_⟩;have:=(HA k3.2.2).2 t ht
 rwa [h.ao] at this
theorem Zk{t:Term}{i o n:Int}:J2 t i o n=true↔VQ i=true/\VQ o=true/\DN t=true/\HT i n t.parts=true/\(i=2->t.parts.length<=1)/\(o=2->L3 t=true):=by
 simp only[J2,Ac,EV,Ah];constructor
 ·rintro⟨⟨⟨⟨⟨h1,h2⟩,h3⟩,h4⟩,h5⟩,h6⟩
  exact⟨h1,h2,h3,h4,λh=>h5.resolve_left (λk=>k h),λh=>h6.resolve_left (λk=>k h)⟩
 ·rintro⟨h1,h2,h3,h4,h5,h6⟩
  exact⟨⟨⟨⟨⟨h1,h2⟩,h3⟩,h4⟩,(Classical.em (i=2)).elim (λh=>.inr (h5 h)) .inl⟩,(Classical.em (o=2)).elim (λh=>.inr (h6 h)) .inl⟩
structure zv0(i o:Int)(n:Nat)(w:Way):Prop where
 len:w.guards.length=n
 gs:Fo i w.guards=true
 fit:∀t∈w.out,Kg t i o w.guards=true
 out:w.out.length<=64
theorem Zl{i:Int}{g:List Span}:K6 i g=true↔g≠[]/\g.length<=64/\g=AR g/\Hs g (domL i)=[]:=by
 simp only[K6,Ac,Cj,Ah,BB,z5q];constructor
 ·rintro⟨h1,h2,h3,h4⟩
  exact⟨λh=>h1 (by rw[h];rfl),om,h3,h4⟩
 ·rintro⟨h1,h2,h3,h4⟩
  refine⟨λh=>h1 (List.length_eq_zero_iff.1 om),om,h3,h4⟩
theorem z6o{i:Int}{gs:List (List Span)}:Fo i gs=true↔gs.length<=4/\∀g∈gs,K6 i g=true:=by
 simp only[Fo,Ac,Ah,AP];exact and_congr_left λ_=>by omega
theorem zv1{R:List Rule}{n:Nat}(h:∀r∈R,DL r=false):¬cycP R n:=by
 rintro⟨C,hC,j,hj⟩;obtain⟨_,r,hr,he,_⟩:=hC j hj;rw[h r hr] at he;cases he
end
theorem OB(ts:List Term)(hl:ts.length<=1000000)(hs:∀t∈ts,t.parts.length<=1000000000):PC Tryz.prog 121 [C5 ts] (C5 ts):=by
 refine Cd Rw ?_;unfold Lx;refine ywA ?_
 refine Ba (B7 (λ(i:Nat)=>i<=ts.length) (λi=>ts.length-i)
  (λi=>[(3,.ref 0 1 0 i),(6,C5 ts),(7,.int .i64 ts.length),(8,.int .i64 i)]) (λi=>[⟨6,1,false,(ts.take i).map C9⟩]) (λenv _=>[D4 6 (env 3)]) 0 oc ?_ ?_)
 ·(with_reducible repeat'(first|simp(disch:=omega)only[push_cast,↓zz,seval,List.take_zero,AX]|refine sp_ ?_ ?_<;>try(intro hc;push_cast at hc)|omega|intro _))
 intro i hi;refine W_T ?_;have lT:(ts.take i).length=i:=by rw[Bb];omega
 rcases Aj i ts.length with hil|hil
 ·have e1:ts.take (i+1)=ts.take i++[nth ts i]:=by rw[List.take_add_one];simp[nth,Ak,hil]
  have hN:=Ma (nth ts i).parts (by have:=hs _ (Bi hil);omega);have f_:=lT;have e_:=hN;refine ywD ?_;clear f_ e_
  all_goals
   refine⟨i+1,?_⟩;rw[e1,Aw];(with_reducible repeat'(first|simp(disch:=omega)only[push_cast,↓zz,seval,lT,AD,AX]|refine sp_ ?_ ?_<;>try(intro hc;push_cast at hc)|omega|intro _))
 ·obtain rfl:i=ts.length:=om
  (with_reducible repeat'(first|simp(disch:=omega)only[push_cast,↓zz,seval,As]|refine sp_ ?_ ?_<;>try(intro hc;push_cast at hc)|omega|intro _))
section
variable {P:Program}{n b:Nat}{env:Env}{H:A4}{Q:Ex->Env->A4->Prop}
theorem zv2{c:AC}{Q':Ex->Env->A4->Prop}(h:T P n b c env H Q')(hq:∀x env' H',Q' x env' H'->∃env2 H2,Ent n b env' H' env2 H2/\Q x env2 H2):T P n b c env H Q :=
 λrd mm hrd code hc S a hb hS hF=>wpIn_mono (h rd mm hrd code hc S a hb hS hF) λe a w hh=>by
  obtain⟨S',env',H',x,e1,e2,e3,e4,e5,e6⟩:=hh;obtain⟨env2,H2,k1,k2⟩:=hq _ _ _ e6;obtain⟨S2,q1,q2,q3,q4⟩:=k1 S' (λi=>a.tmps.getD i undef) e2.n e3 e4.val;exact⟨S2,_,_,x,q1.trans e1,e2.trans q2,q3,⟨e4.size,e4.defers.of q2.base q2.size q2.keep q2.fresh (λb hb=>q2.kept b (.inr hb)),q4⟩,e5,k2⟩
theorem zl0{σ:Type}(Fact:Nat->σ->Prop)(live:List (Nat × AV))(heap:σ->List Grp)(N:Nat)(Qr:Ex->List Grp->Prop){f:AArg}{ps:List Nat}{asg body:AC}{gf:Nat}{caps:List AV}{rows:List (List AV)}(s0:σ)
 (hit:Qn P gf caps rows) (he:Ent n b env H (BO live) (hl (heap s0))) (hN0:(heap s0).length=N) (hN:∀k s,Fact k s->N<=(heap s).length) (hf:f.eval (BO live)=.fn gf caps) (hpure:AJ caps=true) (hfr1:asg.free=true) (hfr2:body.free=true)
 (hfl:∀r∈rows,∀x∈r,Flat x) (hps:∀r∈rows,r.length=ps.length) (hpn:∀p∈ps,p<n) (h0:Fact 0 s0)
 (round:∀k row s,rows[k]? = some row->Fact k s->T P n N asg (setL (BO live) ps row) (hl (heap s)) (λx env1 H2=>x=.normal/\T P n N body env1 H2 (Ex.then (λenv3 H3=>∃s',Ent n N env3 H3 (BO []) (hl (heap s'))/\Fact (k+1) s') (λx env3 H3=>∃l,N<=l.length/\Ent n N env3 H3 (BO []) (hl l)/\Qr x l))))
 (done:∀s,Fact rows.length s->Q .normal (BO live) (hl (heap s))) (out:∀x l,Qr x l->Q x (BO live) (hl l)):T P n b (.rng f ps asg body) env H Q:=by
 refine I8 he ?_;refine zt8 hf hpure hfr1 hfr2 hit hfl hps hpn (λk H'=>∃s,H'=hl (heap s)/\Fact k s) (λx H'=>∃l,H'=hl l/\Qr x l) ⟨s0,rfl,h0⟩ (λk H' hh=>?_) (λk row H1 hrow hh=>?_) (λH1 hh=>?_) (λx H1 hh=>?_)
 ·obtain⟨s,rfl,hs⟩:=hh
  show (heap s0).length<=(heap s).length;rw[hN0];exact hN k s hs
 ·obtain⟨s,rfl,hs⟩:=hh
  have hn0:(hl (heap s0)).n=N:=hN0;rw[hn0];refine T.mono (round k row s hrow hs) λx env1 H2 hh=>⟨hh.1,?_⟩;refine zv2 hh.2 λx env3 H3 hq=>?_;cases x with
  |normal =>
   obtain⟨s',q1,q2⟩:=hq;exact⟨_,_,q1,.inl ⟨rfl,s',rfl,q2⟩⟩
  |exit id=>obtain⟨l,_,q1,q2⟩:=hq;exact⟨_,_,q1,.inr ⟨(λh=>by cases h),l,rfl,q2⟩⟩
  |ret=>obtain⟨l,_,q1,q2⟩:=hq;exact⟨_,_,q1,.inr ⟨(λh=>by cases h),l,rfl,q2⟩⟩
 ·obtain⟨s,rfl,hs⟩:=hh
  exact done s hs
 ·obtain⟨l,rfl,hs⟩:=hh
  exact out x l hs
end
theorem z6p{n b:Nat}{env:Env}{l l':List Grp}{g v d:Nat}{xs ys:List AV}(ks:List Nat)(hlt:g<l.length)(hg:l.getD g default=⟨0,v,true,xs⟩)(hk:g∉ks)
 (hxy:FrzM d (Abs.hl l) ks xs ys) (hl':(Ec 0 ks l).set g ⟨0,v,true,ys⟩=l'):Ent n b env (Abs.hl l) env (Abs.hl l'):=λS val hb hS hv=>by
 subst hl';have hS1:=M2 ks hS;have he:=Ic ks hS;refine⟨S.kill (Abs.hl l) ks,rfl,he.down hb,?_,λi hi=>VRel.mono he _ (hv i hi)⟩;have hlk:g<(Ec 0 ks l).length:=by rw[Gm];exact hlt
 have hat0:∀j,j<l.length->((Abs.hl l).kill ks).at_ j=(Ec 0 ks l).getD j default:=λj hj=>by
  rw[IL 0 ks l j hj,AY];rfl
 have hn:(Abs.hl ((Ec 0 ks l).set g ⟨0,v,true,ys⟩)).n=((Abs.hl l).kill ks).n:=by simp[Abs.hl,A4.kill,Gm]
 have hlen:((Abs.hl l).kill ks).n=l.length:=rfl
 have hat:∀j,j<l.length->(Abs.hl ((Ec 0 ks l).set g ⟨0,v,true,ys⟩)).at_ j=if j=g then ⟨0,v,true,ys⟩ else ((Abs.hl l).kill ks).at_ j:=λj hj=>by
  rw[Da];by_cases e:j=g
  ·subst e;rw[Ae rfl];exact JJ _ hlk
  ·rw[Ad e,hat0 j hj];exact GW _ (Du e)
 have hgk:((Abs.hl l).kill ks).at_ g=⟨0,v,true,xs⟩:=by
  show (if g∈ks then _ else _)=_;rw[Ad hk,Da,hg]
 have h1:GRel (S.kill (Abs.hl l) ks) ⟨0,v,true,xs⟩ g:=by have:=hS1.grp g (by rw[hlen];exact hlt);rwa [hgk] at this
 have h0:GRel S ⟨0,v,true,xs⟩ g:=by have:=hS.grp g hlt;rwa [Da,hg] at this
 have hG:GRel (S.kill (Abs.hl l) ks) ⟨0,v,true,ys⟩ g:=by
  refine⟨h1.ver,h1.wid,λhh=>by simp only at hh;omega,λhh=>by simp only at hh;omega,λhh=>by simp only at hh;omega,λhw he=>?_⟩;obtain⟨⟨o,a1,a0,a2⟩,a5⟩:=h0.mlive rfl rfl;exact⟨⟨o,a1,a0,hxy.rel hS a2⟩,(h1.mlive rfl rfl).2⟩
 have hhas:∀j,j<l.length->((Abs.hl ((Ec 0 ks l).set g ⟨0,v,true,ys⟩)).at_ j).has ((S.kill (Abs.hl l) ks).cap j)->(((Abs.hl l).kill ks).at_ j).has ((S.kill (Abs.hl l) ks).cap j):=λj hj h=>by
  rw[hat j hj] at h;by_cases e:j=g
  ·subst e;rw[Ae rfl] at h;rw[hgk];exact h
  ·rw[Ad e] at h;exact h
 refine⟨hS1.n.trans hn.symm,λj hj=>?_,λj j' a c hne p q=>hS1.apart j j' (by rwa [hn] at a) (by rwa [hn] at c) hne (hhas j (by rwa [hn] at a) p) (hhas j' (by rwa [hn] at c) q),hS1.im⟩;rw[hn] at hj;rw[hat j hj];by_cases e:j=g
 ·subst e;rw[Ae rfl];exact hG
 ·rw[Ad e];exact hS1.grp j hj
theorem zq2{n b:Nat}{env env':Env}{l l':List Grp}(σ:Nat->Nat)(hb:b<=l'.length)(h1:∀g,g<b->σ g=g)(h2:∀g,g<l'.length->σ g<l.length/\l.getD (σ g) default=renG σ (l'.getD g default)/\ltL l'.length (l'.getD g default).xs)
 (h3:∀g g',g<l'.length->g'<l'.length->σ g=σ g'->g=g') (hv:∀i,i<n->env i=ren σ (env' i)/\ltV l'.length (env' i)):Ent n b env (Abs.hl l) env' (Abs.hl l'):=λS val hbS hS hv'=>by
 let S':MS:={ S with n:=l'.length,place:=λg=>S.place (σ g),cur:=λg=>S.cur (σ g),cap:=λg=>S.cap (σ g),wid:=λg=>S.wid (σ g) }
 have hdn:∀(x:AV){v:Value},ltV l'.length x->VRel S (ren σ x) v->VRel S' x v:=λx v hx h=>OY (A:=S') (B:=S) (σ:=σ) (m:=l'.length) rfl (λb hb=>hb) (λg hg=>⟨hg,rfl,rfl,rfl,rfl⟩) x hx h;have hdnL:∀(xs:List AV){vs:List Value},ltL l'.length xs->AB S (renL σ xs) vs->AB S' xs vs:=λxs vs hx h=>Hj (A:=S') (B:=S) (σ:=σ) (m:=l'.length) rfl (λb hb=>hb) (λg hg=>⟨hg,rfl,rfl,rfl,rfl⟩) xs hx h;refine⟨S',rfl,⟨rfl,rfl,⟨rfl,Ab _⟩,rfl,Ab _,λ_ _=>rfl,λ_ h=>h,λ_ h=>h,λ_ h=>.inl h,hb,λg hg=>?_,λg hg _=>?_⟩,⟨rfl,λg hg=>?_,λg g' hg hg' hne hw hw'=>?_,hS.im⟩,λi hi=>?_⟩
 ·show S.cur g<=S.cur (σ g)
  rw[h1 g hg];exact Ab _
 ·show S.place (σ g)=_/\S.cap (σ g)=_/\S.wid (σ g)=_
  rw[h1 g hg];exact⟨rfl,rfl,rfl⟩
 ·obtain⟨q1,q2,q3⟩:=h2 g hg
  have hG:=hS.grp (σ g) q1;rw[Da,q2] at hG;rw[Da];refine⟨hG.ver,hG.wid,λhw hc=>?_,λhw=>?_,λhw he=>?_,λhw he=>?_⟩
  ·obtain⟨⟨cells,TT,vs,a1,a2,a3,a4⟩,a5⟩:=hG.live hw hc
   exact⟨⟨cells,TT,vs,a1,a2,hdnL _ q3 a3,a4⟩,a5⟩
  ·have:=hG.len hw;simpa [renG,JQ] using this
  ·have:=hG.full hw he;simpa [renG,JQ] using this
  ·obtain⟨⟨o,a1,a0,a2⟩,a5⟩:=hG.mlive hw he
   exact⟨⟨o,a1,a0,hdnL _ q3 a2⟩,a5⟩
 ·rw[Da] at hw hw'
  refine hS.apart (σ g) (σ g') (h2 g hg).1 (h2 g' hg').1 (λe=>hne (h3 g g' hg hg' e)) ?_ ?_
  ·rw[Da,(h2 g hg).2.1];exact hw
  ·rw[Da,(h2 g' hg').2.1];exact hw'
 ·have e:=hv i hi
  refine hdn _ e.2 ?_;rw[<-e.1];exact hv' i hi
def kvO(L:List (Int × AV)):List AV:=L.flatMap λp=>[.int .i64 p.1,p.2]
theorem Im(p:Int × AV)(L:List (Int × AV)):kvO (p::L)=.int .i64 p.1::p.2::kvO L:=rfl
theorem UE:∀L:List (Int × AV),(kvO L).length=2 * L.length
 |[]=>rfl
 |p::L=>by rw[Im,List.length_cons,List.length_cons,List.length_cons,UE L];omega
theorem UF:∀L:List (Int × AV),kvL (kvO L)
 |[]=>trivial
 |p::L=>UF L
theorem zcv{z:AV}:∀{L:List (Int × AV)}{i:Nat}{p:Int × AV},L[i]? = some p->(kvO L).getD (2 * i) z=.int .i64 p.1/\(kvO L).getD (2 * i+1) z=p.2
 |[],i,p,h=>by cases h
 |q::L,0,p,h=>by obtain rfl:=A5 h;exact⟨rfl,rfl⟩
 |q::L,i+1,p,h=>by
  obtain⟨h1,h2⟩:=zcv (z:=z) (L:=L) (i:=i) h;rw[Im,show 2 * (i+1)=2 * i+1+1 by omega];exact⟨h1,h2⟩
theorem z2i{z:AV}{k:Int}:∀{L:List (Int × AV)},(∀p∈L,p.1≠k)->HR z k (kvO L)=some z
 |[],_=>rfl
 |p::L,h=>by
  rw[Im,Jm,Ad (h p oc)];exact z2i λq hq=>h q (by simp[hq])
theorem Xk{z:AV}{k:Int}{y:AV}:∀{L:List (Int × AV)}{i:Nat},(L.map (·.1)).Nodup->L[i]? = some (k,y)->HR z k (kvO L)=some y
 |[],i,_,h=>by cases h
 |p::L,0,_,h=>by obtain rfl:=A5 h;rw[Im,Jm,Ae rfl]
 |p::L,i+1,hn,h=>by
  rw[AD,Cc] at hn;rw[Im,Jm,Ad λe=>hn.1 (Al.2 ⟨_,CX h,e.symm⟩)];exact Xk hn.2 h
theorem zcw{k:Int}{x:AV}:∀{L:List (Int × AV)},(∀p∈L,p.1≠k)->setM k x (kvO L)=some (kvO (L++[(k,x)]))
 |[],_=>rfl
 |p::L,h=>by
  rw[Im,M3,Ad (h p oc),zcw λq hq=>h q (by simp[hq])];rfl
theorem z2j{k:Int}{x y:AV}:∀{L:List (Int × AV)}{i:Nat},(L.map (·.1)).Nodup->L[i]? = some (k,y)->setM k x (kvO L)=some (kvO (L.set i (k,x)))
 |[],i,_,h=>by cases h
 |p::L,0,_,h=>by obtain rfl:=A5 h;rw[Im,M3,Ae rfl];rfl
 |p::L,i+1,hn,h=>by
  rw[AD,Cc] at hn;rw[Im,M3,Ad λe=>hn.1 (Al.2 ⟨_,CX h,e.symm⟩),z2j hn.2 h];rfl
section
variable {α:Type}{w:Nat}{e:α->AV}
theorem zcx(m:Nat)(V:Nat->Nat)(D:Nat->List α):fF w e (m+1) V D=fF w e m V D++[gG w e (V m) (D m)]:=by simp[fF,Dh]
theorem Pn{m:Nat}{V V':Nat->Nat}{D D':Nat->List α}(h:∀i,i<m->V i=V' i/\D i=D' i):fF w e m V D=fF w e m V' D':=A6 λi hi=>by
 obtain⟨h1,h2⟩:=h i (AF.1 hi);rw[h1,h2]
def keyT(o:Nat)(S:List Int)(V:Nat->Nat)(D:Nat->List α):List (Int × AV):=(List.range S.length).map λi=>(nth S i,.ref (i+o) (V i) 0 (D i).length)
def keyD(w:Nat)(e:α->AV)(S:List Int)(D:Nat->List α):List (Int × AV):=(List.range S.length).map λi=>(nth S i,.lst w ((D i).map e))
theorem QZ(S:List Int):(List.range S.length).map (λi=>nth S i)=S:=BL oc λi h1 h2=>by simp[nth,h2]
theorem Nj(o:Nat)(S:List Int)(V:Nat->Nat)(D:Nat->List α):(keyT o S V D).map (·.1)=S:=by
 rw[keyT,BP];exact QZ S
theorem zcy{o:Nat}{S:List Int}{V:Nat->Nat}{D:Nat->List α}{i:Nat}(h:i<S.length):(keyT o S V D)[i]? = some (nth S i,.ref (i+o) (V i) 0 (D i).length):=by simp[keyT,h]
theorem zq3{S:List Int}{D:Nat->List α}{i:Nat}(h:i<S.length):(keyD w e S D)[i]? = some (nth S i,.lst w ((D i).map e)):=by simp[keyD,h]
theorem z2k(o:Nat)(S:List Int)(V:Nat->Nat)(D:Nat->List α):(keyT o S V D).length=S.length:=by simp[keyT]
theorem Ta{o:Nat}{S:List Int}{V V':Nat->Nat}{D D':Nat->List α}(h:∀i,i<S.length->V i=V' i/\D i=D' i):keyT o S V D=keyT o S V' D':=A6 λi hi=>by
 obtain⟨h1,h2⟩:=h i (AF.1 hi);rw[h1,h2]
theorem zcz(o:Nat)(S:List Int)(k:Int)(V:Nat->Nat)(D:Nat->List α):keyT o (S++[k]) V D=keyT o S V D++[(k,.ref (S.length+o) (V S.length) 0 (D S.length).length)]:=by
 rw[keyT,Ai,List.length_singleton,Dh,Aw,keyT];congr 1
 ·refine A6 λi hi=>?_
  have hi:=AF.1 hi;simp[nth,Ak,A9 hi]
 ·simp[nth]
theorem zj8{o:Nat}{S:List Int}{V:Nat->Nat}{D:Nat->List α}{i:Nat}(h:i<S.length)(l:List α):(keyT o S V D).set i (nth S i,.ref (i+o) (V i+1) 0 l.length)=keyT o S (setV V i (V i+1)) (setD D i l):=by
 rw[keyT,E0 h,keyT];refine A6 λj _=>?_;by_cases hj:j=i
 ·subst hj;simp[setV,setD]
 ·simp[setV,setD,hj]
theorem zl1{m:Nat}:∀{L:List (Int × AV)},(∀p∈L,ltV m p.2)->ltL m (kvO L)
 |[],_=>trivial
 |p::L,h=>⟨oy,h p oc,zl1 λq hq=>h q (by simp[hq])⟩
theorem Zm{o m:Nat}{S:List Int}{V:Nat->Nat}{D:Nat->List α}(h:S.length+o<=m):ltL m (kvO (keyT o S V D)):=zl1 λp hp=>by
 obtain⟨i,hi,rfl⟩:=Al.1 hp;have:=AF.1 hi;show i+o<m;omega
theorem Xl(he:∀x,(e x).pure=true)(S:List Int)(D:Nat->List α):AJ (kvO (keyD w e S D))=true:=by
 have key:∀L:List (Int × AV),(∀p∈L,p.2.pure=true)->AJ (kvO L)=true:=λL=>by
  induction L with
  |nil=>exact λ_=>rfl
  |cons p L ih =>
   intro h;rw[Im,AJ,AJ,h p oc,ih λq hq=>h q (by simp[hq])];rfl
 refine key _ λp hp=>?_;obtain⟨i,_,rfl⟩:=Al.1 hp;exact Fg he _
theorem zj9{H:A4}{ks:List Nat}(hw:0<w)(he:∀x,(e x).pure=true){o:Nat}{S:List Int}{V:Nat->Nat}{D:Nat->List α}(h2:∀i,i<S.length->i+o∈ks/\H.at_ (i+o)=gG w e (V i) (D i)):FrzM 1 H ks (kvO (keyT o S V D)) (kvO (keyD w e S D)):=by
 have key:∀idx:List Nat,(∀i∈idx,i<S.length)->FrzM 1 H ks (kvO (idx.map λi=>(nth S i,AV.ref (i+o) (V i) 0 (D i).length))) (kvO (idx.map λi=>(nth S i,AV.lst w ((D i).map e)))):=λidx=>by
  induction idx with
  |nil=>exact λ_=>rfl
  |cons i idx ih =>
   intro hi;obtain⟨h3,h4⟩:=h2 i (hi i oc);have hat:(H.only ks).at_ (i+o)=gG w e (V i) (D i):=by rw[LO,Ae h3,h4]
   refine⟨_,_,rfl,.inl (.inl rfl),_,_,rfl,.inl (.inr ⟨?_,?_⟩),ih λj hj=>hi j (by simp[hj])⟩
   ·refine⟨by rw[hat];rfl,by rw[hat];exact hw,by rw[hat];simp[gG],λz hz=>?_⟩
    rw[hat] at hz;obtain⟨u,_,rfl⟩:=Al.1 (Bc (Be hz));exact he u
   ·show _=AV.lst _ _
    rw[hat]
    have e1:(((gG w e (V i) (D i)).xs.drop 0).take (D i).length).map (frzV 0 (H.only ks))=(D i).map e:=by
     rw[BH,Ay (by simp[gG])];exact (A6 λx hx=>(rfl:frzV 0 (H.only ks) x=x)).trans (DV _)
    rw[e1];rfl
 exact key _ λi hi=>AF.1 hi
end
def chH(z:AV)(k:Nat)(r1 r2:AV)(s:List Span)(l:List Part)(mp:List AV)(F:List Grp):List Grp:=⟨6,1,true,[z]⟩::⟨1,1,true,[.ptr 0 1 0 0]⟩::⟨1,1,true,[.int .i64 k]⟩::⟨1,1,true,[r1]⟩::⟨1,1,true,[r2]⟩::⟨1,1,true,[AA s]⟩::⟨1,1,true,[Cu l]⟩::⟨0,1,true,mp⟩::⟨1,1,true,[.map 7 1]⟩::F
section
variable (l:List Part)(xs:List Int)
def Ed(j:Nat):List Int:=Jg (totV l) (xs.take j)
def metD(j:Nat)(i:Nat):List Span:=(metL (totV l) xs j (nth (Ed l xs j) i)).map oneS
end
theorem DR{P:Program}{n b:Nat}{c:AC}{env:Env}{H H':A4}{Q:Ex->Env->A4->Prop}(e:H=H')(h:T P n b c env H' Q):T P n b c env H Q:=e ▸ h
section
variable {z:AV}{k:Nat}{r1 r2:AV}{s:List Span}{l:List Part}{mp:List AV}{F:List Grp}
theorem Ra:Abs.hl (chH z k r1 r2 s l mp F)=Abs.hl (⟨6,1,true,[z]⟩::⟨1,1,true,[.ptr 0 1 0 0]⟩::⟨1,1,true,[.int .i64 k]⟩::⟨1,1,true,[r1]⟩::⟨1,1,true,[r2]⟩::⟨1,1,true,[AA s]⟩::⟨1,1,true,[Cu l]⟩::⟨0,1,true,mp⟩::⟨1,1,true,[.map 7 1]⟩::F):=rfl
theorem F7:(chH z k r1 r2 s l mp F).length=F.length+9:=rfl
theorem JD{m:Nat}(h0:z.pure=true)(h1:r1.pure=true)(h2:r2.pure=true)(hm:9<=m)(hp:ltL m mp)(hF:∀X∈F,ltL m X.xs):∀X∈chH z k r1 r2 s l mp F,ltL m X.xs:=λX hX=>by
 have p0:ltV m z:=AL _ _ h0;have p1:ltV m r1:=AL _ _ h1;have p2:ltV m r2:=AL _ _ h2;have p3:ltV m (AA s):=AL _ _ (Cs s);have p4:ltV m (Cu l):=AL _ _ (by simp[Cu,AV.pure,Cx]);simp only[chH,Af] at hX;rcases hX with rfl|rfl|rfl|rfl|rfl|rfl|rfl|rfl|rfl|hX
 ·exact⟨p0,oy⟩
 ·exact⟨(show 0<m by omega),oy⟩
 ·exact⟨oy,oy⟩
 ·exact⟨p1,oy⟩
 ·exact⟨p2,oy⟩
 ·exact⟨p3,oy⟩
 ·exact⟨p4,oy⟩
 ·exact hp
 ·exact⟨(show 7<m by omega),oy⟩
 ·exact hF X hX
end
theorem Xm{ks:List Nat}:∀{F:List Grp}{p:Nat},(∀j,j<F.length->p+j∈ks)->Ec p ks F=F.map Grp.dead
 |[],_,_=>rfl
 |X::F,p,h=>by
  rw[Ec,Ae (by have:=h 0 oc;simpa using this),AD,Xm λj hj=>by
   have:=h (j+1) (by simpa using hj)
   rwa [show p+1+j=p+(j+1) by omega]]
theorem zd0{n:Nat}{env:Env}{z:AV}{k:Nat}{r1 r2:AV}{s:List Span}{l:List Part}{S:List Int}{V:Nat->Nat}{D:Nat->List Span}(hz:z.pure=true)(h1:r1.pure=true)(h2:r2.pure=true)(he:∀i,i<n->ltV 9 (env i)):
 Ent n 1 env (Abs.hl (chH z k r1 r2 s l (kvO (keyT 9 S V D)) (fF 2 Ce S.length V D))) env (Abs.hl (chH z k r1 r2 s l (kvO (keyD 2 Ce S D)) [])):=by
 have h0:∀i,i<9->i∉(List.range S.length).map (·+9):=λi hi h=>by obtain⟨j,_,hj⟩:=Al.1 h;omega
 have hF:(fF 2 Ce S.length V D).length=S.length:=Ha;refine (z6p (g:=7) (v:=1) (d:=1) (xs:=kvO (keyT 9 S V D)) (ys:=kvO (keyD 2 Ce S D)) ((List.range S.length).map (·+9)) (l':=chH z k r1 r2 s l (kvO (keyD 2 Ce S D)) []++(fF 2 Ce S.length V D).map Grp.dead) (by rw[F7];omega) rfl (h0 7 om) (zj9 ox (λ_=>rfl) λi hi=>⟨Al.2 ⟨i,AF.2 hi,rfl⟩,?_⟩) ?_).trans (I9 (by rw[F7];simp) (JD hz h1 h2 (by rw[F7];simp) (BU _ _ (Xl (λ_=>rfl) S D)) λX hX=>by cases hX) λi hi=>by rw[F7];exact he i hi)
 ·show (chH z k r1 r2 s l (kvO (keyT 9 S V D)) (fF 2 Ce S.length V D)).getD (i+9) default=_
  simp only[chH,BK];exact OH hi
 ·simp only[chH,Ec,h0 0 om,h0 1 om,h0 2 om,h0 3 om,h0 4 om,h0 5 om,h0 6 om,h0 7 om,h0 8 om,Bq,AY,Nat.reduceAdd]
  rw[Xm λj hj=>Al.2 ⟨j,AF.2 om,om⟩];rfl
theorem FP{ks:List Nat}:∀{l:List Grp}{p:Nat},Cw p ks l l
 |[],_=>trivial
 |_::l,p=>⟨.inr rfl,FP (l:=l)⟩
theorem Mn{ks:List Nat}(r:List Grp):∀{l:List Grp}{p:Nat},Cw p ks l (l++r)
 |[],_=>trivial
 |_::l,p=>⟨.inr rfl,Mn r (l:=l)⟩
theorem Xn{S:List Int}(h:S.Nodup){i j:Nat}(hi:i<S.length)(hj:j<S.length)(e:nth S i=nth S j):i=j:=(List.getElem_inj h).1 (by simpa [nth,hi,hj] using e)
theorem zv3(n:Nat):2 * n / 2=n:=om
theorem Rb(F:List Grp)(X:Grp):(F++[X]).getD F.length default=X:=by simp[Ak]
theorem Zn(F:List Grp)(X Y:Grp):setQ (F++[X]) F.length Y=some (F++[Y]):=by rw[KC F [X] rfl];rfl
theorem Xo(W:List Span)(G:List (List Span))(A:List Int)(P:List (List Part))(M:List Int)(st:Int)(k:Nat)(hk:k<A.length)(hP:P.length=A.length)(ha:0<=nth A k/\nth A k<G.length)(hg:G.length<=1000000)(hA:A.length<=1000000)
 (h1:¬(nth P k).length=1) (hl4:(nth P k).length<=4) (hb:∀p∈nth P k,EJ p=true) (hs:Syms (nth G (nth A k).toNat)) (hs0:nth G (nth A k).toNat≠[]) :
 B9 Tryz.prog 222 [.ptr 0 1 0 0,.int .i64 k] (Abs.hl (fndL W G A P M st)) λy H'=>y=choR (choL (nth G (nth A k).toNat) (nth P k))/\H'=Abs.hl (fndL W G A P M st):=by
 have pF:=IX W G A P M st;have pA:=C4 .i64 A;have pP:AJ (P.map Cu)=true:=CO (λl=>by simp[Cu,AV.pure,Cx]) P;rw[choL,Ad h1];generalize hsv:nth G (nth A k).toNat=s at *;generalize hlv:nth P k=l at *;have pl:=Cx l;have hls:=hs.len;have hE:=J4 s om;have hns:AR s=s:=K3 hs;have hln:(Dx (AR s)).length<=1114112:=by rw[hns];exact hs.nums
 have hmem:∀j,j<(Dx (AR s)).length->0<=nth (Dx (AR s)) j/\nth (Dx (AR s)) j<=1114111:=λj hj=>by
  rw[hns] at hj ⊢;exact hs.mem (Ff.1 (Bi hj))
 have hseen:=zj6 s l;refine EU (IK HZ (DK (W_T ?_)));refine ywA ?_;refine DK (W_T ?_);have f_:=Aa pA (Aa pF hsv);refine ywB ?_;clear f_;refine DK (W_T ?_);have f_:=Aa pA (Aa pP (Aa pF (Aa pl hlv)));refine ywB ?_;clear f_;refine DK (W_T ?_);(with_reducible repeat'(first|simp(disch:=omega)only[push_cast,↓zz,seval]|refine sp_ ?_ ?_<;>try(intro hc;push_cast at hc)|omega|intro _));refine DK (W_T ?_);(with_reducible repeat'(first|simp(disch:=omega)only[push_cast,↓zz,seval]|refine sp_ ?_ ?_<;>try(intro hc;push_cast at hc)|refine ee hE ?_|(refine cc hE ?_;simp(disch:=omega)only[push_cast,↓zz,seval];fail_if_success change False)|omega|intro _));have hit:=J3 (AR s) (by have:=En s;omega) (E6 s);generalize hm:Dx (AR s)=m at *;have hCL:=λ(S:List Int) (V:Nat->Nat) (D:Nat->List Span)=>JD (z:=fndV W G A P M st) (k:=k) (r1:=.nilS) (r2:=.bool false) (s:=s) (l:=l) (mp:=kvO (keyT 9 S V D)) (F:=fF 2 Ce S.length V D) (m:=(chH (fndV W G A P M st) k .nilS (.bool false) s l (kvO (keyT 9 S V D)) (fF 2 Ce S.length V D)).length) pF rfl rfl (by rw[F7];omega) (by rw[F7,Ha];exact Zm (Ab _)) (O7 λ_=>rfl)
 refine Kv (zl0 (σ:=Nat × (Nat->Nat)) (λj q=>q.1=j/\(Ed l m j).length<=4096) [(2,.ptr 1 1 0 0),(3,.ptr 2 1 0 0),(4,.ptr 3 1 0 0),(5,.ptr 4 1 0 0),(11,.ptr 8 1 0 0),(72,.fn 232 [.cptr (AA (AR s))])]
  (λq=>chH (fndV W G A P M st) k .nilS (.bool false) s l (kvO (keyT 9 (Ed l m q.1) q.2 (metD l m q.1))) (fF 2 Ce (Ed l m q.1).length q.2 (metD l m q.1))) 9
  (λx l'=>x=.ret/\4096<(NI s l).length/\∃mp F,l'=chH (fndV W G A P M st) k .nilS (.bool false) s l mp F)
  (0,λ_=>1) hit ?_ ?_ ?_ rfl ?_ rfl rfl (J5 _) (La _) oc ⟨rfl,by simp[Ed,Jg]⟩ ?_ ?_ ?_)
 ·refine B3 (gar:=[]) _ ?_ (by rw[F7];omega) (JD pF rfl rfl (by rw[F7];omega) (by rw[F7,Ha];exact Zm (Ab _)) (O7 λ_=>rfl)) ?_
  ·simp[chH,Ed,Jg,fF,keyT,kvO]
  ·rw[F7]
   exact⟨rfl,(show 1<_ by omega),rfl,(show 2<_ by omega),rfl,(show 3<_ by omega),rfl,(show 4<_ by omega),rfl,(show 8<_ by omega),rfl,⟨oy,oy⟩,oy⟩
 ·rw[F7,Ha];simp[Ed,Jg]
 ·intro _ q _;rw[F7];omega
 ·have:=Cs (AR s)
  simp[AJ,AV.pure,this]
 ·rintro j row ⟨j',V⟩ hrow ⟨hj',hS4⟩
  simp only at hj';subst hj';obtain⟨hj,rfl⟩:=S7 hrow;have hxb:=hmem j' hj;have hss:=Xf (f:=totV l) hj;have hms:=zj7 (f:=totV l) hj;have hFl:(fF 2 Ce (Ed l m j').length V (metD l m j')).length=(Ed l m j').length:=Ha;have hcl:∀X∈chH (fndV W G A P M st) k .nilS (.bool false) s l (kvO (keyT 9 (Ed l m j') V (metD l m j'))) (fF 2 Ce (Ed l m j').length V (metD l m j')),ltL ((Ed l m j').length+9) X.xs:=JD pF rfl rfl om (Zm (Ab _)) (O7 λ_=>rfl);simp only;generalize hmp:kvO (keyT 9 (Ed l m j') V (metD l m j'))=mp at *;generalize hF:fF 2 Ce (Ed l m j').length V (metD l m j')=F at *;rw[<-hFl] at hcl;generalize nth m j'=x at *;refine W_T ?_;(with_reducible repeat'(first|simp(disch:=omega)only[push_cast,↓zz,seval]|refine sp_ ?_ ?_<;>try(intro hc;push_cast at hc)|omega|intro _));refine DR Ra (W_T ?_);have f_:=Aa pA (Aa pP (Aa pF (Aa pl hlv)));refine ywB ?_;clear f_
  refine Ba (D6 (λ(i:Nat)=>i<=l.length) (λi=>l.length-i)
   (λi=>BO [(2,.ptr 1 1 0 0),(3,.ptr 2 1 0 0),(4,.ptr 3 1 0 0),(5,.ptr 4 1 0 0),(11,.ptr 8 1 0 0),(12,.int .i64 x),(13,.int .i64 (totV (l.take i) x)),(80,Cu l),(81,.int .i64 l.length),(82,.int .i64 i)]) (λ_=>Abs.hl (chH (fndV W G A P M st) k .nilS (.bool false) s l mp F)) 0 oc ?_ ?_)
  ·refine B3 (gar:=[]) _ (by simp[chH]) (by rw[F7];omega) hcl ?_
   rw[F7];exact⟨rfl,(show 1<_ by omega),rfl,(show 2<_ by omega),rfl,(show 3<_ by omega),rfl,(show 4<_ by omega),rfl,(show 8<_ by omega),rfl,oy,rfl,oy,rfl,oy,rfl,oy,rfl,oy,oy⟩
  intro i hi;rcases Aj i l.length with hil|hil
  ·have hp:=hb _ (Bi hil)
   have hV:=Ir (nth l i) x
   have e1:val1 (nth l i) x=valP (nth l i) x:=by
    have hvb:valB (nth l i) x=true:=by simp[valB,hp];omega
    simp[val1,hvb]
   rw[valV,e1] at hV;have t1:=K1 (x:=x) om (l:=l.take i) λq hq=>hb q (Be hq);have t2:=CZ hp (x:=x) om;have hlt:(l.take i).length=i:=by simp;omega
   rw[hlt] at t1;have hw:IntKind.i64.wrap (totV (l.take i) x+valP (nth l i) x)=totV (l.take i) x+valP (nth l i) x:=IntWalk.i64_in _ om;have hn:totV (l.take (i+1)) x=totV (l.take i) x+valP (nth l i) x:=by rw[take_at hil,Wy]
   refine DR Ra (W_T ?_);have f_:=Aa hw (Aa pl (Aa pF (Aa Rb Zn)));have e_:=hV;refine ywD ?_;clear f_ e_
   all_goals
    refine⟨i+1,B3 (gar:=[⟨4,1,true,[Dp (nth l i)]⟩]) _ (by simp[chH]) (by rw[F7];omega) hcl ?_,om,om⟩;rw[F7,hn];exact⟨rfl,(show 1<_ by omega),rfl,(show 2<_ by omega),rfl,(show 3<_ by omega),rfl,(show 4<_ by omega),rfl,(show 8<_ by omega),rfl,oy,rfl,oy,rfl,oy,rfl,oy,rfl,oy,oy⟩
  ·obtain rfl:i=l.length:=om
   rw[As];have t1:=K1 (x:=x) om (l:=l) hb;generalize totV l x=n at *;refine DR Ra (W_T ?_);have f_:=Aa pl pF;refine ywB ?_;clear f_;by_cases hnS:n∈Ed l m j'
   ·obtain⟨q,hq,hqn⟩:=Bw hnS
    have hqn:nth (Ed l m j') q=n:=by simpa [nth,hq] using hqn
    have hnd:(Ed l m j').Nodup:=SZ _ _
    have hf:HR .nilS n mp=some (.ref (q+9) (V q) 0 (metD l m j' q).length):=by
     rw[<-hmp];exact Xk (by rw[Nj];exact hnd) (by rw[zcy hq,hqn])
    have hset:∀y,setM n y mp=some (kvO ((keyT 9 (Ed l m j') V (metD l m j')).set q (n,y))):=λy=>by
     rw[<-hmp];exact z2j (by rw[Nj];exact hnd) (by rw[zcy hq,hqn])
    have gI:F.getD q default=gG 2 Ce (V q) (metD l m j' q):=by rw[<-hF];exact OH hq
    simp only[gG] at gI;have hEx:(!(metD l m j' q).isEmpty||((metD l m j' q).map Ce).isEmpty)=true:=YM (e:=Ce) _;have sI:∀X,setQ F q X=some (F.set q X):=λX=>Uy om;have hSB:∀X,Cw 9 [7,q+9] F (F.set q X):=λX=>ID (by simp;omega);have hSS:∀l,Cw 9 [7,q+9] l l:=λ_=>FP
    have hmd:(metD l m j' q).length<=1114112:=by
     have h1:=Bg (λx=>decide (totV l x=nth (Ed l m j') q)) (m.take j');have h2:(metD l m j' q).length=(metL (totV l) m j' (nth (Ed l m j') q)).length:=Au ..;rw[metL] at h2;rw[Bb] at h1;omega
    refine Gr [7,q+9] ?_;(with_reducible repeat'(first|simp(disch:=omega)only[push_cast,↓zz,seval,xx,Af,An,A7,BC,Ch,AT,Co,Cn,pl,pF,hf,hset,gI,sI,hEx,hSB,hSS,zkz,OE,UF,UE,C3,z2k,zv3]|refine sp_ ?_ ?_<;>try(intro hc;push_cast at hc)|omega|intro _))
    all_goals
     have hs1:Ed l m (j'+1)=Ed l m j':=hss.trans (Ae hnS)
     have hD:∀i,i<(Ed l m j').length->metD l m (j'+1) i=setD (metD l m j') q (metD l m j' q++[oneS x]) i:=λi hi=>by
      rw[metD,hs1,hms];by_cases hiq:i=q
      ·subst hiq
       rw[Ae hqn.symm,zbq,Aw];rfl
      ·rw[Ad λe=>hiq (Xn hnd hi hq (by rw[hqn,<-e])),setD,Ad hiq];rfl
     have eK:keyT 9 (Ed l m (j'+1)) (setV V q (V q+1)) (metD l m (j'+1))=(keyT 9 (Ed l m j') V (metD l m j')).set q (n,.ref (q+9) (V q+1) 0 ((metD l m j' q).length+1)):=by
      have:=zj8 (o:=9) (V:=V) (D:=metD l m j') hq (metD l m j' q++[oneS x]);rw[hqn,Ai,List.length_singleton] at this;rw[hs1,this];exact Ta λi hi=>⟨rfl,hD i hi⟩
     have eF:fF 2 Ce (Ed l m (j'+1)).length (setV V q (V q+1)) (metD l m (j'+1))=F.set q ⟨2,V q+1,false,(metD l m j' q).map Ce++[.agg [.int .i64 x,.int .i64 x]]⟩:=by
      have:=SN (V:=V) (D:=metD l m j') (w:=2) (e:=Ce) (l:=metD l m j' q++[oneS x]) oc hq;rw[Aw] at this;rw[hs1,Pn λi hi=>⟨rfl,hD i hi⟩,<-this,hF];rfl
     refine⟨(j'+1,setV V q (V q+1)),B3 (gar:=[]) [] ?_ (by rw[F7];omega) (hCL _ _ _) trivial,rfl,by rw[hs1];exact hS4⟩;simp only;rw[eK,eF,Ax];rfl
   ·have hf:HR .nilS n mp=some .nilS:=by
     rw[<-hmp];refine z2i λp hp e=>hnS ?_;rw[<-e,<-Nj 9 (Ed l m j') V (metD l m j')];exact Al.2 ⟨p,hp,rfl⟩
    have hset:∀y,setM n y mp=some (kvO (keyT 9 (Ed l m j') V (metD l m j')++[(n,y)])):=λy=>by
     rw[<-hmp];refine zcw λp hp e=>hnS ?_;rw[<-e,<-Nj 9 (Ed l m j') V (metD l m j')];exact Al.2 ⟨p,hp,rfl⟩
    have hSA:∀X,Cw 9 [7] F (F++X):=λ_=>Mn _;have hSS:∀l,Cw 9 [7] l l:=λ_=>FP;refine Gr [7] ?_;(with_reducible repeat'(first|simp(disch:=omega)only[push_cast,↓zz,seval,xx,Af,An,A7,BC,Ch,AT,Co,Cn,pl,pF,hf,hset,hSA,hSS,zkz,OE,UF,UE,Ai,List.length_singleton,z2k,zv3]|refine sp_ ?_ ?_<;>try(intro hc;push_cast at hc)|omega|intro _))
    all_goals
     have hs1:Ed l m (j'+1)=Ed l m j'++[n]:=hss.trans (Ad hnS);have hs2:(Ed l m (j'+1)).length=(Ed l m j').length+1:=by rw[hs1,Ai];rfl
     have hs3:(Ed l m (j'+1)).length<=(NI s l).length:=by rw[<-hseen];exact zq0 om
    ·exact⟨chH _ k .nilS (.bool false) s l _ (F++[_]),by rw[F7];omega,Ea [] oc,om,_,_,rfl⟩
    ·have hD:∀i,i<(Ed l m j').length->metD l m (j'+1) i=metD l m j' i:=λi hi=>by
      have e:nth (Ed l m (j'+1)) i=nth (Ed l m j') i:=by rw[hs1];simp[nth,Ak,A9 hi]
      rw[metD,e,hms,Ad λe=>hnS (by rw[e];exact Bi hi)];rfl
     have hD2:metD l m (j'+1) (Ed l m j').length=[oneS x]:=by
      have e:nth (Ed l m (j'+1)) (Ed l m j').length=n:=by rw[hs1];simp[nth]
      rw[metD,e,hms,Ae rfl,zq1.1 hnS];rfl
     have hV:∀i,i<(Ed l m j').length->setV V (Ed l m j').length 1 i=V i:=λi hi=>by rw[setV,Ad om]
     have hV2:setV V (Ed l m j').length 1 (Ed l m j').length=1:=by simp[setV]
     refine⟨(j'+1,setV V (Ed l m j').length 1),B3 (gar:=[]) [] ?_ (by rw[F7];omega) (hCL _ _ _) trivial,rfl,om⟩;simp only;rw[hs2,zcx,hs1,zcz,hD2,hV2,Ta (λi hi=>⟨hV i hi,hD i hi⟩),Pn (λi hi=>⟨hV i hi,hD i hi⟩),hF,hFl,Ax];rfl
 ·rintro⟨j,V⟩ ⟨hj,hS4⟩
  simp only[Au] at hj hS4;subst hj;show T _ _ _ _ _ _ _;have hj:Ed l m m.length=Jg (totV l) m:=by rw[Ed,As]
  have hnk:¬4096<(NI s l).length:=by rw[<-hseen,<-hj];omega
  rw[Ad hnk]
  have hDk:∀i,i<(Ed l m m.length).length->AR (metD l m m.length i)=MV s l (nth (Ed l m m.length) i):=λi hi=>by
   rw[metD,metL,As,MV,hm]
  have hpm:∀out:List Cho,out.Perm ((Ed l m m.length).map λn=>(n,MV s l n))->NM out->out=(NI s l).map λn=>(n,MV s l n):=λout h1 h2=>Zg (by rw[hm,<-hj];exact h1) h2
  have hdl:∀i,i<(Ed l m m.length).length->(metD l m m.length i).length<=1114112:=λi hi=>by
   have h1:=Bg (λx=>decide (totV l x=nth (Ed l m m.length) i)) m;rw[metD,Au,metL,As];omega
  have hvb:∀i,i<(Ed l m m.length).length->0<=nth (Ed l m m.length) i/\nth (Ed l m m.length) i<=1099511627776:=λi hi=>by
   have:=Bi hi;rw[hj,Pm] at this;obtain⟨x,hx,e⟩:=Al.1 this;obtain⟨q,hq,rfl⟩:=Bw hx;have h1:=hmem q hq;rw[show nth m q=m[q] by simp[nth,hq]] at h1;have t1:=K1 (x:=m[q]) om (l:=l) hb;rw[<-hj] at e;omega
  have hne:0<(Ed l m m.length).length:=by
   obtain⟨y,hy⟩:∃y,memL s y:=by
    cases s with
    |nil=>exact absurd rfl hs0
    |cons t b=>exact⟨t.lo,t,oc,AE _,hs.1.1 t oc⟩
   have:totV l y∈Ed l m m.length:=by
    rw[hj,Pm];exact Al.2 ⟨y,by rw[<-hm,Ff,hns];exact hy,rfl⟩
   exact Ej this
  refine I8 (zd0 pF rfl rfl λi _=>?_) ?_
  ·simp only[BO]
   repeat' split
   all_goals first|exact (show _<9 by omega)|exact⟨oy,oy⟩|trivial
  generalize metD l m m.length=D at *;generalize Ed l m m.length=S at *;clear hseen hj;have pK:=Xl (w:=2) (e:=Ce) (λ_=>rfl) S D;have hKl:(kvO (keyD 2 Ce S D)).length=2 * S.length:=by rw[UE];simp[keyD]
  have hK1:∀i,i<S.length->(kvO (keyD 2 Ce S D)).getD (2 * i) .any=.int .i64 (nth S i)/\(kvO (keyD 2 Ce S D)).getD (2 * i+1) .any=AA (D i):=λi hi=>zcv (zq3 hi);have hKv:=UF (keyD 2 Ce S D);generalize kvO (keyD 2 Ce S D)=kv at *;refine DR Ra (W_T ?_);(with_reducible repeat'(first|simp(disch:=omega)only[push_cast,↓zz,seval,pF,pl,pK,zj4,OE,hKv,hKl]|refine sp_ ?_ ?_<;>try(intro hc;push_cast at hc)|omega|intro _))
  let pick:Nat->Cho:=λi=>(nth S i,MV s l (nth S i))
  have hP:=λ(ids:List Nat)=>HN (ids.map pick)
  have hcl2:∀(ids:List Nat)(v:Nat),∀X∈chH (fndV W G A P M st) k .nilS (.bool false) s l kv [⟨0,1,true,itX 7 1 (2 * S.length) ids⟩,⟨2,v,false,(ids.map pick).map choV⟩],ltL 11 X.xs:=λids v=>JD pF rfl rfl om (BU _ _ pK) λX hX=>by
   simp only[Af,An,A7] at hX;rcases hX with rfl|rfl
   ·exact⟨(show 7<11 by omega),oy,oy,BU _ _ (CO (f:=λ(i:Nat)=>AV.int .i64 i) (λ_=>rfl) ids)⟩
   ·exact BU _ _ (hP ids)
  refine Ba (D6 (σ:=List Nat × Nat) (λq=>q.1.Nodup/\∀i∈q.1,i<S.length) (λq=>S.length-q.1.length)
   (λq=>BO [(4,.ptr 3 1 0 0),(5,.ptr 4 1 0 0),(18,.ref 10 q.2 0 q.1.length),(110,.ptr 9 1 0 0)]) (λq=>Abs.hl (chH (fndV W G A P M st) k .nilS (.bool false) s l kv [⟨0,1,true,itX 7 1 (2 * S.length) q.1⟩,⟨2,q.2,false,(q.1.map pick).map choV⟩])) ([],1) ⟨Cm,λi hi=>by cases hi⟩ ?_ ?_)
  ·refine (Ea [(4,.ptr 3 1 0 0),(5,.ptr 4 1 0 0),(18,.nilS),(110,.ptr 9 1 0 0)] (Dq (m:=11) ⟨rfl,(show 3<11 by omega),rfl,(show 4<11 by omega),rfl,oy,rfl,(show 9<11 by omega),oy⟩)).trans ((Hk [2] oc).trans (GY ?_ λi _=>?_))
   ·refine⟨?_,?_,?_,?_,?_,?_,?_,?_,?_,?_,?_,oy⟩
    all_goals first|exact⟨rfl,rfl,id,AN _ _⟩|exact⟨rfl,rfl,λh=>(by cases h),AN _ _⟩
   ·simp only[BO]
    repeat' split
    all_goals first|exact Bn _ _|exact⟨rfl,rfl,rfl,(show (0:Nat)<2 by omega),rfl,rfl,oc⟩
  rintro⟨ids,v⟩ ⟨hnd,hlt⟩;simp only at hnd hlt ⊢;have pids:AJ (ids.map λ(i:Nat)=>AV.int .i64 i)=true:=CO (λ_=>rfl) ids;have hPi:=hP ids;have hci:=hcl2 ids v;refine DR Ra (W_T ?_);(with_reducible repeat'(first|simp(disch:=omega)only[push_cast,↓zz,seval,pF,pl,pK]|refine sp_ ?_ ?_<;>try(intro hc;push_cast at hc)|omega|intro _));refine zpz (g:=7) (v:=1) (ids:=ids) (by show (⟨0,1,true,itX 7 1 (2 * S.length) ids⟩:Grp)=⟨0,1,true,itX 7 1 kv.length ids⟩;rw[hKl]) ⟨rfl,rfl,rfl,hKv⟩ (λj hj hji=>?_) λhall=>?_
  ·have hj:2 * j<kv.length:=hj
   have hjS:j<S.length:=om
   obtain⟨k1,k2⟩:=hK1 j hjS;have hN:=CE (D j) (by have:=hdl j hjS;omega);rw[hDk j hjS] at hN;(with_reducible repeat'(first|simp(disch:=omega)only[push_cast,↓zz,seval,pF,pl,pK,k1,k2,hKl]|refine sp_ ?_ ?_<;>try(intro hc;push_cast at hc)|omega|intro _));refine zj5 (g:=7) (v:=1) (ids:=ids) (j:=j) (by show (⟨0,1,true,itX 7 1 (2 * S.length) (ids++[j])⟩:Grp)=⟨0,1,true,itX 7 1 kv.length (ids++[j])⟩;rw[hKl]) ⟨rfl,rfl,rfl,hKv⟩ hj ?_;have hnd2:(ids++[j]).Nodup:=Dg.2 ⟨hnd,oc,λa ha b hb e=>hji (by simp at hb;subst hb;subst e;exact ha)⟩
   have hil:ids.length<S.length:=by
    have h1:=hnd2.length_le_of_subset (l₂:=List.range S.length) λi hi=>by
     rcases Av.1 hi with hi|hi
     ·exact AF.2 (hlt i hi)
     ·rw[Am] at hi;rw[hi];exact AF.2 hjS
    rw[Ai,List.length_singleton,C0] at h1;omega
   have hSl:S.length<=4096:=hS4;have f_:=Aa pF (Aa pl (Aa pK (Aa k1 (Aa k2 hKl))));have e_:=hN;refine ywD ?_;clear f_ e_
   all_goals
    refine⟨(ids++[j],v+1),B3 (gar:=[⟨2,1,true,[choV (pick j)]⟩]) _ (by simp[chH,pick]) (by rw[F7];simp) (hcl2 _ _) ⟨rfl,(show 3<11 by omega),rfl,(show 4<11 by omega),by rw[Ai];rfl,(show 10<11 by omega),rfl,(show 9<11 by omega),oy⟩,⟨hnd2,λi hi=>?_⟩,by rw[Ai,List.length_singleton];omega⟩;rcases Av.1 hi with hi|hi
    ·exact hlt i hi
    ·rw[Am] at hi;rw[hi];exact hjS
  ·(with_reducible repeat'(first|simp(disch:=omega)only[push_cast,↓zz,seval,pF,pl,pK]|refine sp_ ?_ ?_<;>try(intro hc;push_cast at hc)|omega|intro _))
   have hpr:ids.Perm (List.range S.length):=(List.perm_ext_iff_of_nodup hnd EL).2 λi=>⟨λhi=>AF.2 (hlt i hi),λhi=>hall i (by have:=AF.1 hi;show 2 * i<kv.length;omega)⟩;have hpl:ids.length=S.length:=by have:=hpr.length_eq;rwa [C0] at this
   have hSl:S.length<=4096:=hS4
   have hsort:=zpy (H:=Abs.hl (chH (fndV W G A P M st) k .nilS (.bool false) s l kv [⟨0,1,true,itX 7 1 (2 * S.length) ids⟩,⟨2,v,false,(ids.map pick).map choV⟩])) (g:=10) (ver:=v) (ex:=false) (l:=ids.map pick) (by rw[hl_n,F7];simp) rfl (λh=>by have:=Bt List.length h;rw[Au,hpl] at this;simp only[List.length_nil] at this;omega) (by rw[Au];omega) (λc hc=>by
    obtain⟨i,hi,rfl⟩:=Al.1 hc
    exact hvb i (hlt i hi))
   rw[Au] at hsort;refine B9.mono hsort ?_;rintro y H' ⟨rfl,l',hl1,hl2,rfl⟩
   have hl3:l'.Perm (S.map λn=>(n,MV s l n)):=by
    have e:S.map (λn=>(n,MV s l n))=(List.range S.length).map pick:=by
     conv=>lhs;rw[<-QZ S]
     rw[BP];rfl
    rw[e];exact hl1.trans (hpr.map pick)
   have hl4:l'.length=ids.length:=by rw[hl1.length_eq,Au]
   have pl':=HN l';rw[Ra];(with_reducible repeat'(first|simp(disch:=omega)only[push_cast,↓zz,seval,pF,pl,pK,pl']|refine sp_ ?_ ?_<;>try(intro hc;push_cast at hc)|omega|intro _))
   all_goals
    rw[<-hl4];refine⟨_,_,IW (l0:=fndL W G A P M st) 4 [10] (z:=choR (some l')) ?_ rfl ?_ ?_ (QV _),by rw[hpm l' hl3 hl2],rfl⟩
    ·(simp(disch:=omega)only[push_cast,↓zz,seval,pl'])
    ·intro g hg
     obtain rfl:g=_:=by simpa using hg
     exact⟨AL _ _ pF,oy⟩
    ·(simp(disch:=omega)only[push_cast,↓zz,seval,pl',choR])
 ·rintro x l' ⟨rfl,hk4,mp,F,rfl⟩
  rw[Ae hk4,Ra];(with_reducible repeat'(first|simp(disch:=omega)only[push_cast,↓zz,seval]|refine sp_ ?_ ?_<;>try(intro hc;push_cast at hc)|omega|intro _));refine⟨_,_,IU (l0:=fndL W G A P M st) rfl (Ab _) ?_ (AL _ _ rfl),rfl,rfl⟩;intro g hg;obtain rfl:g=_:=by simpa using hg
  exact⟨AL _ _ pF,oy⟩
theorem Zo{f:Int->Nat->Option (List Row) × Nat}{sum:Int}(hf:∀v k,k<=65536->(f v k).2<=65537/\((f v k).1.isSome=true->(f v k).2<=65536)):∀(cs:List Cho)(t:Tie)(k:Nat),k<=65536->(tieL f sum cs t k).2<=65537/\((tieL f sum cs t k).1.isSome=true->(tieL f sum cs t k).2<=65536)
 |[],t,k,h=>⟨by rw[tieL];simp only;omega,λ_=>h⟩
 |c::cs,t,k,h=>by
  have h1:=hf (sum+c.1) k h;rw[tieL];generalize f (sum+c.1) k=q at *;obtain⟨o,k'⟩:=q;cases o with
  |none=>exact⟨h1.1,λh=>by cases h⟩
  |some rest =>
   have h2:=h1.2 rfl;simp only at h1 h2 ⊢;split
   ·exact⟨h1.1,λh=>by cases h⟩
   split
   ·exact Zo hf cs _ k' h2
   ·exact Zo hf cs _ k' h2
theorem z2l{want:List Span}:∀(pl:List Pl)(sum:Int)(k:Nat),k<=65536->(He want pl sum k).2<=65537/\((He want pl sum k).1.isSome=true->(He want pl sum k).2<=65536)
 |[],sum,k,h=>by
  rw[He];split
  ·exact⟨by simp only;omega,λh=>by cases h⟩
  ·exact⟨by simp only;omega,λ_=>by simp only;omega⟩
 |p::pl,sum,k,h=>by
  rw[He];split
  ·exact⟨by simp only;omega,λh=>by cases h⟩
  split
  ·exact⟨by simp only;omega,λ_=>by simp only;omega⟩
  split
  ·exact⟨by simp only;omega,λ_=>by simp only;omega⟩
  split
  ·exact⟨by simp only;omega,λ_=>by simp only;omega⟩
  split
  ·exact⟨by simp only;omega,λh=>by cases h⟩
  ·exact Zo (λv k h=>z2l pl v k h) _ _ (k+1) om
theorem NN(t:Tie):t.all.length=t.done.length+t.last.length:=by simp[Tie.all]
theorem UG{f:Int->Nat->Option (List Row) × Nat}{sum:Int}{R:Nat}(hf:∀v k rest k',f v k=(some rest,k')->rest.length<=R):∀(cs:List Cho)(t:Tie)(k:Nat)(rows:List Row)(k':Nat),t.all.length<=4096+R->tieL f sum cs t k=(some rows,k')->rows.length<=4096+R
 |[],t,k,rows,k',h,e=>by
  rw[tieL] at e;obtain rfl:=A5 (Prod.mk.inj e).1;exact h
 |c::cs,t,k,rows,k',h,e=>by
  rw[tieL] at e;have h1:=hf (sum+c.1) k;generalize f (sum+c.1) k=q at *;obtain⟨o,k1⟩:=q;cases o with
  |none=>cases (Prod.mk.inj e).1
  |some rest =>
   have h2:=h1 rest k1 rfl;simp only at e;split at e
   ·cases (Prod.mk.inj e).1
   split at e
   ·exact UG hf cs _ k1 rows k' (by rw[NN] at h ⊢;exact h) e
   ·exact UG hf cs _ k1 rows k' (by rw[NN];simp only;omega) e
theorem Xp{want:List Span}:∀(pl:List Pl)(sum:Int)(k:Nat)(rows:List Row)(k':Nat),He want pl sum k=(some rows,k')->rows.length<=4097 * (pl.length+1)
 |[],sum,k,rows,k',e=>by
  rw[He] at e;split at e
  ·cases (Prod.mk.inj e).1
  obtain rfl:=A5 (Prod.mk.inj e).1;split<;>simp
 |p::pl,sum,k,rows,k',e=>by
  rw[List.length_cons];rw[He] at e;split at e
  ·cases (Prod.mk.inj e).1
  split at e
  ·obtain rfl:=A5 (Prod.mk.inj e).1
   simp
  split at e
  ·obtain rfl:=A5 (Prod.mk.inj e).1
   simp only[List.length_singleton];omega
  split at e
  ·obtain rfl:=A5 (Prod.mk.inj e).1
   split<;>simp only[List.length_singleton,List.length_nil]<;>omega
  split at e
  ·cases (Prod.mk.inj e).1
  ·have:=UG (R:=4097 * (pl.length+1)) (λv k rest k' h=>Xp pl v k rest k' h) _ _ _ _ _ (by simp[Tie.all]) e
   omega
abbrev rwV(s:List Span)(r:Row):List AV:=AA s::r.map AA
def rwF(last:List Row)(sf:Nat->List Span):List Grp:=(List.range last.length).map λi=>⟨1,1,false,rwV (sf i) (nth last i)⟩
def rwT(n m:Nat):List AV:=(List.range m).map λi=>.ref (i+2) 1 0 (n+1)
section
variable {n m i:Nat}{last:List Row}{sf:Nat->List Span}
theorem KJ:(rwF last sf).length=last.length:=by simp[rwF]
theorem zq4:(rwT n m).length=m:=by simp[rwT]
theorem zd1(h:i<last.length):(rwF last sf).getD i default=⟨1,1,false,rwV (sf i) (nth last i)⟩:=Dn h
theorem zv4{z:AV}(h:i<m):(rwT n m).getD i z=.ref (i+2) 1 0 (n+1):=Dn h
theorem zq5{s:List Span}(h:i<last.length):(rwF last sf).set i ⟨1,1,false,rwV s (nth last i)⟩=rwF last λj=>if j=i then s else sf j:=by
 rw[rwF,E0 h,rwF];refine A6 λj _=>?_;by_cases hj:j=i
 ·subst hj;simp
 ·simp[hj]
theorem Rc{sf':Nat->List Span}(h:∀i,i<last.length->sf i=sf' i):rwF last sf=rwF last sf':=A6 λi hi=>by rw[h i (AF.1 hi)]
theorem zja{r:Row}:rwF (last++[r]) sf=rwF last sf++[⟨1,1,false,rwV (sf last.length) r⟩]:=by
 rw[rwF,Ai,List.length_singleton,Dh,Aw,rwF];congr 1
 ·refine A6 λi hi=>?_
  have hi:=AF.1 hi;simp[nth,Ak,A9 hi]
 ·simp[nth]
theorem zjb:rwT n (m+1)=rwT n m++[.ref (m+2) 1 0 (n+1)]:=by simp[rwT,Dh]
theorem NO(s:List Span)(r:Row):AJ (rwV s r)=true:=by
 have:=B0 r;simp only[rwV,AJ,this,AA,AV.pure,Cs,Bool.and_self]
theorem zv5{k:Nat}:∀X∈rwF last sf,ltL k X.xs:=λX hX=>by
 obtain⟨i,_,rfl⟩:=Al.1 hX;exact BU _ _ (NO _ _)
theorem zl2{k:Nat}(h:m+2<=k):ltL k (rwT n m):=by
 have key:∀(l:List Nat),(∀i∈l,i<m)->ltL k (l.map λi=>AV.ref (i+2) 1 0 (n+1)):=λl=>by
  induction l with
  |nil=>exact λ_=>trivial
  |cons i l ih =>
   intro h';exact⟨by have:=h' i oc;show i+2<_;omega,ih λj hj=>h' j (by simp[hj])⟩
 exact key _ λi hi=>by simpa using hi
theorem Zp{k:Nat}:∀{xs ys:List AV},ltL k xs->ltL k ys->ltL k (xs++ys)
 |[],_,_,h=>h
 |x::xs,ys,h,h2=>⟨h.1,Zp h.2 h2⟩
end
def outB(n v:Nat)(done last:List Row)(sf:Nat->List Span):List Grp:=⟨1,v,false,done.map AQ++rwT n last.length⟩::rwF last sf
theorem zjc{W:List Span}{G:List (List Span)}{A:List Int}{P:List (List Part)}{M:List Int}{st:Int}{n v:Nat}{done last:List Row}{sf:Nat->List Span}:(fndL W G A P M st++outB n v done last sf).length=last.length+2:=by simp[fndL,outB,KJ]
theorem FrzM.app{d:Nat}{H:A4}{ks:List Nat}:∀{xs xs' ys ys':List AV},FrzM d H ks xs ys->FrzM d H ks xs' ys'->FrzM d H ks (xs++xs') (ys++ys')
 |[],_,_,_,h,h2=>by rw[show _=[] from h];exact h2
 |x::xs,_,_,_,⟨y,r,rfl,h1,h2⟩,h3=>⟨y,_,rfl,h1,FrzM.app h2 h3⟩
theorem Tc{m b:Nat}{env:Env}(W:List Span)(G:List (List Span))(A:List Int)(P:List (List Part))(M:List Int)(st:Int)(n v:Nat)(done last:List Row)(s:List Span)(hn:∀r∈last,r.length=n):
 Ent m b env (Abs.hl (fndL W G A P M st++outB n v done last λ_=>s)) env (Abs.hl (fndL W G A P M st++[⟨1,v,false,(done++last.map (s::·)).map AQ⟩]++(rwF last λ_=>s).map Grp.dead)):=by
 have hat:∀i,i<last.length->(Abs.hl (fndL W G A P M st++outB n v done last λ_=>s)).at_ (i+2)=⟨1,1,false,rwV s (nth last i)⟩:=λi hi=>by
  rw[Da];simp only[fndL,outB,List.cons_append,List.nil_append,BK];exact zd1 hi
 have hlen:(rwF last λ_=>s).length=last.length:=KJ
 have key:∀idx:List Nat,(∀i∈idx,i<last.length)->FrzM 1 (Abs.hl (fndL W G A P M st++outB n v done last λ_=>s)) ((List.range last.length).map (·+2)) (idx.map λi=>AV.ref (i+2) 1 0 (n+1)) (idx.map λi=>AQ (s::nth last i)):=λidx=>by
  induction idx with
  |nil=>exact λ_=>rfl
  |cons i idx ih =>
   intro hi;have hi1:=hi i oc
   have hat2:((Abs.hl (fndL W G A P M st++outB n v done last λ_=>s)).only ((List.range last.length).map (·+2))).at_ (i+2)=⟨1,1,false,rwV s (nth last i)⟩:=by
    rw[LO,Ae (Al.2 ⟨i,AF.2 hi1,rfl⟩),hat i hi1]
   have hl2:(nth last i).length=n:=hn _ (Bi hi1);have hl3:(rwV s (nth last i)).length=n+1:=by simp[rwV,hl2]
   have hpw:=Bz.1 (NO s (nth last i));refine⟨_,_,rfl,.inl (.inr ⟨?_,?_⟩),ih λj hj=>hi j (by simp[hj])⟩
   ·refine⟨by rw[hat2],by rw[hat2];exact Nat.one_pos,by rw[hat2];simp only;omega,λz hz=>?_⟩
    rw[hat2] at hz;exact hpw z (Bc (Be hz))
   ·show _=AV.lst _ _
    rw[hat2]
    have e1:(((rwV s (nth last i)).drop 0).take (n+1)).map (frzV 0 ((Abs.hl (fndL W G A P M st++outB n v done last λ_=>s)).only ((List.range last.length).map (·+2))))=rwV s (nth last i):=by
     rw[BH,Ay om];exact (A6 λx hx=>(rfl:frzV 0 _ x=x)).trans (DV _)
    rw[e1];rfl
 refine Gw (g:=1) (w:=1) (v:=v) (d:=1) (ex:=false) (xs:=done.map AQ++rwT n last.length) (ys:=(done++last.map (s::·)).map AQ) ((List.range last.length).map (·+2)) ox (by rw[zjc];omega) rfl (λh=>?_) ?_ ?_
 ·obtain⟨i,_,hi⟩:=Al.1 h
  omega
 ·rw[Aw]
  refine FrzM.app (FrzM.refl _) ?_
  have e:(last.map (s::·)).map AQ=(List.range last.length).map λi=>AQ (s::nth last i):=by
   refine BL oc λi h1 h2=>?_;simp at h1;simp[nth,h1]
  rw[e];exact key _ λi hi=>AF.1 hi
 ·have hk:∀(F:List Grp)(p:Nat),(∀j,j<F.length->p+j∈(List.range last.length).map (·+2))->Ec p ((List.range last.length).map (·+2)) F=F.map Grp.dead:=λF=>by
   induction F with
   |nil=>intro p _;rfl
   |cons X F ih =>
    intro p h
    rw[Ec,Ae (by have:=h 0 oc;simpa using this),AD,ih _ λj hj=>by
     have:=h (j+1) (by simpa using hj)
     rwa [show p+1+j=p+(j+1) by omega]]
  have h0:(0:Nat)∉(List.range last.length).map (·+2):=λh=>by obtain⟨i,_,hi⟩:=Al.1 h;omega
  have h1:(0+1:Nat)∉(List.range last.length).map (·+2):=λh=>by obtain⟨i,_,hi⟩:=Al.1 h;omega
  simp only[fndL,outB,List.cons_append,List.nil_append];rw[Ec,Ad h0,Ec,Ad h1,hk _ _ λj hj=>Al.2 ⟨j,AF.2 (by rw[hlen] at hj;exact hj),om⟩];rfl
def Kj:Option (List Row)->AV
 |none=>.tup [.nilS,.bool false]
 |some l=>.tup [IH l,.bool true]
theorem JE(o:Option (List Row)):(Kj o).pure=true:=by
 cases o with
 |none=>rfl
 |some l=>simp[Kj,IH,AV.pure,AJ,GG]
structure Xq(W:List Span)(G:List (List Span))(A:List Int)(P:List (List Part))(M:List Int)(pl:List Pl):Prop where
 al:A.length<=4
 pn:P.length=A.length
 mn:M.length=A.length+1
 ll:pl.length=A.length
 gl:G.length<=4
 wl:W.length<=1000000000
 at_:∀i,i<A.length->0<=nth A i/\nth A i<G.length
 sets:∀i,i<A.length->nth pl i=(nth G (nth A i).toNat,nth P i)
 sl:∀p∈pl,p.1.length<=100000
 ok:PlOk pl
 most:∀i,i<=A.length->nth M i=Fs (pl.drop i)
 top:Fs pl<=1000000000
theorem Xr{pl:List Pl}(h:PlOk pl):∀i,Fs (pl.drop i)<=Fs pl
 |0=>by simp
 |i+1=>by
  cases pl with
  |nil=>simp
  |cons p pl =>
   have h1:0<=GF p:=(JV (s:=p.1) (h p oc).2.2).1;have h2:=Xr (pl:=pl) (λq hq=>h q (by simp[hq])) i;have e:Fs (p::pl)=GF p+Fs pl:=by simp[Fs]
   rw[List.drop_succ_cons];omega
theorem Re{N:Nat}:∀{l:List Span}{f:Nat},Plain l->(∀s∈l,(f:Int)<=s.lo/\s.hi<=N)->f<=N+1->cntI l=(Dx l).length/\(Dx l).length+f<=N+1/\l.length<=(Dx l).length
 |[],f,_,_,hf=>⟨by simp[cntI,Dx],by simpa [Dx] using hf,oc⟩
 |s::l,f,h,hb,hf=>by
  have h1:=hb s oc;have h2:=h.head
  obtain⟨i1,i2,i3⟩:=Re (N:=N) (l:=l) (f:=(s.hi+1).toNat) h.tail (λt ht=>by
   have:=(AH.1 h.2).1 t ht;have:=hb t (by simp[ht])
   omega) om
  rw[KZ,Ai,cntI,i1];simp only[IC,Au,C0,List.length_cons];refine⟨?_,om,om⟩
  push_cast
  omega
theorem R6{W:List Span}{G:List (List Span)}{A:List Int}{P:List (List Part)}{M:List Int}{pl:List Pl}(h:Xq W G A P M pl){k:Nat}(hk:k<A.length)(st:Int):
 B9 Tryz.prog 222 [.ptr 0 1 0 0,.int .i64 k] (Abs.hl (fndL W G A P M st)) λy H'=>y=choR (choL (nth pl k).1 (nth pl k).2)/\H'=Abs.hl (fndL W G A P M st):=by
 have hm:nth pl k∈pl:=Bi (by rw[h.ll];exact hk);have ha:=h.at_ k hk;have h1:=h.al;have h2:=h.gl;have h3:=h.sl _ hm;obtain⟨o1,o2,o3⟩:=h.ok _ hm;rw[h.sets k hk] at h3 o1 o2 o3 ⊢;simp only at h3 o1 o2 o3 ⊢;by_cases hl:(nth P k).length=1
 ·have hb:EJ (nth (nth P k) 0)=true:=o3 _ (Bi om)
  obtain⟨i1,i2⟩:=GI (nth G (nth A k).toNat) hb;have hn:=Gt i1 (SG hb)
  have hbd:∀s∈imgL (nth (nth P k) 0) (nth G (nth A k).toNat),((0:Nat):Int)<=s.lo/\s.hi<=((66060288:Nat):Int):=λt ht=>by
   have hle:=i1.1 t ht;obtain⟨x,_,hx,e⟩:=(i2 t.lo).1 ⟨t,ht,AE _,hle⟩;obtain⟨y,_,hy,e'⟩:=(i2 t.hi).1 ⟨t,ht,hle,AE _⟩;have:=CZ hb hx;have:=CZ hb hy;omega
  obtain⟨c1,c2,c3⟩:=Re i1 hbd om;exact Zf W G A P M st k hk h.pn ha om om hl h3 om (by rw[hn];omega) (by rw[hn];omega)
 ·exact Xo W G A P M st k hk h.pn ha om om hl o2 o3 o1.1 o1.2
def z6q(want:List Span):List Pl->Int->Nat->Option (List Row) × Nat
 |[],_,k=>(none,k)
 |p::pl,sum,k=>if pl=[]/\p.2.length=1 then (some (if preL (nth p.2 0) p.1 (Gs want (-sum))=[] then [] else [[preL (nth p.2 0) p.1 (Gs want (-sum))]]),k+1)
  else match choL p.1 p.2 with
   |none=>(none,k+1)
   |some cs=>tieL (He want pl) sum cs ⟨[],[],[]⟩ (k+1)
theorem zq6(want:List Span)(pl:List Pl)(sum:Int)(k:Nat):He want pl sum k=if 65536<k+1 then (none,k+1) else if EN (AR [⟨sum,sum+Fs pl⟩]) (AR want)=[] then (some [],k+1)
 else if Hs [⟨sum,sum+Fs pl⟩] want=[]\/pl=[] then (some [pl.map (·.1)],k+1) else z6q want pl sum k:=by
 cases pl with
 |nil =>
  rw[He];split
  ·rfl
  ·split
   ·rfl
   ·rw[Ae (.inr rfl)];rfl
 |cons p pl =>
  rw[He];split
  ·rfl
  split
  ·rfl
  by_cases hm:Hs [⟨sum,sum+Fs (p::pl)⟩] want=[]
  ·rw[Ae hm,Ae (.inl hm)]
  ·rw[Ad hm,Ad (by simp[hm]:¬(Hs [⟨sum,sum+Fs (p::pl)⟩] want=[]\/p::pl=[])),z6q]
   rfl
theorem KN{P:Program}{n b:Nat}{env:Env}{H:A4}{Q:Ex->Env->A4->Prop}{x y:AC}(live:List (Nat × AV))(heap:A4)(h1:T P n b x env H (Ex.then (λenv' H'=>Ent n b env' H' (BO live) heap) Q))(h2:T P n b y (BO live) heap Q):T P n b (.seq x y) env H Q :=
 DK (T.mono h1 λx env' H' hh=>by
  cases x with
  |normal=>exact I8 hh h2
  |exit id=>exact hh
  |ret=>exact hh)
theorem UH{y y':AV}{X:Grp}{gar:List Grp}(hX:ltL 1 X.xs)(hy:y.pure=true)(hle:leS [X] y y'):Ent 1 1 (λ_=>y) (Abs.hl (X::gar)) (λ_=>y') (Abs.hl [X]) :=
 (IU (l0:=[X]) rfl (Ab _) (λG hG=>by rw[Am] at hG;subst hG;exact hX) (AL _ _ hy)).trans (GY ⟨⟨rfl,rfl,id,AN _ _⟩,oy⟩ λ_ _=>hle)
theorem z6r{s:List Span}(h:Ur s):∃y,memL s y:=by
 obtain⟨h1,h2⟩:=h;cases s with
 |nil=>exact absurd rfl h2
 |cons t b=>exact⟨t.lo,t,oc,AE _,h1.1.1 t oc⟩
def frH(z:AV)(n v:Nat)(done last:List Row)(sf:Nat->List Span):List Grp:=⟨6,1,true,[z]⟩::outB n v done last sf
section
variable {z:AV}{n v:Nat}{done last:List Row}{sf:Nat->List Span}
theorem z2m:Abs.hl (frH z n v done last sf)=Abs.hl (⟨6,1,true,[z]⟩::⟨1,v,false,done.map AQ++rwT n last.length⟩::rwF last sf):=rfl
theorem GU:(frH z n v done last sf).length=last.length+2:=by simp[frH,outB,KJ]
theorem Hb{k:Nat}(hz:z.pure=true)(hk:last.length+2<=k):∀X∈frH z n v done last sf,ltL k X.xs:=λX hX=>by
 have p0:ltV k z:=AL _ _ hz;simp only[frH,outB,Af] at hX;rcases hX with rfl|rfl|hX
 ·exact⟨p0,oy⟩
 ·exact Zp (BU _ _ (GG done)) (zl2 om)
 ·exact zv5 X hX
end
section
variable {W:List Span}{G:List (List Span)}{A:List Int}{P:List (List Part)}{M:List Int}{pl:List Pl}
def z2n(W:List Span)(G:List (List Span))(A:List Int)(P:List (List Part))(M:List Int)(pl:List Pl)(k:Nat):Prop :=
 ∀(sum:Int)(st:Nat),st<=65536->0<=sum->sum+Fs (pl.drop k)<=1000000000 ->
  B9 Tryz.prog 197 [.ptr 0 1 0 0,.int .i64 k,.int .i64 sum] (Abs.hl (fndL W G A P M st)) λy H'=>y=Kj (He W (pl.drop k) sum st).1/\H'=Abs.hl (fndL W G A P M (He W (pl.drop k) sum st).2)
theorem zq7(h:Xq W G A P M pl)(k:Nat):(A.drop k).map (λa=>nth G a.toNat)=(pl.drop k).map (·.1):=by
 have h1:=h.ll;refine BL (by simp[h1]) λi h2 h3=>?_;simp at h2 h3;have:=h.sets (k+i) om;simp only[Dt,List.getElem_drop];rw[show nth pl (k+i)=pl[k+i] by simp[nth,(by omega:k+i<pl.length)],show nth A (k+i)=A[k+i] by simp[nth,(by omega:k+i<A.length)]] at this;rw[this]
section
variable {z:AV}{n v:Nat}{done last:List Row}{sf:Nat->List Span}{c:Cho}
theorem zl3:Abs.hl (frH z n v done last sf++[(⟨2,1,true,[choV c]⟩:Grp)])=Abs.hl (⟨6,1,true,[z]⟩::⟨1,v,false,done.map AQ++rwT n last.length⟩::(rwF last sf++[⟨2,1,true,[choV c]⟩])):=rfl
theorem NP:(frH z n v done last sf++[(⟨2,1,true,[choV c]⟩:Grp)]).length=last.length+3:=by rw[Ai,GU];rfl
theorem Td{k:Nat}(hz:z.pure=true)(hk:last.length+2<=k):∀X∈frH z n v done last sf++[(⟨2,1,true,[choV c]⟩:Grp)],ltL k X.xs:=λX hX=>by
 rcases Av.1 hX with hX|hX
 ·exact Hb hz hk X hX
 ·rw[Am] at hX
  subst hX;exact BU _ _ (HN [c])
theorem zq8{q m:Nat}{z:AV}(hq:q<m):(done.map AQ++rwT n m).getD (done.length+q) z=.ref (q+2) 1 0 (n+1):=by
 rw[Ak,AG oc,Au,Nat.add_sub_cancel_left,<-Ak,zv4 hq]
theorem z2o{m:Nat}:(done.map AQ++rwT n m).length=done.length+m:=by simp[zq4]
end
theorem UI{n b:Nat}{env:Env}{F:List Grp}{w:Nat}{x:AV}(i:Nat)(hx:x.pure=true)(hw:0<w)(hb:b<=F.length)(hcl:∀X∈F,ltL F.length X.xs)(hi:env i=.ptr F.length 1 0 0)(he:∀j,j<n->j≠i->ltV F.length (env j)):
 Ent n b env (Abs.hl (F++[(⟨w,1,true,[x]⟩:Grp)])) (env.put (some i) (.cptr x)) (Abs.hl F):=by
 have hat:((Abs.hl (F++[(⟨w,1,true,[x]⟩:Grp)])).only [F.length]).at_ F.length=⟨w,1,true,[x]⟩:=by
  rw[LO,Ae oc,Da,Rb]
 have f1:DX 1 ((Abs.hl (F++[(⟨w,1,true,[x]⟩:Grp)])).only [F.length]) (env i):=by
  rw[hi];refine⟨by rw[hat],by rw[hat];simp,by rw[hat];exact hw,rfl,?_⟩;rw[hat];exact (M1 _ 0 hx).1
 have f2:frzV 1 ((Abs.hl (F++[(⟨w,1,true,[x]⟩:Grp)])).only [F.length]) (env i)=.cptr x:=by
  rw[hi];show (if (0:Nat)=0 then _ else _)=_;rw[Ae rfl,hat];rfl
 have h1:=Qz (n:=n) (b:=b) i 1 [F.length] f1;rw[f2] at h1;refine h1.trans ((K7 (H':=Abs.hl (F++[(⟨w,1,true,[x]⟩:Grp).dead])) (by simp[A4.kill,hl_n]) λj hj=>?_).trans (I9 hb hcl λj hj=>?_))
 ·rw[Da]
  show _=if j∈[F.length] then ((F++[(⟨w,1,true,[x]⟩:Grp)]).getD j default).dead else (F++[(⟨w,1,true,[x]⟩:Grp)]).getD j default
  by_cases hjF:j=F.length
  ·subst hjF
   rw[Ae oc,Rb,Rb]
  ·rw[Ad (by simpa using hjF)]
   have hjl:j<F.length:=by
    have:j<(F++[(⟨w,1,true,[x]⟩:Grp)]).length:=by simpa [hl_n,A4.kill] using hj
    rw[Ai,List.length_singleton] at this;omega
   rw[Ak,Ak,A9 hjl,A9 hjl]
 ·show ltV _ (if j=i then _ else _)
  split
  ·trivial
  ·exact he j hj (by assumption)
theorem zq9{m:Nat}{env:Env}(W:List Span)(G:List (List Span))(A:List Int)(P:List (List Part))(M:List Int)(st:Int){n v:Nat}{done last:List Row}{s:List Span}{c:Cho}(hn:∀r∈last,r.length=n)(h16:env 16=.ptr (last.length+2) 1 0 0)(he:∀q,2<=q->∀j,j<m->j≠16->ltV q (env j)):
 Ent m 1 env (Abs.hl (frH (fndV W G A P M st) n v done last (λ_=>s)++[(⟨2,1,true,[choV c]⟩:Grp)])) (env.put (some 16) (.cptr (choV c))) (Abs.hl (frH (fndV W G A P M st) n v (done++last.map (s::·)) [] λ_=>c.2)):=by
 have pF:=IX W G A P M st;have pc:(choV c).pure=true:=by simp[choV,AV.pure,AJ,Cs]
 have hE:frH (fndV W G A P M st) n v (done++last.map (s::·)) [] (λ_=>c.2)=fndL W G A P M st++[⟨1,v,false,(done++last.map (s::·)).map AQ⟩]:=by simp[frH,outB,rwT,rwF,fndL]
 refine (UI (F:=frH (fndV W G A P M st) n v done last λ_=>s) 16 pc ox (by rw[GU];omega) (by rw[GU];exact Hb pF (Ab _)) (by rw[GU];exact h16) (λj hj hne=>by rw[GU];exact he _ om j hj hne)).trans ?_;refine (Tc W G A P M st n v done last s hn).trans ?_;rw[<-hE];refine I9 (by rw[GU];simp) (by rw[GU];exact Hb pF oc) (λj hj=>?_);show ltV _ (if j=16 then _ else _);split
 ·trivial
 ·rw[GU];exact he _ oc j hj (by assumption)
theorem UJ(F R:List Grp)(k:Nat):(F++R).getD (F.length+k) default=R.getD k default:=zbp rfl k
theorem Zq(F R:List Grp):(F++R).getD F.length default=R.getD 0 default:=UJ F R 0
theorem UK(F R:List Grp)(k:Nat)(Y:Grp):setQ (F++R) (F.length+k) Y=(setQ R k Y).map (F++·):=Uz F R k rfl
theorem z2p(F R:List Grp)(Y:Grp):setQ (F++R) F.length Y=(setQ R 0 Y).map (F++·):=UK F R 0 Y
mutual
theorem zd2{σ:Nat->Nat}{k:Nat}(h:∀g,g<k->σ g=g):∀x:AV,ltV k x->ren σ x=x
 |.any,_|.bool _,_|.int _ _,_|.str _,_|.nilS,_|.nul,_|.emp,_|.nilP,_|.nilF,_|.yld _,_|.lst _ _,_|.full _ _,_|.cptr _,_=>rfl
 |.map g _,hx=>by rw[ren,h g hx]
 |.ref g _ _ _,hx=>by rw[ren,h g hx]
 |.ptr g _ _ _,hx=>by rw[ren,h g hx]
 |.agg cs,hx=>by rw[ren,Ll h cs hx]
 |.tup cs,hx=>by rw[ren,Ll h cs hx]
 |.fn f cs,hx=>by rw[ren,Ll h cs hx]
theorem Ll{σ:Nat->Nat}{k:Nat}(h:∀g,g<k->σ g=g):∀xs:List AV,ltL k xs->renL σ xs=xs
 |[],_=>rfl
 |x::xs,hx=>by rw[renL,zd2 h x hx.1,Ll h xs hx.2]
end
theorem z2q(σ:Nat->Nat):∀xs ys:List AV,renL σ (xs++ys)=renL σ xs++renL σ ys
 |[],_=>rfl
 |x::xs,ys=>by rw[List.cons_append,renL,z2q σ xs ys,renL];rfl
theorem NQ(l0:List Grp){X Y:Grp}(h:z4a l0 X Y):∀l:List Grp,IM l0 (l++[X]) (l++[Y])
 |[]=>⟨h,oy⟩
 |_::l=>⟨⟨rfl,rfl,id,AN _ _⟩,NQ l0 h l⟩
section
variable {m:Nat}{z:AV}{n v q:Nat}{done last:List Row}{s:List Span}{r:Row}
theorem zd3(hq:last.length=q):frH z n v done (last++[r]) (λ_=>s)=⟨6,1,true,[z]⟩::⟨1,v,false,done.map AQ++(rwT n q++[.ref (q+2) 1 0 (n+1)])⟩::(rwF last (λ_=>s)++[⟨1,1,false,rwV s r⟩]):=by
 rw[frH,outB,zja,Ai,List.length_singleton,hq,zjb]
theorem zqa{L:List (Nat × AV)}{env:Env}{lit:Grp}(hz:z.pure=true)(hq:last.length=q)(hL:IF (q+3) env L):
 Ent m 1 env (Abs.hl (⟨6,1,true,[z]⟩::⟨1,v,false,done.map AQ++(rwT 0 q++[.ref (q+2) 1 0 1])⟩::(rwF last (λ_=>s)++[⟨1,1,true,[AA s]⟩,lit]))) (BO L) (Abs.hl (frH z 0 v done (last++[[]]) λ_=>s)):=by
 have hF:(rwF last λ_=>s).length=q:=by rw[KJ,hq]
 have hc:=Hb (z:=z) (n:=0) (v:=v) (done:=done) (last:=last++[[]]) (sf:=λ_=>s) (k:=q+3) hz (by simp;omega);rw[zd3 hq] at hc ⊢;have hl3:((⟨6,1,true,[z]⟩:Grp)::⟨1,v,false,done.map AQ++(rwT 0 q++[.ref (q+2) 1 0 1])⟩::(rwF last (λ_=>s)++[(⟨1,1,true,[AA s]⟩:Grp)])).length=q+3:=by simp[hF]
 refine (B3 (l0:=⟨6,1,true,[z]⟩::⟨1,v,false,done.map AQ++(rwT 0 q++[.ref (q+2) 1 0 1])⟩::(rwF last (λ_=>s)++[(⟨1,1,true,[AA s]⟩:Grp)])) (gar:=[lit]) L oc (by rw[hl3];omega) (λX hX=>?_) (by rw[hl3];exact hL)).trans (GY ?_ λ_ _=>Bn _ _)
 ·rw[hl3]
  simp only[Af,Av,An,A7] at hX;rcases hX with rfl|rfl|hX|rfl
  ·exact hc _ oc
  ·exact hc _ oc
  ·exact hc _ (by simp[hX])
  ·exact⟨AL _ _ (by simp[AA,AV.pure,Cs]),oy⟩
 ·exact⟨⟨rfl,rfl,id,AN _ _⟩,⟨rfl,rfl,id,AN _ _⟩,NQ _ (X:=⟨1,1,true,[AA s]⟩) (Y:=⟨1,1,false,rwV s []⟩) ⟨rfl,rfl,λ_=>rfl,AN _ _⟩ _⟩
theorem zv6{L:List (Nat × AV)}{env:Env}{lit lit2:Grp}(hz:z.pure=true)(hq:last.length=q)(hL:IF 2 env L)(hL3:IF (q+3) env L):
 Ent m 1 env (Abs.hl (⟨6,1,true,[z]⟩::⟨1,v,false,done.map AQ++(rwT n q++[.ref (q+3) 1 0 (n+1)])⟩::(rwF last (λ_=>s)++[lit,⟨1,1,false,rwV s r⟩,lit2]))) (BO L) (Abs.hl (frH z n v done (last++[r]) λ_=>s)):=by
 have hF:(rwF last λ_=>s).length=q:=by rw[KJ,hq]
 have hc:=Hb (z:=z) (n:=n) (v:=v) (done:=done) (last:=last++[r]) (sf:=λ_=>s) (k:=q+3) hz (by simp;omega);have hlen:(frH z n v done (last++[r]) λ_=>s).length=q+3:=by rw[GU];simp;omega
 have hσ:∀g,g<q+2->(λg=>if g=q+2 then q+3 else g) g=g:=λg hg=>Ad om;have hv:∀j,ltV 2 (BO L j):=J8 (env:=env) hL;refine (Ea L (Dq hL)).trans (zq2 (λg=>if g=q+2 then q+3 else g) (by rw[hlen];omega) (λg hg=>hσ g om) (λg hg=>?_) (λg g' hg hg' e=>?_) λi _=>⟨(zd2 (k:=2) (λg hg=>hσ g om) _ (hv i)).symm,?_⟩)
 ·rw[hlen] at hg ⊢
  rw[zd3 hq] at hc ⊢;have hpz:ltL (q+2) [z]:=⟨AL _ _ hz,oy⟩;have hpd:ltL (q+2) (done.map AQ++rwT n q):=Zp (BU _ _ (GG done)) (zl2 (Ab _))
  match g with
  |0=>exact⟨oc,by simp[renG,Ll hσ _ hpz],hc _ oc⟩
  |1 =>
   refine⟨oc,?_,hc _ oc⟩;simp only[Ad (show ¬1=q+2 by omega),BK,List.getD_cons_zero,renG];rw[<-A3,<-A3,z2q,Ll hσ _ hpd];simp[renL,ren]
  |g+2 =>
   by_cases e:g=q
   ·subst e
    simp only[Br,BK,List.length_cons,Ai,hF,List.length_nil];have h1:=UJ (rwF last λ_=>s) [lit,⟨1,1,false,rwV s r⟩,lit2] 1;have h2:=Zq (rwF last λ_=>s) [(⟨1,1,false,rwV s r⟩:Grp)];rw[hF] at h1 h2;refine⟨om,?_,?_⟩
    ·rw[h1,h2]
     show _=renG _ (⟨1,1,false,rwV s r⟩:Grp);rw[renG,I6 _ _ (NO s r)];rfl
    ·rw[h2];exact BU _ _ (NO s r)
   ·have hgq:g<(rwF last λ_=>s).length:=by rw[hF];omega
    rw[Ad om];simp only[BK,List.length_cons,Ai,hF,List.length_nil];have e1:∀R:List Grp,(rwF last (λ_=>s)++R).getD g default=(rwF last λ_=>s).getD g default:=λR=>SO rfl hgq;rw[e1,e1,zd1 om];refine⟨om,?_,BU _ _ (NO _ _)⟩;rw[renG,I6 _ _ (NO _ _)]
 ·have e:(if g=q+2 then q+3 else g)=if g'=q+2 then q+3 else g':=e
  rw[hlen] at hg hg';split at e<;>split at e<;>omega
 ·rw[hlen]
  exact J8 (env:=env) hL3 i
end
theorem zqb{L:List (Nat × AV)}{m:Nat}(h:IF m (BO L) L):∀j,ltV m (BO L j):=J8 h
def tlC:Nat->AC->AC
 |0,c=>c
 |n+1,.seq _ y=>tlC n y
 |_,c=>c
set_option maxHeartbeats 8000000 in
theorem zd4(h:Xq W G A P M pl){k:Nat}(hkl:k<A.length)(ih:z2n W G A P M pl (k+1))(sum:Int)(st:Nat)(hst:st<=65535)(hs0:0<=sum)(hs1:sum+Fs (pl.drop k)<=1000000000)(cs:List Cho)(hcs:zul (nth pl k).1 (nth pl k).2 cs)(hcl4:cs.length<=4096):
 T Tryz.prog 209 1 (tlC 9 Jw) (BO [(0,.ptr 0 1 0 0),(1,.int .i64 k),(2,.int .i64 sum),(10,QU cs)]) (Abs.hl (fndL W G A P M ((st:Int)+1))) (Ret Tryz.prog [.slot 6,.slot 7] λy H'=>∃y' H'',Ent 1 1 (λ_=>y) H' (λ_=>y') H'' /\
  y'=Kj (tieL (He W (pl.drop (k+1))) sum cs ⟨[],[],[]⟩ (st+1)).1/\H''=Abs.hl (fndL W G A P M (tieL (He W (pl.drop (k+1))) sum cs ⟨[],[],[]⟩ (st+1)).2)):=by
 have pF:=λs=>IX W G A P M s;have pcs:=HN cs;have hal:=h.al;have hdk:pl.drop k=nth pl k::pl.drop (k+1):=drop_at (by rw[h.ll];exact hkl);have hmem:nth pl k∈pl:=Bi (by rw[h.ll];exact hkl);refine DK (W_T ?_);refine ywA ?_;refine DK (W_T ?_);refine ywA ?_;refine DK (W_T ?_);refine ywA ?_;refine DK (W_T ?_);(with_reducible repeat'(first|simp(disch:=omega)only[push_cast,↓zz,seval,pcs]|refine sp_ ?_ ?_<;>try(intro hc;push_cast at hc)|omega|intro _));obtain⟨n,hn⟩:∃n,n=(pl.drop (k+1)).length:=⟨_,rfl⟩;have hpl:PlOk (pl.drop (k+1)):=λp hp=>h.ok p (Bc hp);have hme:Fs (pl.drop k)=GF (nth pl k)+Fs (pl.drop (k+1)):=by rw[hdk];simp[Fs]
 have hm1:=MW hpl;have hrb:=λv q rest q'=>Xp (want:=W) (pl.drop (k+1)) v q rest q'
 refine Ba (D6 (σ:=Nat × Tie × Nat × Nat) (λq=>q.1<=cs.length/\tieL (He W (pl.drop (k+1))) sum cs ⟨[],[],[]⟩ (st+1)=tieL (He W (pl.drop (k+1))) sum (cs.drop q.1) q.2.1 q.2.2.1/\q.2.2.1<=65536/\q.2.1.all.length<=4096+4097 * (n+1)/\zhy n q.2.1) (λq=>cs.length-q.1)
  (λq=>BO [(0,.ptr 0 1 0 0),(1,.int .i64 k),(2,.int .i64 sum),(12,.ref 1 q.2.2.2 0 (q.2.1.done.length+q.2.1.last.length)),(13,IH q.2.1.last),(14,.int .i64 q.2.1.done.length),(136,QU cs),(137,.int .i64 cs.length),(138,.int .i64 q.1)])
  (λq=>Abs.hl (frH (fndV W G A P M q.2.2.1) n q.2.2.2 q.2.1.done q.2.1.last λ_=>q.2.1.set)) (0,⟨[],[],[]⟩,st+1,1) ⟨oc,rfl,by simp only;omega,by simp[Tie.all],⟨λr hr=>(by cases hr),λr hr=>(by cases hr),λh=>absurd rfl h⟩⟩ ?_ ?_)
 ·refine (Ea [(0,.ptr 0 1 0 0),(1,.int .i64 k),(2,.int .i64 sum),(12,.nilS),(13,.nilS),(14,.int .i64 0),(136,QU cs),(137,.int .i64 cs.length),(138,.int .i64 0)] (Dq (m:=2) ?_)).trans ((Hk [1] oc).trans (GY ?_ λi _=>?_))
  ·exact⟨rfl,(show 0<2 by omega),rfl,oy,rfl,oy,rfl,oy,rfl,oy,rfl,oy,rfl,oy,rfl,oy,rfl,oy,oy⟩
  ·exact⟨⟨rfl,rfl,id,AN _ _⟩,⟨rfl,rfl,λh=>(by cases h),AN _ _⟩,oy⟩
  ·simp only[BO]
   repeat' split
   all_goals first|exact Bn _ _|exact⟨rfl,rfl,rfl,(show (0:Nat)<1 by omega),rfl,rfl,by simp[fndL]⟩|exact⟨ox,rfl⟩
 rintro⟨i,t,st',v⟩ ⟨hi,htie,hst',htl,htk⟩;simp only at hi htie hst' htl htk ⊢;rw[htie];generalize hRv:tieL (He W (pl.drop (k+1))) sum (cs.drop i) t st'=RV at *;rcases Aj i cs.length with hil|hil
 ·obtain⟨c,hci⟩:∃c,c=nth cs i:=⟨_,rfl⟩
  have hcm:c∈cs:=by rw[hci];exact Bi hil
  have hdr:cs.drop i=c::cs.drop (i+1):=by rw[hci];exact drop_at hil
  rw[hdr,tieL] at hRv
  have hc1:0<=c.1/\c.1<=GF (nth pl k):=by
   obtain⟨y,hy⟩:=z6r (hcs.set c hcm).1;obtain⟨y1,y2⟩:=((hcs.set c hcm).2 y).1 hy;rw[<-y2];exact Pf (h.ok _ hmem).1.1 y1 (h.ok _ hmem).2.2
  have hIH:=ih (sum+c.1) st' hst' om om;have hcnt:=z2l (want:=W) (pl.drop (k+1)) (sum+c.1) st' hst';have hfok:=λrest k'=>YK (want:=W) (pl.drop (k+1)) hpl (sum+c.1) st' rest k' om om;have hrb1:=hrb (sum+c.1) st';have hcset:=(hcs.set c hcm).1;generalize hfr:He W (pl.drop (k+1)) (sum+c.1) st'=fr at *;have pl1:=GG t.last;have hFl:(rwF t.last λ_=>t.set).length=t.last.length:=KJ;have hcl:=Hb (z:=fndV W G A P M st') (n:=n) (v:=v) (done:=t.done) (last:=t.last) (sf:=λ_=>t.set) (k:=t.last.length+2) (pF _) (Ab _);refine DR z2m (W_T ?_);generalize hF:(rwF t.last λ_=>t.set)=F at *;(with_reducible repeat'(first|simp(disch:=omega)only[push_cast,↓zz,seval,pcs,<-hci,Rb,Zn]|refine sp_ ?_ ?_<;>try(intro hc;push_cast at hc)|omega|intro _));refine z1u (l0:=fndL W G A P M st') (extra:=⟨1,v,false,_⟩::(F++[_])) rfl hIH ⟨(show 0<1 by omega),oy,oy,oy⟩ (λg hg=>?_) ?_
  ·obtain rfl:g=_:=by simpa using hg
   exact⟨AL _ _ (pF _),oy⟩
  rintro y H' ⟨rfl,rfl⟩;refine⟨_,rfl,rfl,AL _ _ (JE _),λg hg=>?_,?_⟩
  ·obtain rfl:g=_:=by simpa using hg
   exact⟨AL _ _ (pF _),oy⟩
  obtain⟨o,kf⟩:=fr;have hal2:=NN t;cases o with
  |none =>
   have hRv:(none,kf)=RV:=hRv;subst hRv;(with_reducible repeat'(first|simp(disch:=omega)only[push_cast,↓zz,seval,Kj]|refine sp_ ?_ ?_<;>try(intro hc;push_cast at hc)|omega|intro _))
   all_goals exact⟨Kj none,_,UH ⟨AL _ _ (pF _),oy⟩ rfl (Bn _ _),rfl,rfl⟩
  |some rest =>
   have hkf:kf<=65536:=hcnt.2 rfl;have hrl:=hrb1 rest kf rfl;have hrk:=(hfok rest kf rfl).1;have pr:=GG rest;have hnl:n<=4:=by rw[hn,List.length_drop,h.ll];omega
   have hAl:=zco rest t.last (by rw[<-hn] at hrl;omega) λr hr=>by
    obtain⟨r1,r2⟩:=hrk r hr;exact⟨om,λs hs=>by have:=(r2 s hs).1.len;omega⟩
   have hrw:Kj (some rest)=.tup [IH rest,.bool true]:=rfl;rw[hrw];dsimp only at hRv;by_cases h4:4096<t.all.length
   ·rw[Ae h4] at hRv
    subst hRv;(with_reducible repeat'(first|simp(disch:=omega)only[push_cast,↓zz,seval,pr,pl1]|refine sp_ ?_ ?_<;>try(intro hc;push_cast at hc)|refine ee hAl ?_|(refine cc hAl ?_;simp(disch:=omega)only[push_cast,↓zz,seval,pr,pl1];fail_if_success change False)|omega|intro _));exact⟨Kj none,_,UH ⟨AL _ _ (pF _),oy⟩ rfl (Bn _ _),rfl,rfl⟩
   rw[Ad h4] at hRv;by_cases hlike:0<rest.length/\rest=t.last
   ·rw[Ae hlike] at hRv
    rw[Bv hlike.2] at hAl;obtain⟨hl1,rfl⟩:=hlike;have hset:=htk.set (Cz.1 hl1);have hU:=z6e t.set c.2 (by have:=hset.1.len;have:=hcset.1.len;omega);have f_:=Aa pr pl1;have e_:=hAl;refine ywD ?_;clear f_ e_;have hb1:∀q,ltV (t.last.length+3) (.ref 1 v 0 q):=λq=>(show 1<t.last.length+3 by omega)
    refine Ba (D6 (λ(q:Nat)=>q<=t.last.length) (λq=>t.last.length-q)
     (λq=>BO [(0,.ptr 0 1 0 0),(1,.int .i64 k),(2,.int .i64 sum),(12,.ref 1 v 0 (t.done.length+t.last.length)),(13,IH t.last),(14,.int .i64 t.done.length),(16,.ptr (t.last.length+2) 1 0 0),(19,.int .i64 ((t.done.length:Int)+q)),(136,QU cs),(137,.int .i64 cs.length),(138,.int .i64 i)])
     (λq=>Abs.hl (frH (fndV W G A P M kf) n v t.done t.last (λj=>if j<q then AR (t.set++c.2) else t.set)++[⟨2,1,true,[choV c]⟩])) 0 (Ap _) ?_ ?_)
    ·refine B3 (gar:=[]) _ ?_ (by rw[NP];omega) (by rw[NP];exact Td (pF _) om) ?_
     ·rw[Ax]
      show _=_::_::(rwF t.last (λj=>if j<0 then _ else t.set)++[_]);rw[Rc (sf':=λ_=>t.set) λi _=>Ad (AZ i),hF]
     ·rw[NP]
      exact⟨rfl,(show 0<_ by omega),rfl,oy,rfl,oy,rfl,hb1 _,rfl,oy,rfl,oy,by rw[<-hFl];rfl,(show t.last.length+2<_ by omega),Bt (AV.int .i64) (Int.add_zero _).symm,oy,rfl,oy,rfl,oy,rfl,oy,oy⟩
    intro q hq;have hFq:(rwF t.last λj=>if j<q then AR (t.set++c.2) else t.set).length=t.last.length:=KJ;have hol:(t.done.map AQ++rwT n t.last.length).length=t.done.length+t.last.length:=z2o;rcases Aj q t.last.length with hql|hql
    ·have gI:(rwF t.last λj=>if j<q then AR (t.set++c.2) else t.set).getD q default=⟨1,1,false,rwV t.set (nth t.last q)⟩:=by
      rw[zd1 hql,Ad (Cl q)]
     have gO:(t.done.map AQ++rwT n t.last.length).getD (t.done.length+q) .any=.ref (q+2) 1 0 (n+1):=zq8 hql
     have eS:(rwF t.last λj=>if j<q then AR (t.set++c.2) else t.set).set q ⟨1,1,false,rwV (AR (t.set++c.2)) (nth t.last q)⟩=rwF t.last λj=>if j<q+1 then AR (t.set++c.2) else t.set:=by
      rw[zq5 hql];refine Rc λj _=>?_;by_cases hjq:j=q
      ·rw[Ae hjq,Ae om]
      ·rw[Ad hjq]
       by_cases hj2:j<q
       ·rw[Ae hj2,Ae om]
       ·rw[Ad hj2,Ad om]
     refine DR zl3 (W_T ?_);generalize (rwF t.last λj=>if j<q then AR (t.set++c.2) else t.set)=F2 at *;have gI2:∀X,(F2++[X]).getD q default=⟨1,1,false,rwV t.set (nth t.last q)⟩:=λX=>by rw[SO hFq hql,gI]
     have gB:∀X:Grp,(F2++[X]).getD t.last.length default=X:=λX=>by rw[<-hFq];exact Rb _ _
     have sI2:∀X Y,setQ (F2++[X]) q Y=some (F2.set q Y++[X]):=λX Y=>NL om;have f_:=Aa hol (Aa gO (Aa gI2 (Aa gB sI2)));have e_:=hU;refine ywD ?_;clear f_ e_
     all_goals
      refine⟨q+1,B3 (gar:=[]) _ (by rw[Ax];show _=_::_::(rwF t.last _++[_]);rw[<-eS]) (by rw[NP];omega) (by rw[NP];exact Td (pF _) om) ?_,om,om⟩;rw[NP];exact⟨rfl,(show 0<_ by omega),rfl,oy,rfl,oy,rfl,hb1 _,rfl,oy,rfl,oy,rfl,(show t.last.length+2<_ by omega),rfl,oy,rfl,oy,rfl,oy,rfl,oy,oy⟩
    ·obtain rfl:q=t.last.length:=om
     refine DR zl3 (W_T ?_);have f_:=hol;refine ywB ?_;clear f_
     all_goals
      obtain⟨na1,na2⟩:=z1l hset.1 hcset;refine⟨(i+1,⟨t.done,AR (t.set++c.2),t.last⟩,kf,v),B3 (gar:=[⟨2,1,true,[choV c]⟩]) _ ?_ (by rw[GU];omega) (by rw[GU];exact Hb (pF _) (by simp only;omega)) ?_,⟨by simp only;omega,hRv.symm,hkf,by rw[NN] at htl ⊢;exact htl,⟨htk.done,htk.last,λ_=>na1⟩⟩,by simp only;omega⟩
      ·rw[Rc (sf':=λ_=>AR (t.set++c.2)) λi hi=>Ae hi]
       rfl
      ·rw[GU]
       exact⟨rfl,(show 0<_ by omega),rfl,oy,rfl,oy,rfl,(show 1<_ by omega),rfl,oy,rfl,oy,rfl,oy,rfl,oy,rfl,oy,oy⟩
   ·rw[Ad hlike] at hRv
    have hnl2:∀r∈t.last,r.length=n:=λr hr=>(htk.last r hr).1;have hd:decide (0<(rest.length:Int))=true->decide (rest=t.last)=false:=λh1=>By λh2=>hlike ⟨by simpa using h1,h2⟩;have hdone:t.done++t.last.map (t.set::·)=t.all:=rfl
    have hrun:∀{env:Env},(∀p∈[(16,AV.ptr (t.last.length+2) 1 0 0),(0,.ptr 0 1 0 0),(1,.int .i64 k),(2,.int .i64 sum),(12,.ref 1 v 0 (t.done.length+t.last.length)),(13,IH rest),(14,.int .i64 ((t.done.length:Int)+t.last.length)),(136,QU cs),(137,.int .i64 cs.length),(138,.int .i64 i),(192,IH rest),(193,.int .i64 rest.length),(194,.int .i64 0)],env p.1=p.2) ->
     Ent 209 1 env (Abs.hl (frH (fndV W G A P M kf) n v t.done t.last (λ_=>t.set)++[(⟨2,1,true,[choV c]⟩:Grp)])) (BO [(0,.ptr 0 1 0 0),(1,.int .i64 k),(2,.int .i64 sum),(12,.ref 1 v 0 (t.all.length+0)),(13,IH rest),(14,.int .i64 t.all.length),(16,.cptr (choV c)),(136,QU cs),(137,.int .i64 cs.length),(138,.int .i64 i),(192,IH rest),(193,.int .i64 rest.length),(194,.int .i64 ((0:Nat):Int))])
      (Abs.hl (frH (fndV W G A P M kf) n v t.all (rest.take 0) λ_=>c.2)):=λhv=>by
     refine (Ea _ hv).trans ((zq9 W G A P M kf hnl2 rfl λq hq j _ hne=>?_).trans ?_)
     ·show ltV q (if j=16 then _ else _)
      rw[Ad hne];refine zqb (m:=q) ?_ j;exact⟨rfl,(show 0<q by omega),rfl,oy,rfl,oy,rfl,(show 1<q by omega),rfl,oy,rfl,oy,rfl,oy,rfl,oy,rfl,oy,rfl,oy,rfl,oy,rfl,oy,oy⟩
     ·rw[hdone,hal2]
      exact Ea _ (Dq (m:=2) ⟨rfl,(show 0<2 by omega),rfl,oy,rfl,oy,rfl,(show 1<2 by omega),rfl,oy,rfl,oy,rfl,oy,rfl,oy,rfl,oy,rfl,oy,rfl,oy,rfl,oy,rfl,oy,oy⟩)
    (with_reducible repeat'(first|simp(disch:=omega)only[push_cast,↓zz,seval,pr,pl1]|refine sp_ ?_ ?_<;>try(intro hc;push_cast at hc)|refine ee hAl ?_|(refine cc hAl ?_;simp(disch:=omega)only[push_cast,↓zz,seval,pr,pl1];fail_if_success change False)|omega|intro _))
    all_goals first|exact absurd (Aa om ‹rest=t.last›) hlike|skip
    all_goals
     refine Ba (D6 (σ:=Nat × Nat) (λq=>q.1<=rest.length) (λq=>rest.length-q.1)
      (λq=>BO [(0,.ptr 0 1 0 0),(1,.int .i64 k),(2,.int .i64 sum),(12,.ref 1 q.2 0 (t.all.length+q.1)),(13,IH rest),(14,.int .i64 t.all.length),(16,.cptr (choV c)),(136,QU cs),(137,.int .i64 cs.length),(138,.int .i64 i),(192,IH rest),(193,.int .i64 rest.length),(194,.int .i64 q.1)])
      (λq=>Abs.hl (frH (fndV W G A P M kf) n q.2 t.all (rest.take q.1) λ_=>c.2)) (0,v) (Ap _) ?_ ?_)
     ·subst hF
      exact hrun (Dq (m:=t.last.length+3) ⟨Bt (λm=>AV.ptr (m+2) 1 0 0) hFl,(show t.last.length+2<_ by omega),rfl,(show 0<_ by omega),rfl,oy,rfl,oy,rfl,(show 1<_ by omega),rfl,oy,rfl,oy,rfl,oy,rfl,oy,rfl,oy,rfl,oy,rfl,oy,rfl,oy,oy⟩)
     rintro⟨q,w⟩ hq;simp only at hq ⊢;have hlt2:(rest.take q).length=q:=by rw[Bb];omega
     have hFq:(rwF (rest.take q) λ_=>c.2).length=q:=by rw[KJ,hlt2]
     have hol:(t.all.map AQ++rwT n (rest.take q).length).length=t.all.length+q:=by rw[z2o,hlt2]
     rcases Aj q rest.length with hql|hql
     ·obtain⟨r,hr⟩:∃r,r=nth rest q:=⟨_,rfl⟩
      have hrn:r.length=n:=by rw[hn];exact (hrk r (by rw[hr];exact Bi hql)).1
      have hrt:rest.take (q+1)=rest.take q++[r]:=by rw[hr];exact take_at hql
      refine DR z2m (W_T ?_);generalize hF2:(rwF (rest.take q) λ_=>c.2)=F2 at *;rcases Nat.eq_zero_or_pos n with hn0|hn0
      ·obtain rfl:r=[]:=List.length_eq_zero_iff.1 om
       (with_reducible repeat'(first|simp(disch:=omega)only[push_cast,↓zz,seval,hol,pr,<-hr,Zq,z2p,UJ,UK]|refine sp_ ?_ ?_<;>try(intro hc;push_cast at hc)|omega|intro _))
       all_goals
        refine⟨(q+1,w+1),?_,by simp only;omega,by simp only;omega⟩;simp only;rw[hrt,hFq,hlt2,<-hF2,hn0];refine zqa (pF _) hlt2 ?_;exact⟨rfl,(show 0<_ by omega),rfl,oy,rfl,oy,rfl,(show 1<_ by omega),rfl,oy,rfl,oy,rfl,oy,rfl,oy,rfl,oy,rfl,oy,rfl,oy,rfl,oy,rfl,oy,oy⟩
      ·(with_reducible repeat'(first|simp(disch:=omega)only[push_cast,↓zz,seval,hol,pr,<-hr,Zq,z2p,UJ,UK,hrn]|refine sp_ ?_ ?_<;>try(intro hc;push_cast at hc)|omega|intro _))
       all_goals
        refine⟨(q+1,w+1),?_,by simp only;omega,by simp only;omega⟩;simp only;rw[hrt,hFq,hlt2,<-hF2,BX 1 n];refine zv6 (pF _) hlt2 ?_ ?_
        all_goals exact⟨rfl,(show 0<_ by omega),rfl,oy,rfl,oy,rfl,(show 1<_ by omega),rfl,oy,rfl,oy,rfl,oy,rfl,oy,rfl,oy,rfl,oy,rfl,oy,rfl,oy,rfl,oy,oy⟩
     ·obtain rfl:q=rest.length:=om
      rw[As];refine DR z2m (W_T ?_);rw[As] at hol;have f_:=hol;refine ywB ?_;clear f_
      all_goals
       refine⟨(i+1,⟨t.all,c.2,rest⟩,kf,w),B3 (gar:=[]) _ (by rw[Ax];rfl) (by rw[GU];omega) (by rw[GU];exact Hb (pF _) (by simp only;omega)) ?_,⟨by simp only;omega,hRv.symm,hkf,by rw[NN];simp only;rw[<-hn] at hrl;omega,⟨htk.all,λr hr=>by rw[hn];exact hrk r hr,λ_=>hcset⟩⟩,by simp only;omega⟩;rw[GU];exact⟨rfl,(show 0<_ by omega),rfl,oy,rfl,oy,rfl,(show 1<_ by omega),rfl,oy,rfl,oy,rfl,oy,rfl,oy,rfl,oy,oy⟩
 ·obtain rfl:i=cs.length:=om
  rw[Ao (Ab _),tieL] at hRv;subst hRv;have hnl2:∀r∈t.last,r.length=n:=λr hr=>(htk.last r hr).1;have pal:=GG t.all;have hal2:=NN t;refine DR z2m (W_T ?_);refine ywA ?_;refine W_T ?_;refine ywA ?_
  all_goals
   refine⟨Kj (some t.all),_,(Tc W G A P M st' n v t.done t.last t.set hnl2).trans ((I9 (l:=fndL W G A P M st'++[⟨1,v,false,t.all.map AQ⟩]) oc (λX hX=>?_) λ_ _=>?_).trans (IW (l0:=fndL W G A P M st') 3 [1] ?_ rfl ?_ ?_ (JE _))),rfl,rfl⟩
   ·simp only[fndL,List.cons_append,List.nil_append,Af,An,A7] at hX
    rcases hX with rfl|rfl
    ·exact⟨AL _ _ (pF _),oy⟩
    ·exact BU _ _ pal
   ·exact⟨(show 1<2 by omega),oy,oy⟩
   ·rw[<-hal2]
    (simp(disch:=omega)only[push_cast,↓zz,seval,pal])
   ·intro g hg
    obtain rfl:g=_:=by simpa using hg
    exact⟨AL _ _ (pF _),oy⟩
   ·rw[<-hal2]
    (simp(disch:=omega)only[push_cast,↓zz,seval,pal,Kj])
end
section
variable {W:List Span}{G:List (List Span)}{A:List Int}{P:List (List Part)}{M:List Int}{pl:List Pl}
theorem zqc{s:List Span}{ps:List Part}{cs:List Cho}(hs:Syms s)(hb:∀q∈ps,EJ q=true)(h:choL s ps=some cs):cs.length<=4096:=by
 unfold choL at h;split at h
 ·rename_i hl
  split at h
  ·cases h
  rename_i hc;obtain rfl:=A5 h;have hq:EJ (nth ps 0)=true:=hb _ (Bi om);obtain⟨i1,i2⟩:=GI s hq
  have hbd:∀t∈imgL (nth ps 0) s,((0:Nat):Int)<=t.lo/\t.hi<=((66060288:Nat):Int):=λt ht=>by
   have hle:=i1.1 t ht;obtain⟨x,_,hx,e⟩:=(i2 t.lo).1 ⟨t,ht,AE _,hle⟩;obtain⟨y,_,hy,e'⟩:=(i2 t.hi).1 ⟨t,ht,hle,AE _⟩;have:=CZ hq hx;have:=CZ hq hy;omega
  obtain⟨c1,_,_⟩:=Re i1 hbd om;have hn:=Gt i1 (SG hq);rw[hn] at hc ⊢;rw[Au];omega
 ·split at h
  ·cases h
  rename_i hc;obtain rfl:=A5 h;rw[Au];omega
theorem zd5(h:Xq W G A P M pl){k:Nat}(hk:k<=A.length)(ih:k<A.length->z2n W G A P M pl (k+1)):z2n W G A P M pl k:=by
 intro sum st hst hs0 hs1;have pF:=λs=>IX W G A P M s;have pA:=C4 .i64 A;have pM:=C4 .i64 M;have pP:AJ (P.map Cu)=true:=CO (λl=>by simp[Cu,AV.pure,Cx]) P;have hmo:=h.most k hk;have hwl:=h.wl;have hmn:=h.mn;have hal:=h.al;have hpN:=h.pn;have hml:0<=Fs (pl.drop k):=MW λp hp=>h.ok p (Bc hp)
 have hR:=Ze W G A P M ((st:Int)+1) k hk om (λa ha=>by
  obtain⟨i,hi,rfl⟩:=Bw ha;have:=h.at_ i hi
  simpa [nth,hi] using this) (by have:=h.gl;omega)
 rw[zq7 h] at hR;rw[zq6];have hpn:pl.drop k=[]↔k=A.length:=by rw[List.drop_eq_nil_iff,h.ll];omega
 have hdk:k<A.length->pl.drop k=nth pl k::pl.drop (k+1):=λhk=>drop_at (by rw[h.ll];exact hk);have pRo:=B0 ((pl.drop k).map (·.1))
 have hst1:((st+1:Nat):Int)=(st:Int)+1:=rfl;generalize hdl:pl.drop k=dl at *;generalize hmm:Fs dl=mo at *;have hMe:=z6d [⟨sum,sum+mo⟩] W oc om;have hWi:=Mc [⟨sum,sum+mo⟩] W oc om;refine EU (IK N0 (DK (W_T ?_)));refine ywA ?_;refine DK (W_T ?_);(with_reducible repeat'(first|simp(disch:=omega)only[push_cast,↓zz,seval,pF]|refine sp_ ?_ ?_<;>try(intro hc;push_cast at hc)|omega|intro _))
 ·rw[Ae om]
  exact⟨_,_,Ent.refl,rfl,rfl⟩
 rw[Ad om];refine DK (W_T ?_);have f_:=Aa pF (Aa pM hmo);refine ywB ?_;clear f_;refine DK (W_T ?_);(with_reducible repeat'(first|simp(disch:=omega)only[push_cast,↓zz,seval,pF]|refine sp_ ?_ ?_<;>try(intro hc;push_cast at hc)|refine ee hMe ?_|(refine cc hMe ?_;simp(disch:=omega)only[push_cast,↓zz,seval,pF];fail_if_success change False)|omega|intro _))
 ·rw[Ae ‹_›]
  exact⟨Kj (some []),_,UH ⟨AL _ _ (pF _),oy⟩ rfl ⟨⟨ox,rfl⟩,rfl,rfl⟩,rfl,rfl⟩
 rw[Ad ‹_›];refine DK (W_T ?_);(with_reducible repeat'(first|simp(disch:=omega)only[push_cast,↓zz,seval,pF,pA]|refine sp_ ?_ ?_<;>try(intro hc;push_cast at hc)|refine ee hWi ?_|(refine cc hWi ?_;simp(disch:=omega)only[push_cast,↓zz,seval,pF,pA];fail_if_success change False)|omega|intro _))
 rotate_left 2
 iterate 2
  ·(refine at_c [0] (hR) ox oc (by refine⟨?_,?_,?_,?_⟩<;>(simp(disch:=omega)only[push_cast,↓zz,seval,Af,An,A7,B6,Cr,BG,pF,pP])) ?_)
   rintro y H' ⟨rfl,rfl⟩;refine⟨_,rfl,oc,?_⟩;rw[Ae (by first|exact .inl ‹_›|exact .inr (hpn.2 om))];(with_reducible repeat'(first|simp(disch:=omega)only[push_cast,↓zz,seval,pF,pP]|refine sp_ ?_ ?_<;>try(intro hc;push_cast at hc)|omega|intro _));refine⟨_,_,IW (l0:=fndL W G A P M ((st:Int)+1)) 4 [2] (z:=Kj (some [dl.map (·.1)])) ?_ rfl ?_ ?_ (JE _),rfl,rfl⟩
   ·(simp(disch:=omega)only[push_cast,↓zz,seval,pRo])
   ·intro g hg
    obtain rfl:g=_:=by simpa using hg
    exact⟨AL _ _ (pF _),oy⟩
   ·(simp(disch:=omega)only[push_cast,↓zz,seval,pRo,Kj])
    rfl
 have hkl:k<A.length:=om
 rw[Ad (by rintro (h|h);exact absurd h ‹_›;have:=hpn.1 h;omega)];have hat:=h.at_ k hkl;have hset:=h.sets k hkl;have hmem:nth pl k∈pl:=Bi (by rw[h.ll];exact hkl);have hGl:=h.gl;refine DK (W_T ?_);have f_:=Aa pF pA;refine ywB ?_;clear f_
 have hfs:k=A.length-1->(nth P k).length=1->z6q W dl sum st=(some (if preL (nth (nth P k) 0) (nth G (nth A k).toNat) (Gs W (-sum))=[] then [] else [[preL (nth (nth P k) 0) (nth G (nth A k).toNat) (Gs W (-sum))]]),st+1):=λh1 h2=>by
  have h3:pl.drop (k+1)=[]:=Ao (by rw[h.ll];omega);rw[hdk hkl,h3,hset,z6q,Ae ⟨rfl,h2⟩]
 by_cases hone:k=A.length-1/\(nth P k).length=1
 ·obtain⟨hone1,hone2⟩:=hone
  refine DK (W_T ?_);have hMv:=MP W (-sum) om;have hPr:=Uj (nth (nth P k) 0) (nth G (nth A k).toNat) (Gs W (-sum)) (by have:=h.sl _ hmem;rw[hset] at this;exact this) (by have:=Pa W (-sum);omega);have ps:=Cs (nth G (nth A k).toNat);have hns:(0:Int)-sum=-sum:=om
  (with_reducible repeat'(first|simp(disch:=omega)only[push_cast,↓zz,seval,pF,pA,pP,hns]|refine sp_ ?_ ?_<;>try(intro hc;push_cast at hc)|refine ee hMv ?_|refine ee hPr ?_|((first|refine cc hMv ?_|refine cc hPr ?_);simp(disch:=omega)only[push_cast,↓zz,seval,pF,pA,pP,hns];fail_if_success change False)|omega|intro _))
  ·rw[hfs om om,Ad (by intro h;rw[h] at hc;simp at hc)]
   have pq:=Cs (preL (nth (nth P k) 0) (nth G (nth A k).toNat) (Gs W (-sum)));refine⟨_,_,IW (l0:=fndL W G A P M ((st:Int)+1)) 5 [2,3] (z:=Kj (some [[preL (nth (nth P k) 0) (nth G (nth A k).toNat) (Gs W (-sum))]])) ?_ rfl ?_ ?_ (JE _),rfl,rfl⟩
   ·(simp(disch:=omega)only[push_cast,↓zz,seval,pq])
   ·intro g hg
    obtain rfl:g=_:=by simpa using hg
    exact⟨AL _ _ (pF _),oy⟩
   ·(simp(disch:=omega)only[push_cast,↓zz,seval,pq,Kj])
    rfl
  ·rw[hfs om om,Ae (List.length_eq_zero_iff.1 om)]
   exact⟨Kj (some []),_,UH ⟨AL _ _ (pF _),oy⟩ rfl ⟨⟨ox,rfl⟩,rfl,rfl⟩,rfl,rfl⟩
 refine KN [(0,.ptr 0 1 0 0),(1,.int .i64 k),(2,.int .i64 sum)] (Abs.hl (fndL W G A P M ((st:Int)+1))) (W_T ?_) ?_
 ·(with_reducible repeat'(first|simp(disch:=omega)only[push_cast,↓zz,seval,pF,pA,pP]|refine sp_ ?_ ?_<;>try(intro hc;push_cast at hc)|omega|intro _))
  all_goals
   refine B3 (gar:=[_]) _ rfl (Ab _) (λg hg=>?_) ⟨rfl,(show 0<1 by omega),rfl,oy,rfl,oy,oy⟩;obtain rfl:g=_:=by simpa using hg
   exact⟨AL _ _ (pF _),oy⟩
 have hC:=R6 h hkl ((st:Int)+1)
 have hfs2:z6q W dl sum st=match choL (nth pl k).1 (nth pl k).2 with|none=>(none,st+1)|some cs=>tieL (He W (pl.drop (k+1))) sum cs ⟨[],[],[]⟩ (st+1):=by
  have hneg:¬(pl.drop (k+1)=[]/\(nth pl k).2.length=1):=by
   rintro⟨h3,h4⟩;rw[hset] at h4;refine hone ⟨?_,h4⟩;have:=List.drop_eq_nil_iff.1 h3;rw[h.ll] at this;omega
  rw[hdk hkl,z6q,Ad hneg]<;>rfl
 rw[hfs2];have hco:=λcs=>zko (s:=(nth pl k).1) (ps:=(nth pl k).2) (cs:=cs) (h.ok _ hmem).1.1 (h.ok _ hmem).2.2;have hcn:=λcs=>zqc (s:=(nth pl k).1) (ps:=(nth pl k).2) (cs:=cs) (h.ok _ hmem).1.1 (h.ok _ hmem).2.2;generalize choL (nth pl k).1 (nth pl k).2=o at *;have pCo:=QV o;refine DK (W_T ?_);refine ywA ?_
 (refine at_c [0] (hC) ox oc (by refine⟨?_,?_,?_,?_⟩<;>(simp(disch:=omega)only[push_cast,↓zz,seval,Af,An,A7,B6,Cr,BG,pF,pP])) ?_)
 rintro y H' ⟨rfl,rfl⟩;refine⟨_,rfl,oc,?_⟩;cases o with
 |none =>
  (with_reducible repeat'(first|simp(disch:=omega)only[push_cast,↓zz,seval,choR,pF,pP]|refine sp_ ?_ ?_<;>try(intro hc;push_cast at hc)|omega|intro _));refine DK (W_T ?_);refine ywA ?_;exact⟨_,_,Ent.refl,rfl,rfl⟩
 |some cs =>
  have pcs:=HN cs;have hcs:=hco cs rfl;have hcl4:=hcn cs rfl;clear hco hcn hC hfs hfs2 pCo;(with_reducible repeat'(first|simp(disch:=omega)only[push_cast,↓zz,seval,choR,pF,pP,pcs]|refine sp_ ?_ ?_<;>try(intro hc;push_cast at hc)|omega|intro _));refine KN [(0,.ptr 0 1 0 0),(1,.int .i64 k),(2,.int .i64 sum),(10,QU cs)] (Abs.hl (fndL W G A P M ((st:Int)+1))) (W_T ?_) ?_
  ·refine ywA ?_
   refine B3 (gar:=[]) _ rfl (Ab _) (λg hg=>?_) ⟨rfl,(show 0<1 by omega),rfl,oy,rfl,oy,rfl,AL _ _ (by simp[QU,AV.pure,pcs]),oy⟩;obtain rfl:g=_:=by simpa using hg
   exact⟨AL _ _ (pF _),oy⟩
  ·exact zd4 h hkl (ih hkl) sum st om hs0 (by rw[hdl,hmm];exact hs1) cs hcs hcl4
theorem Rf(h:Xq W G A P M pl):∀(d k:Nat),k+d=A.length->z2n W G A P M pl k
 |0,k,e=>zd5 h om λhk=>absurd hk om
 |d+1,k,e=>zd5 h om λ_=>Rf h d (k+1) om
end
theorem zd6(p:Part):Flat (Dp p):=λS=>⟨_,rfl,_,_,rfl,rfl,_,_,rfl,rfl,_,_,rfl,rfl,_,_,rfl,rfl,rfl⟩
def Xs(xs:List Part):List (List AV):=(List.range xs.length).map λ(k:Nat)=>[AV.int .i64 ((xs.length:Int)-1-(k:Int)),Dp (nth xs (xs.length-1-k))]
theorem Rh(xs:List Part):(Xs xs).length=xs.length:=by simp[Xs]
theorem z2r{xs:List Part}{k:Nat}(h:k<xs.length):(Xs xs)[k]? = some [AV.int .i64 ((xs.length:Int)-1-k),Dp (nth xs (xs.length-1-k))]:=by
 simp[Xs,h]
theorem zd7{xs:List Part}{k:Nat}{row:List AV}(h:(Xs xs)[k]? = some row):k<xs.length/\row=[AV.int .i64 ((xs.length:Int)-1-k),Dp (nth xs (xs.length-1-k))]:=by
 have hk:k<xs.length:=by rw[<-Rh xs];exact (Bh.1 h).1
 rw[z2r hk] at h;exact⟨hk,(A5 h).symm⟩
theorem z6s(xs:List Part):∀r∈Xs xs,∀x∈r,Flat x:=λr hr x hx=>by
 obtain⟨k,_,rfl⟩:=Al.1 hr;simp only[Af,An,A7] at hx;rcases hx with rfl|rfl
 ·exact λS=>rfl
 ·exact zd6 _
theorem zd8(xs:List Part):∀r∈Xs xs,r.length=2:=λr hr=>by
 obtain⟨k,_,rfl⟩:=Al.1 hr;rfl
theorem z6t(xs:List Part)(hl:xs.length<=1000000000000):Qn Tryz.prog 219 [.cptr (Cu xs)] (Xs xs):=by
 have pX:AJ (xs.map Dp)=true:=Cx xs;refine Yx GA λI hP hr=>?_;show TI I _ Dw _ _ _ _;unfold Dw;refine Hr (TI_v hP (by rfl) ?_);refine ywA ?_;refine (Ig (TW (λ(t:Nat) s env H=>t<=xs.length/\s=some t/\∀p∈[(0,AV.yld I.l),(1,AV.cptr (Cu xs)),(3,AV.int .i64 ((xs.length:Int)-1-t))],env p.1=p.2) (λt=>xs.length-t) 0 ?_ ?_):TI I 19 _ _ _ _ _)
 ·refine⟨Ap _,rfl,?_⟩
  simp only[Af,An,A7,B6,Cr];refine⟨rfl,rfl,?_⟩;show AV.int .i64 ((xs.length:Int)-1)=AV.int .i64 ((xs.length:Int)-1-((0:Nat):Int));simp
 rintro t s env H ⟨ht,rfl,hlv⟩;refine Y4 (live:=[(0,AV.yld I.l),(1,AV.cptr (Cu xs)),(3,AV.int .i64 ((xs.length:Int)-1-t))]) (λp hp=>⟨hlv p hp,?_⟩) ?_
 ·simp only[Af,An,A7] at hp
  rcases hp with rfl|rfl|rfl<;>first|rfl|exact pX
 refine Hr (TI_v hP (by rfl) ?_);(with_reducible repeat'(first|simp(disch:=omega)only[push_cast,↓zz,seval]|refine sp_ ?_ ?_<;>try(intro hc;push_cast at hc)|omega|intro _))
 ·have htl:t<xs.length:=om
  have hrow:=z2r htl
  have aX:(xs.map Dp).getD (xs.length-1-t) .any=Dp (nth xs (xs.length-1-t)):=by
   have:xs.length-1-t<xs.length:=om
   simp[nth,List.getD,this]
  have hcast:((xs.length:Int)-1-t).toNat=xs.length-1-t:=om
  have hnx:(xs.length:Int)-1-t-1=(xs.length:Int)-1-((t+1:Nat):Int):=by push_cast;omega
  generalize nth xs (xs.length-1-t)=z at *;refine (Hr (Ig (Hr ?_)):TI I 19 _ _ _ _ _);refine TX (pre:=[_,_,_,_,_,_]) (post:=[_]) rfl rfl ?_;rw[hP,<-Ls];have f_:=Aa aX hcast;refine ywB ?_;clear f_;refine⟨[AV.int .i64 ((xs.length:Int)-1-t),Dp z],rfl,?_,by rw[hr];exact hrow,?_,?_⟩
  ·intro x hx
   simp only[Af,An,A7] at hx;rcases hx with rfl|rfl
   ·exact λS v hv=>hv
   ·intro S v hv
    obtain⟨vs,rfl,u1,r1,rfl,rfl,u2,r2,rfl,rfl,u3,r3,rfl,rfl,u4,r4,rfl,rfl,rfl⟩:=hv;rfl
  ·rw[<-Ls]
   refine ywA ?_;refine (TI_v hP ?q1 ?_:TI I 19 _ _ _ _ _)
   case q1=>rfl
   (with_reducible repeat'(first|simp(disch:=omega)only[push_cast,↓zz,seval]|refine sp_ ?_ ?_<;>try(intro hc;push_cast at hc)|omega|intro _));refine (TI_v hP ?q2 ?_:TI I 19 _ _ _ _ _)
   case q2=>rfl
   (with_reducible repeat'(first|simp(disch:=omega)only[push_cast,↓zz,seval]|refine sp_ ?_ ?_<;>try(intro hc;push_cast at hc)|omega|intro _));refine⟨t+1,⟨om,rfl,rfl,rfl,?_⟩,om⟩;show AV.int .i64 ((xs.length:Int)-1-t-1)=AV.int .i64 ((xs.length:Int)-1-((t+1:Nat):Int));rw[hnx]
  ·rw[<-Ls]
   refine ywA ?_;refine (TI_v hP ?q3 ?_:TI I 19 _ _ _ _ _)
   case q3=>rfl
   (with_reducible repeat'(first|simp(disch:=omega)only[push_cast,↓zz,seval]|refine sp_ ?_ ?_<;>try(intro hc;push_cast at hc)|omega|intro _));exact⟨oy,.inr rfl⟩
 ·refine⟨oy,.inl ?_⟩
  rw[Rh];congr 1;omega
theorem ON(xs:List Part)(hl:xs.length<=1000000000000):PC Tryz.prog 194 [Cu xs] (.fn 219 [.cptr (Cu xs)]):=by
 refine Cd GQ ?_;unfold Fc;exact gwA
def hdC:AC->AC
 |.seq x _=>x
 |c=>c
def bxH(t:Term)(x0 x1 x2 x3 x4:AV)(R:List Grp):List Grp:=⟨6,1,true,[C9 t]⟩::⟨0,2,false,[]⟩::⟨6,1,true,[.agg [x0,x1,x2,x3,x4,.int .i64 0]]⟩::⟨1,1,true,[.ptr 2 1 0 0]⟩::R
section
variable {t:Term}{x0 x1 x2 x3 x4:AV}{R:List Grp}
theorem Te:Abs.hl (bxH t x0 x1 x2 x3 x4 R)=Abs.hl (⟨6,1,true,[C9 t]⟩::⟨0,2,false,[]⟩::⟨6,1,true,[.agg [x0,x1,x2,x3,x4,.int .i64 0]]⟩::⟨1,1,true,[.ptr 2 1 0 0]⟩::R):=rfl
theorem Jh:(bxH t x0 x1 x2 x3 x4 R).length=R.length+4:=rfl
theorem G6{k:Nat}(hk:4<=k)(h0:ltV k x0)(h1:ltV k x1)(h2:ltV k x2)(h3:ltV k x3)(h4:ltV k x4)(hR:∀X∈R,ltL k X.xs):∀X∈bxH t x0 x1 x2 x3 x4 R,ltL k X.xs:=λX hX=>by
 simp only[bxH,Af] at hX;rcases hX with rfl|rfl|rfl|rfl|hX
 ·exact⟨AL _ _ (by simp[C9,Cu,AV.pure,AJ,Cx]),oy⟩
 ·trivial
 ·exact⟨⟨h0,h1,h2,h3,h4,oy,oy⟩,oy⟩
 ·exact⟨(show 2<k by omega),oy⟩
 ·exact hR X hX
end
theorem Lm{y y':AV}{l:List Grp}(hy:y.pure=true)(hle:leS [] y y'):Ent 1 0 (λ_=>y) (Abs.hl l) (λ_=>y') (Abs.hl []) :=
 (I9 (l:=[]) (gar:=l) (Ab _) (λG hG=>by cases hG) λ_ _=>AL _ _ hy).trans (GY trivial λ_ _=>hle)
theorem zd9(t:Term)(gs:List (List Span))(g:List Span)(hgl:gs.length<=1000000)(hgs:∀s∈gs,s.length<=100000){Q:Ex->Env->A4->Prop}
 (hno:(gs.all λs=>decide (0<((symI s).length:Int)))=false->∀env l,env 6=.nilS->env 7=.int .i64 0->Q .ret env (Abs.hl l)) :
 T Tryz.prog 281 0 (hdC (tlC 4 GP)) (BO [(1,AQ gs),(2,AA g),(3,.ptr 0 1 0 0),(8,AA [⟨0,1114111⟩]),(9,.ptr 3 1 0 0)]) (Abs.hl (bxH t .nilS .nilS .nilS .nilS .nilS []))
  (Ex.then (λenv' H'=>(gs.all λs=>decide (0<((symI s).length:Int)))=true/\∃v,Ent 281 0 env' H' (BO [(2,AA g),(3,.ptr 0 1 0 0),(8,AA [⟨0,1114111⟩]),(9,.ptr 3 1 0 0)]) (Abs.hl (bxH t .nilS (.ref 4 v 0 gs.length) .nilS .nilS .nilS [⟨1,v,false,(gs.map symI).map AA⟩]))) Q):=by
 have pg:=B0 gs;refine DK (W_T ?_);refine ywA ?_;refine W_T ?_;have lg:∀m,ltV m (AQ gs):=λm=>AL _ _ pg
 refine Ba (D6 (σ:=Nat × Nat) (λq=>q.1<=gs.length/\(gs.take q.1).all (λs=>decide (0<((symI s).length:Int)))=true) (λq=>gs.length-q.1)
  (λq=>BO [(2,AA g),(3,.ptr 0 1 0 0),(8,AA [⟨0,1114111⟩]),(9,.ptr 3 1 0 0),(40,AQ gs),(41,.int .i64 gs.length),(42,.int .i64 q.1)])
  (λq=>Abs.hl (bxH t .nilS (.ref 4 q.2 0 q.1) .nilS .nilS .nilS [⟨1,q.2,false,((gs.take q.1).map symI).map AA⟩])) (0,1) ⟨Ap _,rfl⟩ ?_ ?_)
 ·refine (Ea [(2,AA g),(3,.ptr 0 1 0 0),(8,AA [⟨0,1114111⟩]),(9,.ptr 3 1 0 0),(40,AQ gs),(41,.int .i64 gs.length),(42,.int .i64 0)] (Dq (m:=5) ?_)).trans ((Hk [1] oc).trans (GY ?_ λi _=>Bn _ _))
  ·exact⟨rfl,oy,rfl,(show 0<5 by omega),rfl,oy,rfl,(show 3<5 by omega),rfl,lg _,rfl,oy,rfl,oy,oy⟩
  ·refine⟨⟨rfl,rfl,id,AN _ _⟩,⟨rfl,rfl,id,AN _ _⟩,⟨rfl,rfl,id,?_⟩,⟨rfl,rfl,id,AN _ _⟩,⟨rfl,rfl,λh=>(by cases h),AN _ _⟩,oy⟩
   exact⟨⟨Bn _ _,⟨rfl,rfl,rfl,(show (0:Nat)<1 by omega),rfl,rfl,by simp[bxH]⟩,Bn _ _,Bn _ _,Bn _ _,Bn _ _,rfl⟩,rfl⟩
 rintro⟨i,v⟩ ⟨hi,hall⟩;simp only at hi hall ⊢;have lT:((gs.take i).map symI).length=i:=by rw[Au,Bb];omega
 rcases Aj i gs.length with hil|hil
 ·obtain⟨s,hs⟩:∃s,s=nth gs i:=⟨_,rfl⟩
  have hsm:s∈gs:=by rw[hs];exact Bi hil
  have e1:gs.take (i+1)=gs.take i++[s]:=by rw[hs];exact take_at hil
  have hM:=IB s [⟨0,1114111⟩] (by have:=hgs s hsm;omega) oc;rw[Ul] at hM;refine DR Te (W_T ?_);(with_reducible repeat'(first|simp(disch:=omega)only[push_cast,↓zz,seval,<-hs]|refine sp_ ?_ ?_<;>try(intro hc;push_cast at hc)|refine ee hM ?_|(refine cc hM ?_;simp(disch:=omega)only[push_cast,↓zz,seval,<-hs];fail_if_success change False)|omega|intro _))
  ·exact hno (by
    rw[List.all_eq_false]
    exact⟨s,hsm,by rw[hc];decide⟩) _ _ rfl rfl
  refine Gr [4] ?_;(with_reducible repeat'(first|simp(disch:=omega)only[push_cast,↓zz,seval,xx,Af,An,A7,BC,Ch,AT,Co,Cn,lT]|refine sp_ ?_ ?_<;>try(intro hc;push_cast at hc)|omega|intro _))
  all_goals
   refine⟨(i+1,v+1),B3 (gar:=[]) _ (by rw[e1];simp[bxH]) (Ap _) ?_ ?_,⟨by simp only;omega,?_⟩,by simp only;omega⟩
   ·exact G6 (by rw[Jh];simp) trivial (show 4<_ by rw[Jh];simp) trivial trivial trivial λX hX=>by
     rw[Am] at hX;subst hX;exact BU _ _ (B0 _)
   ·exact⟨rfl,oy,rfl,(show 0<5 by omega),rfl,oy,rfl,(show 3<5 by omega),rfl,lg _,rfl,oy,rfl,oy,oy⟩
   ·simp only
    rw[e1,List.all_append,hall];simp;omega
 ·obtain rfl:i=gs.length:=om
  rw[As] at hall;rw[As];refine DR Te (W_T ?_);refine ywA ?_
  all_goals
   refine⟨v,B3 (gar:=[]) _ (by simp[bxH]) (Ap _) ?_ ?_⟩
   ·exact G6 (by rw[Jh];simp) trivial (show 4<_ by rw[Jh];simp) trivial trivial trivial λX hX=>by
     rw[Am] at hX;subst hX;exact BU _ _ (B0 _)
   ·exact⟨rfl,oy,rfl,(show 0<5 by omega),rfl,oy,rfl,(show 3<5 by omega),oy⟩
end Go.Proofs.YtflibbceibjddaaGreat
