/-
  Parts of the proof that the law holds whatever the input; without conditions.
-/
import Derived.Shelf.SlSortCmp.Whole1
import Derived.Shelf.Small.Bits
import Derived.Ground.SlsfProg
import Derived.Ground.NamesProg
import Derived.Test.YtbcjoeadpjfcfaaGreatProg
import Derived.Test.YtbcjoeadpjfcfaaGreatEK6
import Derived.Test.YtbcjoeadpjfcfaaGreatEK4
import Derived.Test.YtbcjoeadpjfcfaaGreatEK5
set_option linter.unusedSimpArgs false
set_option linter.unusedVariables false
set_option linter.unusedSectionVars false
set_option maxRecDepth 100000
namespace Go.Proofs.YtbcjoeadpjfcfaaGreat
open Abs
section
variable {α β:Type}[Inhabited α]
def accL(W:Nat->List α)(g:Nat->α->List β)(s:Nat):List β:=(List.range s).flatMap λs=>(W s).flatMap (g s)
def accJ(W:Nat->List α)(g:Nat->α->List β)(s j:Nat):List β:=accL W g s++((W s).take j).flatMap (g s)
variable {W:Nat->List α}{g:Nat->α->List β}
theorem TC:accL W g 0=[]:=rfl
theorem Lg(s:Nat):accL W g (s+1)=accJ W g s (W s).length:=by
 simp[accL,accJ,Cq,BU]
theorem J1(s:Nat):accJ W g s 0=accL W g s:=by simp[accJ]
theorem TD{s j:Nat}(h:j<(W s).length):accJ W g s (j+1)=accJ W g s j++g s (nth (W s) j):=by
 rw[accJ,accJ,take_at h,BU,Aw];simp
theorem TE(s j:Nat):(accJ W g s j).length<=(accL W g (s+1)).length:=by
 rw[Lg,accJ,accJ];have:W s=(W s).take j++(W s).drop j:=(Ch j _).symm;rw[AH,Ak,Ak]
 have h2:((W s).flatMap (g s)).length=(((W s).take j).flatMap (g s)).length+(((W s).drop j).flatMap (g s)).length:=by
  rw[<-Ak,<-BU,Ch]
 omega
theorem z51{s n:Nat}(h:s<=n):(accL W g s).length<=(accL W g n).length:=by
 induction h with
 |refl=>exact Ae _
 |step _ ih =>
  rename_i m _;have:=TE (W:=W) (g:=g) m 0;rw[J1] at this;exact Bm ih this
theorem Xx{s n:Nat}(j:Nat)(h:s<n):(accJ W g s j).length<=(accL W g n).length:=Bm (TE s j) (z51 h)
end
def frR(d:Desc)(s:Nat)(w:Int × List Term):List Rule:=(ruF d.rules w.1.toNat).map λr=>⟨s,r.to_,r.guards,r.eat,w.2++r.out⟩
def frF(d:Desc)(s:Nat)(w:Int × List Term):List Es:=(fiF d.finals w.1.toNat).map λf=>⟨s,f.guards,w.2++f.out⟩
def Ey(d:Desc)(n:Nat):Desc:=⟨d.in_,d.out,d.states,d.start,accL (λs:Nat=>wayL d.rules n s []) (frR d) n,accL (λs:Nat=>wayL d.rules n s []) (frF d) n⟩
noncomputable def HD (d:Desc) (n:Nat):Bool:=decide (cumW d.rules n n<=4096)&&(decide ((Ey d n).rules.length<=4096/\(Ey d n).finals.length<=4096)&&decide (On (Ey d n)<=64))
theorem Xy{l:List Rule}(ho:∀r∈l,r.out.length<=64):∀{s:Int}{p:List Nat},okP l s p->(outP l p).length<=64 * p.length
 |s,[],_=>by simp[outP]
 |s,i::p,h=>by
  have h1:=ho _ (B2 (FJ.1 h.1).1);have h2:=Xy ho (s:=(nth l i).to_) (p:=p) h.2;simp only[outP,BJ,Ak,List.length_cons] at *;omega
theorem Xz{l:List Rule}{B:Nat}(hB:∀r∈l,∀t∈r.out,t.parts.length<=B):∀{s:Int}{p:List Nat},okP l s p->∀t∈outP l p,t.parts.length<=B
 |s,[],_,t,ht=>by simp[outP] at ht
 |s,i::p,h,t,ht=>by
  simp only[outP,BJ,Au] at ht;rcases ht with ht|ht
  ·exact hB _ (B2 (FJ.1 h.1).1) t ht
  ·exact Xz hB (s:=(nth l i).to_) (p:=p) h.2 t ht
structure zli(n:Nat)(w:Int × List Term):Prop where
 e:0<=w.1/\w.1<n
 l:w.2.length<=70000
 p:∀t∈w.2,t.parts.length<=4
theorem zlj{d:Desc}{n:Nat}(hn:n<=1024)(hl:∀r∈d.rules,(0<=r.from_/\r.from_<n)/\0<=r.to_/\r.to_<n)(hcyc:¬cycP d.rules n)(ho:∀r∈d.rules,r.out.length<=64)(hB:∀r∈d.rules,∀t∈r.out,t.parts.length<=4){s:Nat}(hs:s<n){w:Int × List Term}(h:w∈wayL d.rules n s []):zli n w:=by
 obtain⟨p,hp,rfl⟩:=Aq.1 h;obtain⟨h1,h2⟩:=MK hl hcyc (show (0:Int)<=s by omega) hp;have h3:=Xy ho h2;refine⟨ML hl (by omega) h2,?_,?_⟩
 ·simp only[List.nil_append];omega
 ·simp only[List.nil_append];exact Xz hB h2
theorem Vm(d:Desc)(hf:GB d)(h:¬Ew d=0):PC Tryz.prog 20 [Dm d] (.tup [Qf,.int .i64 2]):=by
 have hF:=Vl d hf h;have pR:=B8 d.rules;have pFi:=B6 d.finals;refine BV HX ?_;unfold GV;(with_reducible repeat'(first|(simp(disch:=omega)only[push_cast,↓zz,seval,pR,pFi])|refine Aa ?_ ?_|(first|refine Ac ?_ ?_|refine Ab ?_ ?_)<;>intro hc<;>(try simp only[push_cast] at hc)|refine eK hF ?_|refine eQ hF ?_|refine eG hF ?_|((first|refine cK hF ?_|refine cQ hF ?_|refine cG hF ?_);(simp(disch:=omega)only[push_cast,↓zz,seval,pR,pFi]);(fail_if_success change False))|omega|intro _))
 all_goals trace_state
theorem z52{l:List Rule}{s:Nat}{r:Rule}(h:r∈ruF l s):r∈l:=(AX.1 h).1
theorem zh9{l:List Es}{s:Nat}{r:Es}(h:r∈fiF l s):r∈l:=(AX.1 h).1
theorem Lh{d:Desc}{r:Rule}(h:Hq d r=true):r.out.length<=64/\(∀t∈r.out,t.parts.length<=4)/\r.guards.length<=4/\∀g∈r.guards,g.length<=64:=by
 simp only[Hq,Ad] at h;obtain⟨h1,h2⟩:=FX h.2.2.2.2;obtain⟨h3,h4⟩:=G0 h.2.2.1;exact⟨h1,h2,h3,h4⟩
theorem TF{d:Desc}{r:Es}(h:GA d r=true):r.out.length<=64/\(∀t∈r.out,t.parts.length<=4)/\r.guards.length<=4/\∀g∈r.guards,g.length<=64:=by
 simp only[GA,Ad] at h;obtain⟨h1,h2⟩:=FX h.2.2;obtain⟨h3,h4⟩:=G0 h.2.1;exact⟨h1,h2,h3,h4⟩
theorem MM{α β:Type}{W:Nat->List α}{g:Nat->α->List β}{s:Nat}{x:β}(h:x∈accL W g s):∃i,i<s/\∃w∈W i,x∈g i w:=by
 simp only[accL,Cn,Bo] at h;obtain⟨i,h1,w,h2,h3⟩:=h;exact⟨i,h1,w,h2,h3⟩
def HE(s:Nat)(w:Int × List Term)(r:Rule):Rule:=⟨s,r.to_,r.guards,r.eat,w.2++r.out⟩
def If(s:Nat)(w:Int × List Term)(r:Es):Es:=⟨s,r.guards,w.2++r.out⟩
theorem X0(d:Desc)(s:Nat)(w:Int × List Term):frR d s w=(ruF d.rules w.1.toNat).map (HE s w):=rfl
theorem z54(d:Desc)(s:Nat)(w:Int × List Term):frF d s w=(fiF d.finals w.1.toNat).map (If s w):=rfl
theorem R2(d:Desc)(hf:GB d)(h:Ew d=0){n:Nat}(hn:d.states=n)(hcyc:¬cycP d.rules n):PC Tryz.prog 20 [Dm d] (if HD d n=true then .tup [Dm (Ey d n),.int .i64 0] else .tup [Qf,.int .i64 4]):=by
 have hF:=Xv d hf h hn hcyc;have hw:=O2 h;obtain⟨_,hrules,hfinals⟩:=Gf h;have hnn:1<=n/\n<=1024:=by obtain⟨m,h1,h2,h3⟩:=hw.n;omega
 have hrl:=hw.rl;have hfl:=hw.fl;have hl:∀r∈d.rules,(0<=r.from_/\r.from_<n)/\0<=r.to_/\r.to_<n:=λr hr=>by have:=hw.r r hr;rw[hn] at this;exact this
 have hlf:∀r∈d.finals,0<=r.from_/\r.from_<n:=λr hr=>by have:=hw.f r hr;rw[hn] at this;exact this
 have pR:=B8 d.rules;have pFi:=B6 d.finals;rw[z4w] at hF;by_cases hfit:cumW d.rules n n<=4096
 rotate_left
 ·have:¬HD d n=true:=by simp[HD,hfit]
  rw[Ah hfit] at hF;rw[Ah this];refine BV HX ?_;unfold GV;(with_reducible repeat'(first|(simp(disch:=omega)only[push_cast,↓zz,seval,pR,pFi])|refine Aa ?_ ?_|(first|refine Ac ?_ ?_|refine Ab ?_ ?_)<;>intro hc<;>(try simp only[push_cast] at hc)|refine eK hF ?_|refine eQ hF ?_|refine eG hF ?_|((first|refine cK hF ?_|refine cQ hF ?_|refine cG hF ?_);(simp(disch:=omega)only[push_cast,↓zz,seval,pR,pFi]);(fail_if_success change False))|omega|intro _))
 rw[Ai hfit] at hF;have hgR:=zh6 d.rules (n:=n) hnn.2 hrl λr hr=>(hl r hr).1;have hgF:=zh8 d.finals (n:=n) hnn.2 hfl hlf;have pRU:AT (fD 5 D6 n (ruF d.rules))=true:=E9 IM;have pFI:AT (fD 3 CB n (fiF d.finals))=true:=E9 IN;have pWA:AT (fD 2 wayV n λs=>wayL d.rules n s [])=true:=E9 HC;have lRU:(fD 5 D6 n (ruF d.rules)).length=n:=Lb;have lFI:(fD 3 CB n (fiF d.finals)).length=n:=Lb;have lWA:(fD 2 wayV n λs=>wayL d.rules n s []).length=n:=Lb;have aRU:∀i,i<n->(fD 5 D6 n (ruF d.rules)).getD i .any=.lst 5 ((ruF d.rules i).map D6):=λi hi=>Rt hi;have aFI:∀i,i<n->(fD 3 CB n (fiF d.finals)).getD i .any=.lst 3 ((fiF d.finals i).map CB):=λi hi=>Rt hi;have aWA:∀i,i<n->(fD 2 wayV n λs=>wayL d.rules n s []).getD i .any=.lst 2 ((wayL d.rules n i []).map wayV):=λi hi=>Rt hi;have aRU2:∀i,i<n->(fD 5 D6 n (ruF d.rules))[i]? = some (.lst 5 ((ruF d.rules i).map D6)):=λi hi=>Lc hi;have aFI2:∀i,i<n->(fD 3 CB n (fiF d.finals))[i]? = some (.lst 3 ((fiF d.finals i).map CB)):=λi hi=>Lc hi;have aWA2:∀i,i<n->(fD 2 wayV n λs=>wayL d.rules n s [])[i]? = some (.lst 2 ((wayL d.rules n i []).map wayV)):=λi hi=>Lc hi;have hRn:∀s j,s<n->(accJ (λs:Nat=>wayL d.rules n s []) (frR d) s j).length<=(Ey d n).rules.length:=λs j hs=>Xx j hs;have hFn:∀s j,s<n->(accJ (λs:Nat=>wayL d.rules n s []) (frF d) s j).length<=(Ey d n).finals.length:=λs j hs=>Xx j hs;have hwo:∀s,s<n->∀w∈wayL d.rules n s [],zli n w:=λs hs w hw'=>zlj hnn.2 hl hcyc (λr hr=>(Lh (hrules r hr)).1) (λr hr=>(Lh (hrules r hr)).2.1) hs hw'
 have hWc:∀s,s<n->(wayL d.rules n s []).length<=4096:=λs hs=>by
  have h1:=Jy d.rules n s;have h2:=Oz d.rules n (show s+1<=n by omega);have h3:(wayL d.rules n s []).length=(Kz d.rules n s).length:=by rw[wayL,AM]
  omega
 have hRu:∀s,(ruF d.rules s).length<=4096:=λs=>by have:=z4y d.rules d.rules.length s;rw[AH] at this;omega
 have hFu:∀s,(fiF d.finals s).length<=4096:=λs=>by have:=z4z d.finals d.finals.length s;rw[AH] at this;omega
 refine BV HX ?_;unfold GV;generalize fD 5 D6 n (ruF d.rules)=RU at *;generalize fD 3 CB n (fiF d.finals)=FI at *;generalize fD 2 wayV n (λs=>wayL d.rules n s [])=WA at *;(with_reducible repeat'(first|(simp(disch:=omega)only[push_cast,↓zz,seval,pR,pFi,hn,pRU,pFI,pWA,lWA])|refine Aa ?_ ?_|(first|refine Ac ?_ ?_|refine Ab ?_ ?_)<;>intro hc<;>(try simp only[push_cast] at hc)|refine eK hF ?_|refine eQ hF ?_|refine eG hF ?_|refine eK hgR ?_|refine eQ hgR ?_|refine eG hgR ?_|refine eK hgF ?_|refine eQ hgF ?_|refine eG hgF ?_|((first|refine cK hF ?_|refine cQ hF ?_|refine cG hF ?_|refine cK hgR ?_|refine cQ hgR ?_|refine cG hgR ?_|refine cK hgF ?_|refine cQ hgF ?_|refine cG hgF ?_);(simp(disch:=omega)only[push_cast,↓zz,seval,pR,pFi,hn,pRU,pFI,pWA,lWA]);(fail_if_success change False))|omega|intro _));have hrm:HD d n=true↔((Ey d n).rules.length<=4096/\(Ey d n).finals.length<=4096)/\On (Ey d n)<=64:=by simp[HD,hfit]
 obtain⟨W,hW⟩:∃W,W=λs:Nat=>wayL d.rules n s []:=⟨_,rfl⟩;rw[<-hW] at hRn hFn;have hWs:∀s:Nat,wayL d.rules n s []=W s:=λs=>by rw[hW]
 simp only[hWs] at aWA aWA2 hwo hWc
 refine B4 (BK (λ(s:Nat)=>s<=n/\(accL W (frR d) s).length<=4096/\(accL W (frF d) s).length<=4096) (λs=>n-s)
  (λs=>[(2,.ptr 0 1 0 0),(6,.lst 1 RU),(7,.lst 1 FI),(8,.ptr 1 1 0 0),(45,.lst 1 WA),(46,.int .i64 n),(47,.int .i64 s)])
  (λs=>[⟨6,1,true,[Qf]⟩,⟨6,1,true,[.agg [.int .i64 d.in_,.int .i64 d.out,.int .i64 n,.int .i64 d.start,.ref 2 1 0 (accL W (frR d) s).length,.ref 3 1 0 (accL W (frF d) s).length]]⟩,⟨5,1,false,(accL W (frR d) s).map D6⟩,⟨3,1,false,(accL W (frF d) s).map CB⟩])
  (λenv H=>[C0 6 (env 2),C0 6 (env 8),C0 5 (cellAt H (env 8) 4),C0 3 (cellAt H (env 8) 5)]) 0 ⟨by simp,by simp[TC],by simp[TC]⟩ ?_ ?_)
 ·have e0:accL W (frR d) 0=[]:=rfl
  have e1:accL W (frF d) 0=[]:=rfl;(with_reducible repeat'(first|(simp(disch:=omega)only[push_cast,↓zz,seval,pR,pFi,pRU,pFI,pWA,e0,e1])|refine Aa ?_ ?_|(first|refine Ac ?_ ?_|refine Ab ?_ ?_)<;>intro hc<;>(try simp only[push_cast] at hc)|omega|intro _))
 rintro s ⟨hs,hsR,hsF⟩;have pAR:=B8 (accL W (frR d) s);have pAF:=B6 (accL W (frF d) s);rcases An s n with hsn|hsn
 ·have aS:=aWA s hsn
  have aS2:=aWA2 s hsn;have hwS:=hwo s hsn;have hWl:=hWc s hsn;have pWs:AT ((W s).map wayV)=true:=Dz HC _;have hL1:(accL W (frR d) s).map D6=(accL W (frR d) s).map D6:=rfl;refine W_T ?_;(with_reducible repeat'(first|(simp(disch:=omega)only[push_cast,↓zz,seval,pRU,pFI,pWA,lWA,aS,aS2,pWs])|refine Aa ?_ ?_|(first|refine Ac ?_ ?_|refine Ab ?_ ?_)<;>intro hc<;>(try simp only[push_cast] at hc)|omega|intro _))
  refine B4 (BK (λ(j:Nat)=>j<=(W s).length/\(accJ W (frR d) s j).length<=4096/\(accJ W (frF d) s j).length<=4096) (λj=>(W s).length-j)
   (λj=>[(2,.ptr 0 1 0 0),(6,.lst 1 RU),(7,.lst 1 FI),(8,.ptr 1 1 0 0),(9,.int .i64 s),(45,.lst 1 WA),(46,.int .i64 n),(47,.int .i64 s),(52,.lst 2 ((W s).map wayV)),(53,.int .i64 (W s).length),(54,.int .i64 j)])
   (λj=>[⟨6,1,true,[Qf]⟩,⟨6,1,true,[.agg [.int .i64 d.in_,.int .i64 d.out,.int .i64 n,.int .i64 d.start,.ref 2 1 0 (accJ W (frR d) s j).length,.ref 3 1 0 (accJ W (frF d) s j).length]]⟩,⟨5,1,false,(accJ W (frR d) s j).map D6⟩,⟨3,1,false,(accJ W (frF d) s j).map CB⟩])
   (λenv H=>[C0 6 (env 2),C0 6 (env 8),C0 5 (cellAt H (env 8) 4),C0 3 (cellAt H (env 8) 5)]) 0 ⟨by simp,by rw[J1];exact hsR,by rw[J1];exact hsF⟩ ?_ ?_)
  ·have e0:=J1 (W:=W) (g:=frR d) s
   have e1:=J1 (W:=W) (g:=frF d) s;(with_reducible repeat'(first|(simp(disch:=omega)only[push_cast,↓zz,seval,pRU,pFI,pWA,e0,e1,pAR,pAF,pWs])|refine Aa ?_ ?_|(first|refine Ac ?_ ?_|refine Ab ?_ ?_)<;>intro hc<;>(try simp only[push_cast] at hc)|omega|intro _))
  rintro j ⟨hj,hjR,hjF⟩;have pJR:=B8 (accJ W (frR d) s j);have pJF:=B6 (accJ W (frF d) s j);rcases An j (W s).length with hjl|hjl
  ·have aJ:((W s).map wayV).getD j .any=wayV (nth (W s) j):=by simp[nth,List.getD,hjl]
   have hwj:=hwS _ (B2 hjl);have hsR:=TD (g:=frR d) hjl;have hsF:=TD (g:=frF d) hjl;have hsRn:=hRn s (j+1) hsn;have hsFn:=hFn s (j+1) hsn;generalize hwe:nth (W s) j=w at *;obtain⟨w1,w2⟩:=w;obtain⟨⟨he1,he2⟩,hwl,hwp⟩:=hwj;simp only at he1 he2 hwl hwp;obtain⟨e,rfl⟩:∃e:Nat,w1=e:=⟨w1.toNat,by omega⟩;have hen:e<n:=by omega
   have pw2:=B5 w2;have aRe:=aRU e hen;have aFe:=aFI e hen;have aRe2:=aRU2 e hen;have aFe2:=aFI2 e hen;have lRe:=hRu e;have lFe:=hFu e;rw[X0,Int.toNat_natCast] at hsR;rw[z54,Int.toNat_natCast] at hsF;have hRm:∀r∈ruF d.rules e,Hq d r=true:=λr hr=>hrules r (z52 hr);have hFm:∀r∈fiF d.finals e,GA d r=true:=λr hr=>hfinals r (zh9 hr);generalize ruF d.rules e=LR at *;generalize fiF d.finals e=LF at *;have pLR:AT (LR.map D6)=true:=Dz IM _;have pLF:AT (LF.map CB)=true:=Dz IN _;generalize hAR:accJ W (frR d) s j=AR at *;generalize hAF:accJ W (frF d) s j=AF at *;unfold wayV at aJ;refine W_T ?_;(with_reducible repeat'(first|(simp(disch:=omega)only[push_cast,↓zz,seval,pRU,pFI,pWA,pWs,hwe,wayV,pw2,aRe,aRe2,pLR,lRU,lFI])|refine Aa ?_ ?_|(first|refine Ac ?_ ?_|refine Ab ?_ ?_)<;>intro hc<;>(try simp only[push_cast] at hc)|omega|intro _));obtain⟨SR,hSR⟩:∃SR:Nat->List Rule,SR=λk=>AR++(LR.take k).map (HE s ((e:Int),w2)):=⟨_,rfl⟩;have sR0:SR 0=AR:=by rw[hSR];simp
   have sRs:∀k,k<LR.length->SR (k+1)=SR k++[HE s ((e:Int),w2) (nth LR k)]:=λk hk=>by rw[hSR];simp only;rw[take_at hk];simp
   have sRl:∀k,k<=LR.length->(SR k).length=AR.length+k:=λk hk=>by rw[hSR];simp;omega
   have sRe:SR LR.length=accJ W (frR d) s (j+1):=by rw[hSR];simp only;rw[AH,<-hsR]
   obtain⟨SF,hSF⟩:∃SF:Nat->List Es,SF=λk=>AF++(LF.take k).map (If s ((e:Int),w2)):=⟨_,rfl⟩;have sF0:SF 0=AF:=by rw[hSF];simp
   have sFs:∀k,k<LF.length->SF (k+1)=SF k++[If s ((e:Int),w2) (nth LF k)]:=λk hk=>by rw[hSF];simp only;rw[take_at hk];simp
   have sFl:∀k,k<=LF.length->(SF k).length=AF.length+k:=λk hk=>by rw[hSF];simp;omega
   have sFe:SF LF.length=accJ W (frF d) s (j+1):=by rw[hSF];simp only;rw[AH,<-hsF]
   clear hSR hSF
   refine B4 (BK (λ(k:Nat)=>k<=LR.length) (λk=>LR.length-k)
    (λk=>[(2,.ptr 0 1 0 0),(6,.lst 1 RU),(7,.lst 1 FI),(8,.ptr 1 1 0 0),(9,.int .i64 s),(12,.cptr (.agg [.int .i64 e,C9 w2])),(45,.lst 1 WA),(46,.int .i64 n),(47,.int .i64 s),(52,.lst 2 ((W s).map wayV)),(53,.int .i64 (W s).length),(54,.int .i64 j),(62,.lst 5 (LR.map D6)),(63,.int .i64 LR.length),(64,.int .i64 k)])
    (λk=>[⟨6,1,true,[Qf]⟩,⟨6,1,true,[.agg [.int .i64 d.in_,.int .i64 d.out,.int .i64 n,.int .i64 d.start,.ref 2 1 0 (SR k).length,.ref 3 1 0 AF.length]]⟩,⟨5,1,false,(SR k).map D6⟩,⟨3,1,false,AF.map CB⟩])
    (λenv H=>[C0 6 (env 2),C0 6 (env 8),C0 5 (cellAt H (env 8) 4),C0 3 (cellAt H (env 8) 5)]) 0 (by simp) ?_ ?_)
   ·(with_reducible repeat'(first|(simp(disch:=omega)only[push_cast,↓zz,seval,pRU,pFI,pWA,pWs,pw2,pLR,pJR,pJF,sR0])|refine Aa ?_ ?_|(first|refine Ac ?_ ?_|refine Ab ?_ ?_)<;>intro hc<;>(try simp only[push_cast] at hc)|omega|intro _))
   intro k hk;have hlk:=sRl k hk;have pK:=B8 (SR k);rcases An k LR.length with hkl|hkl
   ·have hr:=hRm _ (B2 hkl)
    have e1:=sRs k hkl;have hlk1:=sRl (k+1) hkl;have pK1:=B8 (SR (k+1));generalize hre:nth LR k=r at *;obtain⟨o1,o2,o3,o4⟩:=Lh hr;have hgr:=AL r.guards;have hot:=B5 r.out;have hG:=Qd r.guards (by omega) (λg hg=>by have:=o4 g hg;omega)
    have hB:=Qe ((e:Int),w2) r.out (by simp only;omega) (λt ht=>by
     rcases Au.1 ht with h|h
     ·have:=hwp t h;omega
     ·have:=o2 t h;omega)
    unfold wayV at hB;simp only at hB;have pB:=B5 (w2++r.out);have eM:(SR (k+1)).map D6=(SR k).map D6++[.agg [.int .i64 s,.int .i64 r.to_,Bs r.guards,.int .i64 r.eat,C9 (w2++r.out)]]:=by rw[e1,A9];rfl
    generalize w2++r.out=TL at *;have pTO:AT (TL.map Dv)=true:=pB;refine W_T ?_;(with_reducible repeat'(first|(simp(disch:=omega)only[push_cast,↓zz,seval,pRU,pFI,pWA,pWs,pw2,pLR,pJF,hre,hgr,hot,hlk,pK,pTO])|refine Aa ?_ ?_|(first|refine Ac ?_ ?_|refine Ab ?_ ?_)<;>intro hc<;>(try simp only[push_cast] at hc)|refine eK hG ?_|refine eQ hG ?_|refine eG hG ?_|refine eK hB ?_|refine eQ hB ?_|refine eG hB ?_|((first|refine cK hG ?_|refine cQ hG ?_|refine cG hG ?_|refine cK hB ?_|refine cQ hB ?_|refine cG hB ?_);(simp(disch:=omega)only[push_cast,↓zz,seval,pRU,pFI,pWA,pWs,pw2,pLR,pJF,hre,hgr,hot,hlk,pK,pTO]);(fail_if_success change False))|omega|intro _))
    all_goals
     refine⟨k+1,?_⟩;(with_reducible repeat'(first|(simp(disch:=omega)only[push_cast,↓zz,seval,eM,hlk1,pRU,pFI,pWA,pWs,pw2,pLR,pJF,pK,hgr,pTO])|refine Aa ?_ ?_|(first|refine Ac ?_ ?_|refine Ab ?_ ?_)<;>intro hc<;>(try simp only[push_cast] at hc)|omega|intro _))
   ·obtain rfl:k=LR.length:=by omega
    rw[sRe] at hlk pK ⊢;refine W_T ?_;(with_reducible repeat'(first|(simp(disch:=omega)only[push_cast,↓zz,seval,pRU,pFI,pWA,pWs,pw2,aFe,aFe2,pLF,lFI])|refine Aa ?_ ?_|(first|refine Ac ?_ ?_|refine Ab ?_ ?_)<;>intro hc<;>(try simp only[push_cast] at hc)|omega|intro _));generalize hAR1:accJ W (frR d) s (j+1)=AR1 at *
    refine B4 (BK (λ(k:Nat)=>k<=LF.length) (λk=>LF.length-k)
     (λk=>[(2,.ptr 0 1 0 0),(6,.lst 1 RU),(7,.lst 1 FI),(8,.ptr 1 1 0 0),(9,.int .i64 s),(12,.cptr (.agg [.int .i64 e,C9 w2])),(45,.lst 1 WA),(46,.int .i64 n),(47,.int .i64 s),(52,.lst 2 ((W s).map wayV)),(53,.int .i64 (W s).length),(54,.int .i64 j),(91,.lst 3 (LF.map CB)),(92,.int .i64 LF.length),(93,.int .i64 k)])
     (λk=>[⟨6,1,true,[Qf]⟩,⟨6,1,true,[.agg [.int .i64 d.in_,.int .i64 d.out,.int .i64 n,.int .i64 d.start,.ref 2 1 0 AR1.length,.ref 3 1 0 (SF k).length]]⟩,⟨5,1,false,AR1.map D6⟩,⟨3,1,false,(SF k).map CB⟩])
     (λenv H=>[C0 6 (env 2),C0 6 (env 8),C0 5 (cellAt H (env 8) 4),C0 3 (cellAt H (env 8) 5)]) 0 (by simp) ?_ ?_)
    ·(with_reducible repeat'(first|(simp(disch:=omega)only[push_cast,↓zz,seval,pRU,pFI,pWA,pWs,pw2,pLF,pK,pJF,sF0])|refine Aa ?_ ?_|(first|refine Ac ?_ ?_|refine Ab ?_ ?_)<;>intro hc<;>(try simp only[push_cast] at hc)|omega|intro _))
    intro k hk;have hlkF:=sFl k hk;have pKF:=B6 (SF k);rcases An k LF.length with hkl|hkl
    ·have hr:=hFm _ (B2 hkl)
     have e1:=sFs k hkl;have hlk1:=sFl (k+1) hkl;have pK1:=B6 (SF (k+1));generalize hre:nth LF k=r at *;obtain⟨o1,o2,o3,o4⟩:=TF hr;have hgr:=AL r.guards;have hot:=B5 r.out;have hG:=Qd r.guards (by omega) (λg hg=>by have:=o4 g hg;omega)
     have hB:=Qe ((e:Int),w2) r.out (by simp only;omega) (λt ht=>by
      rcases Au.1 ht with h|h
      ·have:=hwp t h;omega
      ·have:=o2 t h;omega)
     unfold wayV at hB;simp only at hB;have pB:=B5 (w2++r.out);have eM:(SF (k+1)).map CB=(SF k).map CB++[.agg [.int .i64 s,Bs r.guards,C9 (w2++r.out)]]:=by rw[e1,A9];rfl
     generalize w2++r.out=TL at *;have pTO:AT (TL.map Dv)=true:=pB;refine W_T ?_;(with_reducible repeat'(first|(simp(disch:=omega)only[push_cast,↓zz,seval,pRU,pFI,pWA,pWs,pw2,pLF,pK,hre,hgr,hot,hlkF,pKF,pTO])|refine Aa ?_ ?_|(first|refine Ac ?_ ?_|refine Ab ?_ ?_)<;>intro hc<;>(try simp only[push_cast] at hc)|refine eK hG ?_|refine eQ hG ?_|refine eG hG ?_|refine eK hB ?_|refine eQ hB ?_|refine eG hB ?_|((first|refine cK hG ?_|refine cQ hG ?_|refine cG hG ?_|refine cK hB ?_|refine cQ hB ?_|refine cG hB ?_);(simp(disch:=omega)only[push_cast,↓zz,seval,pRU,pFI,pWA,pWs,pw2,pLF,pK,hre,hgr,hot,hlkF,pKF,pTO]);(fail_if_success change False))|omega|intro _))
     all_goals
      refine⟨k+1,?_⟩;(with_reducible repeat'(first|(simp(disch:=omega)only[push_cast,↓zz,seval,eM,hlk1,pRU,pFI,pWA,pWs,pw2,pLF,pK,pKF,hgr,pTO])|refine Aa ?_ ?_|(first|refine Ac ?_ ?_|refine Ab ?_ ?_)<;>intro hc<;>(try simp only[push_cast] at hc)|omega|intro _))
    ·obtain rfl:k=LF.length:=by omega
     rw[sFe] at hlkF pKF ⊢;refine W_T ?_;by_cases hbig:AR1.length<=4096/\(accJ W (frF d) s (j+1)).length<=4096
     ·generalize hAF1:accJ W (frF d) s (j+1)=AF1 at *
      (with_reducible repeat'(first|(simp(disch:=omega)only[push_cast,↓zz,seval,pRU,pFI,pWA,pWs,pw2,pK,pKF])|refine Aa ?_ ?_|(first|refine Ac ?_ ?_|refine Ab ?_ ?_)<;>intro hc<;>(try simp only[push_cast] at hc)|omega|intro _))
      all_goals
       refine⟨j+1,?_⟩;(with_reducible repeat'(first|(simp(disch:=omega)only[push_cast,↓zz,seval,pRU,pFI,pWA,pWs,pw2,pK,pKF,hAR1,hAF1])|refine Aa ?_ ?_|(first|refine Ac ?_ ?_|refine Ab ?_ ?_)<;>intro hc<;>(try simp only[push_cast] at hc)|omega|intro _))
     ·have:¬HD d n=true:=by rw[hrm];omega
      rw[Ah this];generalize hAF1:accJ W (frF d) s (j+1)=AF1 at *;(with_reducible repeat'(first|(simp(disch:=omega)only[push_cast,↓zz,seval,pRU,pFI,pWA,pWs,pw2,pK,pKF])|refine Aa ?_ ?_|(first|refine Ac ?_ ?_|refine Ab ?_ ?_)<;>intro hc<;>(try simp only[push_cast] at hc)|omega|intro _))
  ·obtain rfl:j=(W s).length:=by omega
   have sR1:=Lg (W:=W) (g:=frR d) s;have sF1:=Lg (W:=W) (g:=frF d) s;rw[<-sR1] at hjR pJR ⊢;rw[<-sF1] at hjF pJF ⊢;refine W_T ?_;(with_reducible repeat'(first|(simp(disch:=omega)only[push_cast,↓zz,seval,pRU,pFI,pWA,pWs,pJR,pJF])|refine Aa ?_ ?_|(first|refine Ac ?_ ?_|refine Ab ?_ ?_)<;>intro hc<;>(try simp only[push_cast] at hc)|omega|intro _))
   all_goals
    refine⟨s+1,?_⟩;(with_reducible repeat'(first|(simp(disch:=omega)only[push_cast,↓zz,seval,pRU,pFI,pWA,pWs,pJR,pJF])|refine Aa ?_ ?_|(first|refine Ac ?_ ?_|refine Ab ?_ ?_)<;>intro hc<;>(try simp only[push_cast] at hc)|omega|intro _))
 ·obtain rfl:s=n:=by omega
  refine W_T ?_;have hfd:Ey d s=⟨d.in_,d.out,d.states,d.start,accL W (frR d) s,accL W (frF d) s⟩:=by rw[Ey,hW]
  have hlen:PC Tryz.prog 53 [Dm (Ey d s)] (.int .i64 (On (Ey d s))):=by
   rw[hfd];refine Ty _ (by simp only;omega) (by simp only;omega) λr hr=>?_;obtain⟨i,hi,w,hw1,hr1⟩:=MM hr;have hwk:=hwo i hi w hw1;rw[X0] at hr1;obtain⟨r0,hr0,rfl⟩:=Aq.1 hr1;obtain⟨o1,o2,o3,o4⟩:=Lh (hrules r0 (z52 hr0));have:=hwk.l;simp only[HE,Ak];omega
  rw[hfd,hn] at hlen hrm;simp only at hrm;generalize hLV:On ⟨d.in_,d.out,(s:Int),d.start,accL W (frR d) s,accL W (frF d) s⟩=LV at *;have hdV:Dm (Ey d s)=Dm ⟨d.in_,d.out,(s:Int),d.start,accL W (frR d) s,accL W (frF d) s⟩:=by rw[hfd,hn]
  rw[hdV];by_cases h64:64<LV
  ·rw[Ah (by rw[hrm];omega)]
   (with_reducible repeat'(first|(simp(disch:=omega)only[push_cast,↓zz,seval,pRU,pFI,pWA,lWA,pAR,pAF])|refine Aa ?_ ?_|(first|refine Ac ?_ ?_|refine Ab ?_ ?_)<;>intro hc<;>(try simp only[push_cast] at hc)|refine eK hlen ?_|refine eQ hlen ?_|refine eG hlen ?_|((first|refine cK hlen ?_|refine cQ hlen ?_|refine cG hlen ?_);(simp(disch:=omega)only[push_cast,↓zz,seval,pRU,pFI,pWA,lWA,pAR,pAF]);(fail_if_success change False))|omega|intro _))
  ·rw[Ai (by rw[hrm];omega)]
   (with_reducible repeat'(first|(simp(disch:=omega)only[push_cast,↓zz,seval,pRU,pFI,pWA,lWA,pAR,pAF])|refine Aa ?_ ?_|(first|refine Ac ?_ ?_|refine Ab ?_ ?_)<;>intro hc<;>(try simp only[push_cast] at hc)|refine eK hlen ?_|refine eQ hlen ?_|refine eG hlen ?_|((first|refine cK hlen ?_|refine cQ hlen ?_|refine cG hlen ?_);(simp(disch:=omega)only[push_cast,↓zz,seval,pRU,pFI,pWA,lWA,pAR,pAF]);(fail_if_success change False))|omega|intro _))
   all_goals trace_state
end Go.Proofs.YtbcjoeadpjfcfaaGreat
namespace Go.Proofs.YtbcjoeadpjfcfaaGreat
open Abs
structure GOk(i:Int)(gs:List (List Span)):Prop where
 len:gs.length<=4
 short:∀g∈gs,g.length<=64
 some:∀g∈gs,∃v,memL g v
 dom:∀g∈gs,∀v,memL g v->Hj i v=true
theorem Qg:∀{l:List Int}{a b:Int},Gj l->(∀x∈l,a<=x/\x<=b)->a<=b+1->(l.length:Int)<=b-a+1
 |[],a,b,_,_,h=>by simp;omega
 |x::l,a,b,hr,hm,h=>by
  obtain⟨r1,r2⟩:=AW.1 hr;have hx:=hm x (by simp);have:=Qg (a:=x+1) (b:=b) r2 (λy hy=>by have:=r1 y hy;have:=hm y (by simp[hy]);omega) (by omega)
  push_cast [List.length_cons]
  omega
structure zlk(now:List Int):Prop where
 ris:Gj now
 bd:∀x∈now,-1114111<=x/\x<=1114111
 pos:0<now.length
theorem zlk.len{now:List Int}(h:zlk now):now.length<=2228223:=by
 have:=Qg h.ris h.bd (by omega);omega
end Go.Proofs.YtbcjoeadpjfcfaaGreat
namespace Go.Proofs.YtbcjoeadpjfcfaaGreat
open Abs
structure TOk(t:Term)(i:Int)(gs:List (List Span)):Prop where
 parts:∀p∈t.parts,FH p gs.length=true
 four:t.parts.length<=4
 sm:-1114111<=t.sum/\t.sum<=1114111
 sort:i=1\/(i=2/\t.parts.length<=1/\∀p∈t.parts,Jp p=true)
theorem TOk.bits{t:Term}{i:Int}{gs:List (List Span)}(h:TOk t i gs):∀p∈t.parts,GN p=true:=λp hp=>by
 have:=h.parts p hp;simp only[FH,Ad] at this;exact this.2
theorem TOk.at{t:Term}{i:Int}{gs:List (List Span)}(h:TOk t i gs):∀p∈t.parts,0<=p.at_/\p.at_<gs.length:=λp hp=>AU (h.parts p hp)
end Go.Proofs.YtbcjoeadpjfcfaaGreat
namespace Go.Proofs.YtbcjoeadpjfcfaaGreat
open Abs
def sumT{α:Type}(f:α->Int)(l:List α):Int:=(l.map f).sum
theorem R3{α:Type}[Inhabited α]{f:α->Int}{l:List α}{k:Nat}(h:k<l.length):sumT f (l.take (k+1))=sumT f (l.take k)+f (nth l k):=by rw[take_at h];simp[sumT]
theorem Hk{α:Type}{f:α->Int}{B:Int}(hf:∀x,0<=f x/\f x<=B):∀l:List α,0<=sumT f l/\sumT f l<=l.length * B
 |[]=>by simp[sumT]
 |x::l=>by
  have h1:=Hk hf l;have h2:=hf x;have e:sumT f (x::l)=f x+sumT f l:=by simp[sumT]
  have e2:((x::l).length:Int) * B=l.length * B+B:=by push_cast [List.length_cons];rw[Int.add_mul,G4]
  omega
theorem JQ{α:Type}{f:α->Int}(hf:∀x,0<=f x):∀{l:List α}{x:α},x∈l->f x<=sumT f l
 |y::l,x,h=>by
  have e:sumT f (y::l)=f y+sumT f l:=by simp[sumT]
  have hn:∀m:List α,0<=sumT f m:=λm=>by
   induction m with
   |nil=>simp[sumT]
   |cons z m ih =>
    have e:sumT f (z::m)=f z+sumT f m:=by simp[sumT]
    have:=hf z;omega
  have h1:=hf y;have h2:=hn l;rcases Ag.1 h with rfl|h
  ·omega
  ·have:=JQ hf h
   omega
def szG(g:List Span):Int:=min (g.length:Int) 4000
def szT(t:Term):Int:=1+min (t.parts.length:Int) 4000
theorem X3(g:List Span):0<=szG g/\szG g<=4000:=by unfold szG;omega
theorem X4(t:Term):0<=szT t/\szT t<=4001:=by unfold szT;omega
def IY(gs:List (List Span))(out:List Term):Int:=if 100<gs.length\/200<out.length then 4000 else 1+sumT szG gs+sumT szT out
theorem Qh(gs:List (List Span))(out:List Term):PC Tryz.prog 43 [Bs gs,C9 out] (.int .i64 (IY gs out)):=by
 have hP:=AL gs;have hT:=B5 out;refine BV Sw ?_;unfold LY;by_cases hb:100<gs.length\/200<out.length
 ·rw[IY,Ai hb]
  (with_reducible repeat'(first|(simp(disch:=omega)only[push_cast,↓zz,seval,hP,hT])|refine Aa ?_ ?_|(first|refine Ac ?_ ?_|refine Ab ?_ ?_)<;>intro hc<;>(try simp only[push_cast] at hc)|omega|intro _))
 rw[IY,Ah hb];(with_reducible repeat'(first|(simp(disch:=omega)only[push_cast,↓zz,seval,hP,hT])|refine Aa ?_ ?_|(first|refine Ac ?_ ?_|refine Ab ?_ ?_)<;>intro hc<;>(try simp only[push_cast] at hc)|omega|intro _))
 refine B4 (BK (λ(k:Nat)=>k<=gs.length) (λk=>gs.length-k)
  (λk=>[(0,Bs gs),(1,C9 out),(5,.int .i64 (1+sumT szG (gs.take k))),(6,.int .i64 k)]) (λk=>[]) (λ_ _=>[]) 0 (by simp) ?_ ?_)
 ·have e0:sumT szG ([]:List (List Span))=0:=rfl
  (with_reducible repeat'(first|(simp(disch:=omega)only[push_cast,↓zz,seval,hP,hT,e0])|refine Aa ?_ ?_|(first|refine Ac ?_ ?_|refine Ab ?_ ?_)<;>intro hc<;>(try simp only[push_cast] at hc)|omega|intro _))
 intro k hk;have hb1:=Hk X3 (gs.take k);have hb2:((gs.take k).length:Int) * 4000<=100 * 4000:=Ci (by simp;omega) (by omega);rcases An k gs.length with hkl|hkl
 ·have hst:=R3 (f:=szG) hkl
  have hx:=X3 (nth gs k);have hsz:min ((nth gs k).length:Int) 4000=szG (nth gs k):=rfl;generalize hge:nth gs k=g at *;generalize sumT szG (gs.take k)=n at *;have hw:IntKind.i64.wrap (1+n+szG g)=1+n+szG g:=IntWalk.i64_in _ (by omega);refine W_T ?_;(with_reducible repeat'(first|(simp(disch:=omega)only[push_cast,↓zz,seval,hP,hT,hge,hsz,hw])|refine Aa ?_ ?_|(first|refine Ac ?_ ?_|refine Ab ?_ ?_)<;>intro hc<;>(try simp only[push_cast] at hc)|omega|intro _))
  all_goals
   refine⟨k+1,?_⟩;(with_reducible repeat'(first|(simp(disch:=omega)only[push_cast,↓zz,seval,hst])|refine Aa ?_ ?_|(first|refine Ac ?_ ?_|refine Ab ?_ ?_)<;>intro hc<;>(try simp only[push_cast] at hc)|omega|intro _))
  all_goals first
   |omega
   |trace_state
 ·have hkt:gs.take k=gs:=Ar hkl
  rw[hkt] at hb1 hb2 ⊢;generalize sumT szG gs=n at *;refine W_T ?_;(with_reducible repeat'(first|(simp(disch:=omega)only[push_cast,↓zz,seval,hP,hT])|refine Aa ?_ ?_|(first|refine Ac ?_ ?_|refine Ab ?_ ?_)<;>intro hc<;>(try simp only[push_cast] at hc)|omega|intro _))
  refine B4 (BK (λ(k:Nat)=>k<=out.length) (λk=>out.length-k)
   (λk=>[(1,C9 out),(5,.int .i64 (1+n+sumT szT (out.take k))),(7,.int .i64 k)]) (λk=>[]) (λ_ _=>[]) 0 (by simp) ?_ ?_)
  ·have e0:sumT szT ([]:List Term)=0:=rfl
   (with_reducible repeat'(first|(simp(disch:=omega)only[push_cast,↓zz,seval,hP,hT,e0,Int.add_zero])|refine Aa ?_ ?_|(first|refine Ac ?_ ?_|refine Ab ?_ ?_)<;>intro hc<;>(try simp only[push_cast] at hc)|omega|intro _))
  intro j hj;have hb3:=Hk X4 (out.take j);have hb4:((out.take j).length:Int) * 4001<=200 * 4001:=Ci (by simp;omega) (by omega);rcases An j out.length with hjl|hjl
  ·have hst:=R3 (f:=szT) hjl
   have hx:=X4 (nth out j);have hsz:szT (nth out j)=1+min ((nth out j).parts.length:Int) 4000:=rfl;generalize hge:nth out j=t at *;generalize sumT szT (out.take j)=m at *;generalize hze:min (t.parts.length:Int) 4000=z at *;have hw:IntKind.i64.wrap (1+n+m+1)=1+n+m+1:=IntWalk.i64_in _ (by omega);have hw2:IntKind.i64.wrap (1+n+m+1+z)=1+n+m+1+z:=IntWalk.i64_in _ (by omega);refine W_T ?_;(with_reducible repeat'(first|(simp(disch:=omega)only[push_cast,↓zz,seval,hP,hT,hge,hze,hw,hw2])|refine Aa ?_ ?_|(first|refine Ac ?_ ?_|refine Ab ?_ ?_)<;>intro hc<;>(try simp only[push_cast] at hc)|omega|intro _))
   all_goals
    refine⟨j+1,?_⟩;(with_reducible repeat'(first|(simp(disch:=omega)only[push_cast,↓zz,seval,hst])|refine Aa ?_ ?_|(first|refine Ac ?_ ?_|refine Ab ?_ ?_)<;>intro hc<;>(try simp only[push_cast] at hc)|omega|intro _))
   all_goals first
    |omega
    |trace_state
  ·have hjt:out.take j=out:=Ar hjl
   rw[hjt];refine W_T ?_;(with_reducible repeat'(first|(simp(disch:=omega)only[push_cast,↓zz,seval,hP,hT])|refine Aa ?_ ?_|(first|refine Ac ?_ ?_|refine Ab ?_ ?_)<;>intro hc<;>(try simp only[push_cast] at hc)|omega|intro _))
   all_goals trace_state
theorem LM(gs:List (List Span))(out:List Term):0<=IY gs out/\IY gs out<=2000000:=by
 unfold IY;have h1:=Hk X3 gs;have h2:=Hk X4 out;split
 ·omega
 ·omega
def szR(r:Rule):Int:=IY r.guards r.out
def szF(f:Es):Int:=IY f.guards f.out
def Mv(d:Desc):Bool:=decide (d.rules.length<=80/\d.finals.length<=80)&&decide (sumT szR d.rules+sumT szF d.finals<=1500)
theorem Vn(d:Desc):PC Tryz.prog 15 [Dm d] (.bool (Mv d)):=by
 have hPr:=B8 d.rules;have hPf:=B6 d.finals;have sR:∀r,0<=szR r/\szR r<=2000000:=λr=>LM _ _;have sF:∀f,0<=szF f/\szF f<=2000000:=λr=>LM _ _;refine BV QE ?_;unfold KC;by_cases hb:d.rules.length<=80/\d.finals.length<=80
 ·rw[Mv,Ba hb,Ax]
  (with_reducible repeat'(first|(simp(disch:=omega)only[push_cast,↓zz,seval])|refine Aa ?_ ?_|(first|refine Ac ?_ ?_|refine Ab ?_ ?_)<;>intro hc<;>(try simp only[push_cast] at hc)|omega|intro _))
  refine B4 (BK (λ(k:Nat)=>k<=d.rules.length) (λk=>d.rules.length-k)
   (λk=>[(1,.ptr 0 1 0 0),(3,.int .i64 (sumT szR (d.rules.take k))),(4,.int .i64 k)]) (λk=>[⟨6,1,true,[Dm d]⟩]) (λenv _=>[C0 1 (env 1)]) 0 (by simp) ?_ ?_)
  ·have e0:sumT szR ([]:List Rule)=0:=rfl
   (with_reducible repeat'(first|(simp(disch:=omega)only[push_cast,↓zz,seval,hPr,hPf,e0])|refine Aa ?_ ?_|(first|refine Ac ?_ ?_|refine Ab ?_ ?_)<;>intro hc<;>(try simp only[push_cast] at hc)|omega|intro _))
  intro k hk;have hb1:=Hk sR (d.rules.take k);have hb2:((d.rules.take k).length:Int) * 2000000<=80 * 2000000:=Ci (by simp;omega) (by omega);rcases An k d.rules.length with hkl|hkl
  ·have hst:=R3 (f:=szR) hkl
   have hx:=sR (nth d.rules k);have hS:=Qh (nth d.rules k).guards (nth d.rules k).out;have hsz:IY (nth d.rules k).guards (nth d.rules k).out=szR (nth d.rules k):=rfl;rw[hsz] at hS;generalize hge:nth d.rules k=r at *;generalize sumT szR (d.rules.take k)=n at *;have hw:IntKind.i64.wrap (n+szR r)=n+szR r:=IntWalk.i64_in _ (by omega);have hpg:=AL r.guards;have hpt:=B5 r.out;refine W_T ?_;(with_reducible repeat'(first|(simp(disch:=omega)only[push_cast,↓zz,seval,hPr,hPf,hge,hw,hpg,hpt])|refine Aa ?_ ?_|(first|refine Ac ?_ ?_|refine Ab ?_ ?_)<;>intro hc<;>(try simp only[push_cast] at hc)|refine eK hS ?_|refine eQ hS ?_|refine eG hS ?_|((first|refine cK hS ?_|refine cQ hS ?_|refine cG hS ?_);(simp(disch:=omega)only[push_cast,↓zz,seval,hPr,hPf,hge,hw,hpg,hpt]);(fail_if_success change False))|omega|intro _))
   all_goals
    refine⟨k+1,?_⟩;(with_reducible repeat'(first|(simp(disch:=omega)only[push_cast,↓zz,seval,hst])|refine Aa ?_ ?_|(first|refine Ac ?_ ?_|refine Ab ?_ ?_)<;>intro hc<;>(try simp only[push_cast] at hc)|omega|intro _))
  ·have hkt:d.rules.take k=d.rules:=Ar hkl
   rw[hkt] at hb1 hb2 ⊢;generalize sumT szR d.rules=n at *;refine W_T ?_;(with_reducible repeat'(first|(simp(disch:=omega)only[push_cast,↓zz,seval,hPr,hPf])|refine Aa ?_ ?_|(first|refine Ac ?_ ?_|refine Ab ?_ ?_)<;>intro hc<;>(try simp only[push_cast] at hc)|omega|intro _))
   refine B4 (BK (λ(k:Nat)=>k<=d.finals.length) (λk=>d.finals.length-k)
    (λk=>[(1,.ptr 0 1 0 0),(3,.int .i64 (n+sumT szF (d.finals.take k))),(5,.int .i64 k)]) (λk=>[⟨6,1,true,[Dm d]⟩]) (λenv _=>[C0 1 (env 1)]) 0 (by simp) ?_ ?_)
   ·have e0:sumT szF ([]:List Es)=0:=rfl
    (with_reducible repeat'(first|(simp(disch:=omega)only[push_cast,↓zz,seval,hPr,hPf,e0,Int.add_zero])|refine Aa ?_ ?_|(first|refine Ac ?_ ?_|refine Ab ?_ ?_)<;>intro hc<;>(try simp only[push_cast] at hc)|omega|intro _))
   intro j hj;have hb3:=Hk sF (d.finals.take j);have hb4:((d.finals.take j).length:Int) * 2000000<=80 * 2000000:=Ci (by simp;omega) (by omega);rcases An j d.finals.length with hjl|hjl
   ·have hst:=R3 (f:=szF) hjl
    have hx:=sF (nth d.finals j);have hS:=Qh (nth d.finals j).guards (nth d.finals j).out;have hsz:IY (nth d.finals j).guards (nth d.finals j).out=szF (nth d.finals j):=rfl;rw[hsz] at hS;generalize hge:nth d.finals j=f at *;generalize sumT szF (d.finals.take j)=m at *;have hw:IntKind.i64.wrap (n+m+szF f)=n+m+szF f:=IntWalk.i64_in _ (by omega);have hpg:=AL f.guards;have hpt:=B5 f.out;refine W_T ?_;(with_reducible repeat'(first|(simp(disch:=omega)only[push_cast,↓zz,seval,hPr,hPf,hge,hw,hpg,hpt])|refine Aa ?_ ?_|(first|refine Ac ?_ ?_|refine Ab ?_ ?_)<;>intro hc<;>(try simp only[push_cast] at hc)|refine eK hS ?_|refine eQ hS ?_|refine eG hS ?_|((first|refine cK hS ?_|refine cQ hS ?_|refine cG hS ?_);(simp(disch:=omega)only[push_cast,↓zz,seval,hPr,hPf,hge,hw,hpg,hpt]);(fail_if_success change False))|omega|intro _))
    all_goals
     refine⟨j+1,?_⟩;(with_reducible repeat'(first|(simp(disch:=omega)only[push_cast,↓zz,seval,hst])|refine Aa ?_ ?_|(first|refine Ac ?_ ?_|refine Ab ?_ ?_)<;>intro hc<;>(try simp only[push_cast] at hc)|omega|intro _))
    all_goals first
     |omega
     |trace_state
   ·have hjt:d.finals.take j=d.finals:=Ar hjl
    rw[hjt];refine W_T ?_;(with_reducible repeat'(first|(simp(disch:=omega)only[push_cast,↓zz,seval,hPr,hPf])|refine Aa ?_ ?_|(first|refine Ac ?_ ?_|refine Ab ?_ ?_)<;>intro hc<;>(try simp only[push_cast] at hc)|omega|intro _))
 ·rw[Mv,By hb,AA]
  (with_reducible repeat'(first|(simp(disch:=omega)only[push_cast,↓zz,seval])|refine Aa ?_ ?_|(first|refine Ac ?_ ?_|refine Ab ?_ ?_)<;>intro hc<;>(try simp only[push_cast] at hc)|omega|intro _))
  all_goals trace_state
theorem Qi{gs:List (List Span)}{out:List Term}(h:IY gs out<=1500):∀t∈out,t.parts.length<4000:=by
 unfold IY at h;split at h
 ·omega
 ·intro t ht
  have h1:=JQ (λt=>(X4 t).1) ht;have h2:=(Hk X3 gs).1;have h3:szT t=1+min (t.parts.length:Int) 4000:=rfl;omega
theorem z56{d:Desc}(h:Mv d=true):GB d:=by
 simp only[Mv,Ad,Aj] at h;have sR:∀r,0<=szR r/\szR r<=2000000:=λr=>LM _ _;have sF:∀f,0<=szF f/\szF f<=2000000:=λr=>LM _ _;have a1:=(Hk sR d.rules).1;have a2:=(Hk sF d.finals).1;refine⟨λr hr t ht=>?_,λf hf t ht=>?_⟩
 ·have h1:=JQ (λr=>(sR r).1) hr
  have h2:szR r=IY r.guards r.out:=rfl;have:=Qi (gs:=r.guards) (out:=r.out) (by omega) t ht;omega
 ·have h1:=JQ (λr=>(sF r).1) hf
  have h2:szF f=IY f.guards f.out:=rfl;have:=Qi (gs:=f.guards) (out:=f.out) (by omega) t ht;omega
structure z57(d:Desc):Prop where
 fin:GB d
 rg:∀r∈d.rules,r.guards.length<=9223372036854775807
 fg:∀f∈d.finals,f.guards.length<=9223372036854775807
structure Hold(p:Prop):Prop where
 get:p
set_option maxRecDepth 100000
abbrev pathV(p:List Nat):AV:=.lst 1 (p.map e1)
def resV:Option (List Nat)->AV
 |some x=>pathV x
 |none=>.nilS
set_option maxRecDepth 100000
theorem X5(B:Int):∀(l:List Rule)(a:Int),l.foldl lonF a<=B↔a<=B/\∀r∈l,(r.out.length:Int)<=B
 |[],a=>by simp
 |r::l,a=>by
  rw[List.foldl_cons,X5 B l];rw[show lonF a r<=B↔a<=B/\(r.out.length:Int)<=B by simp only[lonF];omega,and_assoc];simp only[Ag,C8]
theorem X6(B:Int):∀(l:List Es)(a:Int),l.foldl lonG a<=B↔a<=B/\∀r∈l,(r.out.length:Int)<=B
 |[],a=>by simp
 |r::l,a=>by
  rw[List.foldl_cons,X6 B l];rw[show lonG a r<=B↔a<=B/\(r.out.length:Int)<=B by simp only[lonG];omega,and_assoc];simp only[Ag,C8]
def Few(R:List Rule)(F:List Es):Prop:=(∀r∈R,(r.out.length:Int)<=64)/\∀r∈F,(r.out.length:Int)<=64
theorem X7(d:Desc):On d<=64↔Few d.rules d.finals:=by
 rw[On,X6,X5,Few];constructor
 ·exact λh=>⟨h.1.2,h.2⟩
 ·exact λh=>⟨⟨by omega,h.1⟩,h.2⟩
theorem z58{s x:Int}(h:memL (domL s) x):HA s [[⟨x,x⟩]]=true:=by
 have hb:=(zar s).2 x h
 have hm:Ju [⟨x,x⟩] (domL s)=[]:=(Ov (λv hv=>by obtain⟨t,ht,h1,h2⟩:=hv;simp only[As] at ht;subst ht;simp only at h1 h2;omega) (λt ht=>by simp only[As] at ht;subst ht;simp)).2 λv hv=>by
  obtain⟨t,ht,h1,h2⟩:=hv;simp only[As] at ht;subst ht;simp only at h1 h2;have:v=x:=by omega
  rw[this];exact h
 have hc:Oh (-1073741826) [⟨x,x⟩]=true:=by simp[Oh];omega
 simp[HA,PO,hm,Xg,hc]
theorem Li{α:Type}[DecidableEq α][Inhabited α]{l m:List α}{k:Nat}(h1:k<l.length)(h2:k<m.length):decide (l.drop k=m.drop k)=(decide (nth l k=nth m k)&&decide (l.drop (k+1)=m.drop (k+1))):=by
 rw[drop_at h1,drop_at h2];simp
structure zcu(gs:List (List Span))(out:List Term):Prop where
 g:gs.length<=1000000000000
 gl:∀l∈gs,l.length<=1000000000000
 o:out.length<=1000000000000
 ol:∀t∈out,t.parts.length<=1000000000000
structure zlp(d:Desc):Prop where
 r:d.rules.length<=1000000000000
 rs:∀r∈d.rules,zcu r.guards r.out
 f:d.finals.length<=1000000000000
 fs:∀f∈d.finals,zcu f.guards f.out
end Go.Proofs.YtbcjoeadpjfcfaaGreat
namespace Go.Proofs.YtbcjoeadpjfcfaaGreat
open Abs
theorem O5{gs:List (List Span)}{out:List Term}(h:IY gs out<=1500):gs.length<=100:=by
 unfold IY at h;split at h
 ·omega
 ·omega
theorem Vo{d:Desc}(h:Mv d=true):z57 d:=by
 refine⟨z56 h,?_,?_⟩
 all_goals
  simp only[Mv,Ad,Aj] at h;have sR:∀r,0<=szR r/\szR r<=2000000:=λr=>LM _ _;have sF:∀f,0<=szF f/\szF f<=2000000:=λr=>LM _ _;have a1:=(Hk sR d.rules).1;have a2:=(Hk sF d.finals).1
 ·intro r hr
  have h1:=JQ (λr=>(sR r).1) hr;have h2:szR r=IY r.guards r.out:=rfl;have:=O5 (gs:=r.guards) (out:=r.out) (by omega);omega
 ·intro f hf
  have h1:=JQ (λr=>(sF r).1) hf;have h2:szF f=IY f.guards f.out:=rfl;have:=O5 (gs:=f.guards) (out:=f.out) (by omega);omega
end Go.Proofs.YtbcjoeadpjfcfaaGreat
namespace Go.Proofs.YtbcjoeadpjfcfaaGreat
open Abs
section
variable {d:Desc}
end
structure Trimmed(c:Desc):Prop where
 check:Ew c=0
 again:trimV c=c
 all:((zlh c).length=c.states.toNat/\(goesI c).length=c.states.toNat)\/(c.states=1/\c.rules=[]/\c.finals=[])
theorem TG{u v:Nat->Bool}:∀{n:Nat},(∀i,i<n->u i=v i)->cntB u n=cntB v n
 |0,_=>rfl
 |n+1,h=>by rw[Lf,Lf,h n (by omega),TG λi hi=>h i (by omega)]
theorem X8{on:Nat->Bool}{s:Nat}(ho:on s=false):∀{n:Nat},s<n->cntB (setB on s) n=cntB on n+1
 |n+1,h=>by
  rw[Lf,Lf];by_cases hs:s=n
  ·subst hs
   rw[Ai (by simp[setB]),Ah (by simp[ho]),TG (u:=setB on s) (v:=on) λi hi=>by simp[setB];omega]
  ·have:=X8 ho (n:=n) (by omega)
   have e:setB on s n=on n:=by simp[setB];omega
   rw[e];split<;>omega
structure RInv(n:Nat)(F:List Int)(E:List (Int × Int))(on:Nat->Bool):Prop where
 sound:∀i:Nat,on i=true->Reach E F i
 base:∀s∈F,on s.toNat=true
theorem RInv.set{n:Nat}{F:List Int}{E:List (Int × Int)}{on:Nat->Bool}(h:RInv n F E on){x y:Nat}(hx:on x=true)(he:((x:Int),(y:Int))∈E):RInv n F E (setB on y) where
 sound i hi:=by
  unfold setB at hi;split at hi
  ·rename_i e;subst e;exact .step (h.sound x hx) he
  ·exact h.sound i hi
 base s hs:=by
  unfold setB;split
  ·rfl
  ·exact h.base s hs
structure RIn(n:Nat)(F:List Int)(E:List (Int × Int))(on0 on:Nat->Bool)(more:Bool)(i:Nat):Prop where
 inv:RInv n F E on
 no:more=false->on=on0/\∀j,j<i->on (nth E j).1.toNat=true->on (nth E j).2.toNat=true
 yes:more=true->cntB on0 n<cntB on n
theorem RIn.start{n:Nat}{F:List Int}{E:List (Int × Int)}{on:Nat->Bool}(h:RInv n F E on):RIn n F E on on false 0 :=
 ⟨h,λ_=>⟨rfl,λj hj=>absurd hj (Bh j)⟩,λh=>by cases h⟩
theorem RIn.skip{n i:Nat}{F:List Int}{E:List (Int × Int)}{on0 on:Nat->Bool}{more:Bool}(h:RIn n F E on0 on more i){x y:Nat}(he:nth E i=((x:Int),(y:Int)))(hs:on x=true->on y=true):RIn n F E on0 on more (i+1):=by
 refine⟨h.inv,λhm=>⟨(h.no hm).1,λj hj=>?_⟩,h.yes⟩;by_cases e:j=i
 ·subst e;rw[he];simpa using hs
 ·exact (h.no hm).2 j (by omega)
theorem RIn.take{n i:Nat}{F:List Int}{E:List (Int × Int)}{on0 on:Nat->Bool}{more:Bool}(h:RIn n F E on0 on more i){x y:Nat}(he:((x:Int),(y:Int))∈E)(hx:on x=true)(hy:on y=false)(hyn:y<n):RIn n F E on0 (setB on y) true (i+1):=by
 refine⟨h.inv.set hx he,λhm=>(by cases hm),λ_=>?_⟩;have h1:=X8 hy hyn;cases more with
 |true=>have:=h.yes rfl;omega
 |false=>have:=(h.no rfl).1;subst this;omega
theorem RIn.done{n:Nat}{F:List Int}{E:List (Int × Int)}{on0 on:Nat->Bool}(h:RIn n F E on0 on false E.length):∀e∈E,on e.1.toNat=true->on e.2.toNat=true:=λe he=>by
 obtain⟨j,hj,rfl⟩:=Bw he;have:=(h.no rfl).2 j hj;have e:nth E j=E[j]:=by simp[nth,List.getD,hj]
 rwa [e] at this
end Go.Proofs.YtbcjoeadpjfcfaaGreat
namespace Go.Proofs.YtbcjoeadpjfcfaaGreat
open Abs
end Go.Proofs.YtbcjoeadpjfcfaaGreat
namespace Go.Proofs.YtbcjoeadpjfcfaaGreat
open Abs
theorem TH{d:Desc}(h:Ew d=0):GB d:=by
 obtain⟨h1,h2,h3⟩:=Gf h;refine⟨λr hr t ht=>?_,λf hf t ht=>?_⟩
 ·have:=h2 r hr
  simp only[Hq,Ad] at this;have:=(FX this.2.2.2.2).2 t ht;omega
 ·have:=h3 f hf
  simp only[GA,Ad] at this;have:=(FX this.2.2).2 t ht;omega
end Go.Proofs.YtbcjoeadpjfcfaaGreat
set_option maxRecDepth 100000
namespace Go.Proofs.YtbcjoeadpjfcfaaGreat
open Abs
theorem zll{d:Desc}(h:Ew d=0):¬cycP d.rules d.states.toNat:=λhc=>by
 obtain⟨h1,h2,h3⟩:=Gf h
 have h0:(HU d).1=0:=by
  unfold Ew at h;split at h
  ·assumption
  ·omega
 rw[HU,Ah (by simp[h1]),KY h2] at h0;simp only at h0;rw[KY h3] at h0;simp only at h0;rw[Ai hc] at h0;simp at h0
theorem wf_n{d:Desc}(h:Ew d=0):∃n:Nat,d.states=n/\1<=n/\n<=1024/\¬cycP d.rules n/\∀r∈d.rules,(0<=r.from_/\r.from_<n)/\0<=r.to_/\r.to_<n:=by
 have hw:=O2 h;obtain⟨n,hn,h1,h2⟩:=hw.n;refine⟨n,hn,h1,h2,?_,λr hr=>by have:=hw.r r hr;rw[hn] at this;exact this⟩;have:=zll h
 rwa [hn,Int.toNat_natCast] at this
def conT(x:Int):Term:=⟨0,0,21,0,x,[]⟩
theorem TJ{x:Int}(hx:0<=x/\x<=1114111){w:List Int}(hw:w.all symB=true):EU (conT x) w=some x:=by
 have ho:(conT x).outer=⟨0,0,21,0⟩:=rfl;obtain⟨_,h1,h2⟩:=z2p (p:=⟨0,0,21,0⟩) (x:=x) (by decide) (by omega);have h3:valB ⟨0,0,21,0⟩ x=true:=h1;rw[EU,Ai hw];simp only[conT,sumP];show (if valB (conT x).outer x&&decide (x<=1114111) then some (IntKind.i64.wrap (0+valP (conT x).outer x)) else none)=some x;rw[ho,h1,h2,Ba hx.2,Int.zero_add,IntWalk.i64_in _ (by omega)];rfl
theorem X9{gs:List (List Span)}:∀{w:List Int},Win (gs.map symI) w->w.all symB=true:=by
 induction gs with
 |nil=>intro w hw;rw[z4q.1 hw];rfl
 |cons g gs ih =>
  intro w hw;obtain⟨x,r,rfl,h1,h2⟩:=win_cons.1 hw;have hm:=((Ob g).2 x).1 h1;rw[List.all_cons,ih h2,Fl,symB];exact Ba hm.1
theorem MN{x:Int}{i o:Int}{gs:List (List Span)}(h4:gs.length<=4)(hr:I0 (conT x) i o gs.length=true)(hx:0<=x/\x<=1114111)(ho:Hj o x=true):KV (conT x) i o gs=true:=by
 refine (KX h4).2 ⟨hr,λw hw=>?_⟩;rw[fitW,TJ hx (X9 hw)];simp[hx,ho]
def exE:Desc:=⟨1,1,2,0,[⟨0,1,[],0,[conT 120]⟩,⟨1,1,[[⟨97,97⟩]],1,[conT 121]⟩],[⟨1,[],[]⟩]⟩
theorem O6:Ew exE=0:=by
 refine (Ky (by decide) (λr hr=>?_) (λf hf=>?_) ?_).2
 ·simp only[exE,Ag,Am,A5] at hr
  rcases hr with rfl|rfl
  ·simp only[Hq,G9,Ad,List.all_cons,List.all_nil]
   exact⟨by decide,by decide,by decide,by decide,by decide,MN (by decide) (by decide) (by decide) (by decide),trivial⟩
  ·simp only[Hq,G9,Ad,List.all_cons,List.all_nil]
   exact⟨by decide,by decide,z58 (Rr.2 (by decide)),by decide,by decide,MN (by decide) (by decide) (by decide) (by decide),trivial⟩
 ·simp only[exE,As] at hf
  subst hf;decide
 ·rintro⟨C,hC,j,hj⟩
  have h0:¬C 0:=λh=>by
   obtain⟨_,r,hr,he,ht,_⟩:=hC 0 h;simp only[exE,Ag,Am,A5] at hr;rcases hr with rfl|rfl<;>simp at ht
  obtain⟨_,r,hr,he,_,hf⟩:=hC j hj;simp only[exE,Ag,Am,A5] at hr;rcases hr with rfl|rfl
  ·exact h0 hf
  ·simp[Cy] at he
theorem z59:GB exE:=by
 refine⟨λr hr t ht=>?_,λf hf t ht=>?_⟩
 ·simp only[exE,Ag,Am,A5] at hr
  rcases hr with rfl|rfl
  ·simp only[As] at ht;subst ht;decide
  ·simp only[As] at ht;subst ht;decide
 ·simp only[exE,As] at hf
  subst hf;cases ht
theorem z5a:cumW exE.rules 2 2=3:=by rfl
theorem XA:Ey exE 2=⟨1,1,2,0,[⟨0,1,[[⟨97,97⟩]],1,[conT 120,conT 121]⟩,⟨1,1,[[⟨97,97⟩]],1,[conT 121]⟩],[⟨0,[],[conT 120]⟩,⟨1,[],[]⟩]⟩:=by rfl
theorem Z5:HD exE 2=true:=by
 rw[HD,z5a,XA];rfl
abbrev exEV:AV:=.agg [.int .i64 1,.int .i64 1,.int .i64 2,.int .i64 0,.lst 5 [.agg [.int .i64 0,.int .i64 1,.nilS,.int .i64 0,.lst 6 [.agg [.int .i64 0,.int .i64 0,.int .i64 21,.int .i64 0,.int .i64 120,.nilS]]],.agg [.int .i64 1,.int .i64 1,Bs [[⟨97,97⟩]],.int .i64 1,.lst 6 [.agg [.int .i64 0,.int .i64 0,.int .i64 21,.int .i64 0,.int .i64 121,.nilS]]]],.lst 3 [.agg [.int .i64 1,.nilS,.nilS]]]
theorem Vp(x:Int):AV.le (.lst 6 [.agg [.int .i64 0,.int .i64 0,.int .i64 21,.int .i64 0,.int .i64 x,.nilS]]) (C9 [conT x]) :=
 AV.le_lst rfl (B5 _) (Bp (AV.le_agg (Bp (AV.le_refl _) (Bp (AV.le_refl _) (Bp (AV.le_refl _) (Bp (AV.le_refl _) (Bp (AV.le_refl _) (Bp (AV.le_nilS (by decide)) E1))))))) E1)
theorem z5b:AV.le exEV (Dm exE):=by
 refine AV.le_agg (Bp (AV.le_refl _) (Bp (AV.le_refl _) (Bp (AV.le_refl _) (Bp (AV.le_refl _) (Bp (AV.le_lst rfl (B8 _) ?_) (Bp (AV.le_lst rfl (B6 _) ?_) E1))))))
 ·refine Bp (AV.le_agg (Bp (AV.le_refl _) (Bp (AV.le_refl _) (Bp (AV.le_nilS (by decide)) (Bp (AV.le_refl _) (Bp (Vp 120) E1)))))) (Bp (AV.le_agg (Bp (AV.le_refl _) (Bp (AV.le_refl _) (Bp (AV.le_refl _) (Bp (AV.le_refl _) (Bp (Vp 121) E1)))))) E1)
 ·exact Bp (AV.le_agg (Bp (AV.le_refl _) (Bp (AV.le_nilS (by decide)) (Bp (AV.le_nilS (by decide)) E1)))) E1
theorem O7:PC Tryz.prog 16 [] (.bool true):=by
 obtain⟨n,hn,h1,h2,hc,_⟩:=wf_n O6
 obtain rfl:n=2:=by
  have:(2:Int)=n:=hn;omega
 have hF:=R2 exE z59 O6 hn hc;have hW:=Xw exE z59 O6 hn hc;rw[Ai Z5,XA] at hF;rw[z5a,Ai (by decide)] at hW;have hF:=Jg hF (Bp z5b E1);have hW:=Jg hW (Bp z5b E1);refine z4r QF ?_;unfold KD;refine Q8 (W_T ?_);(with_reducible repeat'(first|(simp(disch:=omega)only[push_cast,↓zz,seval])|refine Aa ?_ ?_|(first|refine Ac ?_ ?_|refine Ab ?_ ?_)<;>intro hc<;>(try simp only[push_cast] at hc)|omega|intro _));refine Q8 (W_T ?_);(with_reducible repeat'(first|(simp(disch:=omega)only[push_cast,↓zz,seval])|refine Aa ?_ ?_|(first|refine Ac ?_ ?_|refine Ab ?_ ?_)<;>intro hc<;>(try simp only[push_cast] at hc)|omega|intro _));refine Q8 (W_T ?_);(with_reducible repeat'(first|(simp(disch:=omega)only[push_cast,↓zz,seval])|refine Aa ?_ ?_|(first|refine Ac ?_ ?_|refine Ab ?_ ?_)<;>intro hc<;>(try simp only[push_cast] at hc)|omega|intro _));refine Jr (PD (l':=[⟨0,2,false,[]⟩,⟨0,2,false,[]⟩,⟨0,2,false,[]⟩,⟨0,2,false,[]⟩,⟨0,2,false,[]⟩,⟨0,2,false,[]⟩,⟨6,1,true,[exEV]⟩]) (g:=6) (d:=8) [0,1,2,3,4,5] (by decide) (by simp) rfl (by decide) ?_ ?_) (W_T ?_)
 ·(simp(disch:=omega)only[push_cast,↓zz,seval])
 ·rfl
 (with_reducible repeat'(first|(simp(disch:=omega)only[push_cast,↓zz,seval,conT])|refine Aa ?_ ?_|(first|refine Ac ?_ ?_|refine Ab ?_ ?_)<;>intro hc<;>(try simp only[push_cast] at hc)|refine eK hF ?_|refine eQ hF ?_|refine eK hW ?_|refine eQ hW ?_|omega|intro _))
 all_goals trace_state
theorem XB{t:Term}{i o:Int}(h:KV t i o []=true){gs:List (List Span)}(h4:gs.length<=4):KV t i o gs=true:=by
 obtain⟨h1,h2⟩:=(KX (by simp)).1 h
 have hp:t.parts=[]:=by
  simp only[I0,Ad] at h1;have hr:=h1.1.1.2;cases hpe:t.parts with
  |nil=>rfl
  |cons p l =>
   exfalso;rw[hpe] at hr;simp only[GP,List.all_cons,Ad] at hr;have:=AU (p:=p) (n:=(([]:List (List Span)).length:Int)) (by first|exact hr.1|exact hr.1.1|simp_all);simp at this;omega
 have hw0:=h2 [] (z4q.2 rfl);refine (KX h4).2 ⟨?_,λw hw=>?_⟩
 ·simp only[I0,hp,Ad] at h1 ⊢
  exact⟨⟨⟨h1.1.1.1,rfl⟩,h1.1.2⟩,h1.2⟩
 ·have e:EU t w=EU t []:=by
   rw[EU,EU,Ai (X9 hw),Ai (show ([]:List Int).all symB=true from rfl),hp];rfl
  rw[fitW,e];exact hw0
theorem XC{l:List Rule}{P:Term->Prop}(hB:∀r∈l,Cy r=true->∀t∈r.out,P t):∀{s:Int}{p:List Nat},okP l s p->∀t∈outP l p,P t
 |s,[],_,t,ht=>by simp[outP] at ht
 |s,i::p,h,t,ht=>by
  simp only[outP,BJ,Au] at ht;obtain⟨h1,h2,_⟩:=FJ.1 h.1;rcases ht with ht|ht
  ·exact hB _ (B2 h1) h2 t ht
  ·exact XC hB (s:=(nth l i).to_) (p:=p) h.2 t ht
theorem Vq{r:Rule}(h:Cy r=true):r.guards=[]:=by
 simp only[Cy,Aj] at h;exact Az (by omega)
theorem Lj{d:Desc}{n:Nat}(h:Ew d=0)(hl:∀r∈d.rules,(0<=r.from_/\r.from_<n)/\0<=r.to_/\r.to_<n)(hcyc:¬cycP d.rules n){s:Nat}{w:Int × List Term}(hw:w∈wayL d.rules n s []):∀t∈w.2,KV t d.in_ d.out []=true:=by
 obtain⟨p,hp,rfl⟩:=Aq.1 hw;obtain⟨h1,h2⟩:=MK hl hcyc (show (0:Int)<=s by omega) hp;obtain⟨_,hrules,_⟩:=Gf h;simp only[List.nil_append];refine XC (λr hr he t ht=>?_) h2;have:=hrules r hr;simp only[Hq,G9,Ad] at this;have h3:=AO.1 this.2.2.2.2.2 t ht
 rwa [Vq he] at h3
theorem Lk{d:Desc}{n:Nat}{r:Rule}(h:r∈(Ey d n).rules):∃i:Nat,i<n/\∃w∈wayL d.rules n i [],∃r0∈d.rules,Cy r0=false/\r0.from_=w.1.toNat/\r=HE i w r0:=by
 obtain⟨i,hi,w,hw,hr⟩:=MM h;rw[X0] at hr;obtain⟨r0,hr0,rfl⟩:=Aq.1 hr;have:=(AX.1 hr0);simp only[Ad,Aj,CC] at this;exact⟨i,hi,w,hw,r0,this.1,this.2.1,this.2.2,rfl⟩
theorem Qj{d:Desc}{n:Nat}{r:Es}(h:r∈(Ey d n).finals):∃i:Nat,i<n/\∃w∈wayL d.rules n i [],∃r0∈d.finals,r0.from_=w.1.toNat/\r=If i w r0:=by
 obtain⟨i,hi,w,hw,hr⟩:=MM h;rw[z54] at hr;obtain⟨r0,hr0,rfl⟩:=Aq.1 hr;have:=(AX.1 hr0);simp only[Ad,Aj] at this;exact⟨i,hi,w,hw,r0,this.1,this.2.2,rfl⟩
theorem Qk{d:Desc}{n:Nat}{r:Rule}(h:r∈(Ey d n).rules):Cy r=false:=by
 obtain⟨i,_,w,_,r0,_,he,_,rfl⟩:=Lk h;exact he
theorem z5c{l:List Rule}{n:Nat}(h:∀r∈l,Cy r=false):¬cycP l n:=by
 rintro⟨C,hC,j,hj⟩;obtain⟨_,r,hr,he,_⟩:=hC j hj;rw[h r hr] at he;cases he
theorem LN{d:Desc}(h:Ew d=0){n:Nat}(hn:d.states=n)(hc:¬cycP d.rules n)(hl:∀r∈d.rules,(0<=r.from_/\r.from_<n)/\0<=r.to_/\r.to_<n)(hok:HD d n=true):Ew (Ey d n)=0:=by
 obtain⟨hhead,hrules,hfinals⟩:=Gf h;simp only[HD,Ad,Aj,X7] at hok;obtain⟨_,⟨h1,h2⟩,hfR,hfF⟩:=hok;have hwf:=λ(s:Nat) w (hw:w∈wayL d.rules n s [])=>Lj h hl hc hw;refine (Ky ?_ (λr hr=>?_) (λr hr=>?_) (z5c λr hr=>Qk hr)).2
 ·simp only[OT,Ad,Aj] at hhead ⊢
  obtain⟨a1,a2,a3,a4,a5,_,_⟩:=hhead;exact⟨a1,a2,a3,a4,a5,by omega,by omega⟩
 ·have h64:=hfR r hr
  obtain⟨i,hi,w,hw,r0,hr0,he,hfrom,rfl⟩:=Lk hr;have hb:=hrules r0 hr0;have hg4:=(Lh hb).2.2.1;simp only[Hq,G9,Ad,Aj] at hb ⊢;obtain⟨b1,b2,b3,b4,b5,b6⟩:=hb;refine⟨?_,b2,b3,b4,h64,AO.2 λt ht=>?_⟩
  ·have e:(Ey d n).states=n:=hn
   have e2:(HE i w r0).from_=i:=rfl;simp only[I1,Ad,Aj,e,e2];omega
  ·rcases Au.1 ht with ht|ht
   ·exact XB (hwf i w hw t ht) hg4
   ·exact AO.1 b6 t ht
 ·have h64:=hfF r hr
  obtain⟨i,hi,w,hw,r0,hr0,hfrom,rfl⟩:=Qj hr;have hb:=hfinals r0 hr0;have hg4:=(TF hb).2.2.1;simp only[GA,G9,Ad,Aj] at hb ⊢;obtain⟨b1,b2,b3,b4⟩:=hb;refine⟨?_,b2,h64,AO.2 λt ht=>?_⟩
  ·have e:(Ey d n).states=n:=hn
   have e2:(If i w r0).from_=i:=rfl;simp only[I1,Ad,Aj,e,e2];omega
  ·rcases Au.1 ht with ht|ht
   ·exact XB (hwf i w hw t ht) hg4
   ·exact AO.1 b4 t ht
theorem zha(s x:Int)(hx:-2147483648<=x/\x<=2147483647):PC Tryz.prog 133 [.int .i64 s,.int .i32 x] (.bool (Hj s x)):=by
 refine BV z2b ?_;unfold SA;(with_reducible repeat'(first|(simp(disch:=omega)only[push_cast,↓zz,seval])|refine Aa ?_ ?_|(first|refine Ac ?_ ?_|refine Ab ?_ ?_)<;>intro hc<;>(try simp only[push_cast] at hc)|omega|intro _))
 all_goals first
  |(unfold Hj;first|(refine Wg ?_;omega)|(refine Wh ?_;omega)|(refine Ni ?_;omega))
  |(rw[eq_comm];(unfold Hj;first|(refine Wg ?_;omega)|(refine Wh ?_;omega)|(refine Ni ?_;omega)))
  |trace_state
theorem z5d(s:Int)(l:List Int)(hl:l.length<=1000000000000)(h32:∀x∈l,-2147483648<=x/\x<=2147483647):PC Tryz.prog 100 [.int .i64 s,Bf l] (.bool (l.all (Hj s))):=by
 have pI:AT (l.map (AV.int .i32))=true:=Cv .i32 _;refine BV U2 ?_;unfold N0;(with_reducible repeat'(first|(simp(disch:=omega)only[push_cast,↓zz,seval,pI])|refine Aa ?_ ?_|(first|refine Ac ?_ ?_|refine Ab ?_ ?_)<;>intro hc<;>(try simp only[push_cast] at hc)|omega|intro _))
 refine B4 (BK (λ(k:Nat)=>k<=l.length/\l.all (Hj s)=(l.drop k).all (Hj s)) (λk=>l.length-k)
  (λk=>[(0,.int .i64 s),(7,Bf l),(8,.int .i64 l.length),(9,.int .i64 k)]) (λ_=>[]) (λ_ _=>[]) 0 (by simp) ?_ ?_)
 ·(with_reducible repeat'(first|(simp(disch:=omega)only[push_cast,↓zz,seval,pI])|refine Aa ?_ ?_|(first|refine Ac ?_ ?_|refine Ab ?_ ?_)<;>intro hc<;>(try simp only[push_cast] at hc)|omega|intro _))
 rintro k ⟨hk,hr⟩;rcases An k l.length with hkl|hkl
 ·have hI:=zha s (nth l k) (h32 _ (B2 hkl))
  rw[drop_at hkl,List.all_cons] at hr;generalize Hj s (nth l k)=b at *;cases b with
  |true =>
   refine W_T ?_;(with_reducible repeat'(first|(simp(disch:=omega)only[push_cast,↓zz,seval,pI])|refine Aa ?_ ?_|(first|refine Ac ?_ ?_|refine Ab ?_ ?_)<;>intro hc<;>(try simp only[push_cast] at hc)|refine eK hI ?_|refine eQ hI ?_|refine eG hI ?_|((first|refine cK hI ?_|refine cQ hI ?_|refine cG hI ?_);(simp(disch:=omega)only[push_cast,↓zz,seval,pI]);(fail_if_success change False))|omega|intro _))
   all_goals
    refine⟨k+1,?_⟩;(with_reducible repeat'(first|(simp(disch:=omega)only[push_cast,↓zz,seval])|refine Aa ?_ ?_|(first|refine Ac ?_ ?_|refine Ab ?_ ?_)<;>intro hc<;>(try simp only[push_cast] at hc)|omega|intro _));simpa using hr
  |false =>
   refine W_T ?_;(with_reducible repeat'(first|(simp(disch:=omega)only[push_cast,↓zz,seval,pI])|refine Aa ?_ ?_|(first|refine Ac ?_ ?_|refine Ab ?_ ?_)<;>intro hc<;>(try simp only[push_cast] at hc)|refine eK hI ?_|refine eQ hI ?_|refine eG hI ?_|((first|refine cK hI ?_|refine cQ hI ?_|refine cG hI ?_);(simp(disch:=omega)only[push_cast,↓zz,seval,pI]);(fail_if_success change False))|omega|intro _))
   all_goals (rw[hr];rfl)
 ·rw[A6 hkl] at hr
  refine W_T ?_;(with_reducible repeat'(first|(simp(disch:=omega)only[push_cast,↓zz,seval,pI])|refine Aa ?_ ?_|(first|refine Ac ?_ ?_|refine Ab ?_ ?_)<;>intro hc<;>(try simp only[push_cast] at hc)|omega|intro _))
  all_goals (rw[hr];rfl)
theorem Ql(a b:List Int)(hl:a.length<=1000000000000):PC Tryz.prog 32 [Bf a,Bf b] (.bool (decide (a=b))):=by
 refine BV Su ?_;unfold LW;(with_reducible repeat'(first|(simp(disch:=omega)only[push_cast,↓zz,seval])|refine Aa ?_ ?_|(first|refine Ac ?_ ?_|refine Ab ?_ ?_)<;>intro hc<;>(try simp only[push_cast] at hc)|omega|intro _))
 ·have:a≠b:=by intro h;subst h;first|omega|simp_all
  simp[this]
 refine B4 (BK (λ(k:Nat)=>k<=a.length/\decide (a=b)=decide (a.drop k=b.drop k)) (λk=>a.length-k)
  (λk=>[(0,Bf a),(1,Bf b),(5,.int .i64 k)]) (λs=>[]) (λenv _=>[]) 0 (by simp) ?_ ?_)
 ·(with_reducible repeat'(first|(simp(disch:=omega)only[push_cast,↓zz,seval])|refine Aa ?_ ?_|(first|refine Ac ?_ ?_|refine Ab ?_ ?_)<;>intro hc<;>(try simp only[push_cast] at hc)|omega|intro _))
 rintro k ⟨hk,hr⟩;refine W_T ?_;(with_reducible repeat'(first|(simp(disch:=omega)only[push_cast,↓zz,seval])|refine Aa ?_ ?_|(first|refine Ac ?_ ?_|refine Ab ?_ ?_)<;>intro hc<;>(try simp only[push_cast] at hc)|omega|intro _))
 all_goals first
  |(rw[hr,A6 (by omega),A6 (by omega)];simp;done)
  |(rw[hr,Li (by omega) (by omega)];simp_all;done)
  |(refine⟨k+1,?_⟩
    (with_reducible repeat'(first|(simp(disch:=omega)only[push_cast,↓zz,seval])|refine Aa ?_ ?_|(first|refine Ac ?_ ?_|refine Ab ?_ ?_)<;>intro hc<;>(try simp only[push_cast] at hc)|omega|intro _))
    rw[hr,Li (by omega) (by omega)];simp_all;done)
  |trace_state
theorem HH(a b:List (List Int))(hl:a.length<=1000000000000)(ha:∀l∈a,l.length<=1000000000000):PC Tryz.prog 28 [Hl a,Hl b] (.bool (decide (a=b))):=by
 refine BV Ly ?_;unfold Ip;(with_reducible repeat'(first|(simp(disch:=omega)only[push_cast,↓zz,seval])|refine Aa ?_ ?_|(first|refine Ac ?_ ?_|refine Ab ?_ ?_)<;>intro hc<;>(try simp only[push_cast] at hc)|omega|intro _))
 ·have:a≠b:=by intro h;subst h;first|omega|simp_all
  simp[this]
 refine B4 (BK (λ(k:Nat)=>k<=a.length/\decide (a=b)=decide (a.drop k=b.drop k)) (λk=>a.length-k)
  (λk=>[(0,Hl a),(1,Hl b),(5,.int .i64 k)]) (λs=>[]) (λenv _=>[]) 0 (by simp) ?_ ?_)
 ·(with_reducible repeat'(first|(simp(disch:=omega)only[push_cast,↓zz,seval])|refine Aa ?_ ?_|(first|refine Ac ?_ ?_|refine Ab ?_ ?_)<;>intro hc<;>(try simp only[push_cast] at hc)|omega|intro _))
 rintro k ⟨hk,hr⟩;refine W_T ?_;(with_reducible repeat'(first|(simp(disch:=omega)only[push_cast,↓zz,seval])|refine Aa ?_ ?_|(first|refine Ac ?_ ?_|refine Ab ?_ ?_)<;>intro hc<;>(try simp only[push_cast] at hc)|(have q_:=Ql (nth a k) (nth b k) (ha _ (B2 (by omega)));(first|refine eK q_ ?_|refine eQ q_ ?_|refine eG q_ ?_);clear q_)|(have q_:=Ql (nth a k) (nth b k) (ha _ (B2 (by omega)));(first|refine cK q_ ?_|refine cQ q_ ?_|refine cG q_ ?_);clear q_;(simp(disch:=omega)only[push_cast,↓zz,seval]);(fail_if_success change False))|omega|intro _))
 all_goals first
  |(rw[hr,A6 (by omega),A6 (by omega)];simp;done)
  |(rw[hr,Li (by omega) (by omega)];simp_all;done)
  |(refine⟨k+1,?_⟩
    (with_reducible repeat'(first|(simp(disch:=omega)only[push_cast,↓zz,seval])|refine Aa ?_ ?_|(first|refine Ac ?_ ?_|refine Ab ?_ ?_)<;>intro hc<;>(try simp only[push_cast] at hc)|omega|intro _))
    rw[hr,Li (by omega) (by omega)];simp_all;done)
  |trace_state
noncomputable def askV (d:Desc) (x:List Int):Int:=if Ew d≠0 then 2 else if 1024<x.length then 4 else if x.all (Hj d.in_)=true then 0 else 1
theorem z5e(d:Desc)(x:List Int)(hf:GB d)(hl:x.length<=9223372036854775807)(h32:∀v∈x,-2147483648<=v/\v<=2147483647):PC Tryz.prog 59 [Dm d,Bf x] (.int .i64 (askV d x)):=by
 have hC:=JP d hf;have hF:=λ(h:¬1024<x.length)=>z5d d.in_ x (by omega) h32;have pR:=B8 d.rules;have pF:=B6 d.finals;have pI:AT (x.map (AV.int .i32))=true:=Cv .i32 _;refine BV Uz ?_;unfold Nw askV;generalize Ew d=k at *;generalize x.all (Hj d.in_)=b at *;by_cases hk:k=0
 ·subst hk
  rw[Ah (by simp)];by_cases hx:1024<x.length
  ·rw[Ai hx]
   (with_reducible repeat'(first|(simp(disch:=omega)only[push_cast,↓zz,seval,pR,pF,pI])|refine Aa ?_ ?_|(first|refine Ac ?_ ?_|refine Ab ?_ ?_)<;>intro hc<;>(try simp only[push_cast] at hc)|refine eK hC ?_|refine eQ hC ?_|refine eG hC ?_|((first|refine cK hC ?_|refine cQ hC ?_|refine cG hC ?_);(simp(disch:=omega)only[push_cast,↓zz,seval,pR,pF,pI]);(fail_if_success change False))|omega|intro _))
  ·rw[Ah hx]
   have hF:=hF hx;cases b with
   |true =>
    rw[Ai rfl];(with_reducible repeat'(first|(simp(disch:=omega)only[push_cast,↓zz,seval,pR,pF,pI])|refine Aa ?_ ?_|(first|refine Ac ?_ ?_|refine Ab ?_ ?_)<;>intro hc<;>(try simp only[push_cast] at hc)|refine eK hC ?_|refine eQ hC ?_|refine eG hC ?_|refine eK hF ?_|refine eQ hF ?_|refine eG hF ?_|((first|refine cK hC ?_|refine cQ hC ?_|refine cG hC ?_|refine cK hF ?_|refine cQ hF ?_|refine cG hF ?_);(simp(disch:=omega)only[push_cast,↓zz,seval,pR,pF,pI]);(fail_if_success change False))|omega|intro _))
   |false =>
    rw[Ah (by simp)];(with_reducible repeat'(first|(simp(disch:=omega)only[push_cast,↓zz,seval,pR,pF,pI])|refine Aa ?_ ?_|(first|refine Ac ?_ ?_|refine Ab ?_ ?_)<;>intro hc<;>(try simp only[push_cast] at hc)|refine eK hC ?_|refine eQ hC ?_|refine eG hC ?_|refine eK hF ?_|refine eQ hF ?_|refine eG hF ?_|((first|refine cK hC ?_|refine cQ hC ?_|refine cG hC ?_|refine cK hF ?_|refine cQ hF ?_|refine cG hF ?_);(simp(disch:=omega)only[push_cast,↓zz,seval,pR,pF,pI]);(fail_if_success change False))|omega|intro _))
 ·rw[Ai hk]
  (with_reducible repeat'(first|(simp(disch:=omega)only[push_cast,↓zz,seval,pR,pF,pI,hk])|refine Aa ?_ ?_|(first|refine Ac ?_ ?_|refine Ab ?_ ?_)<;>intro hc<;>(try simp only[push_cast] at hc)|refine eK hC ?_|refine eQ hC ?_|refine eG hC ?_|((first|refine cK hC ?_|refine cQ hC ?_|refine cG hC ?_);(simp(disch:=omega)only[push_cast,↓zz,seval,pR,pF,pI,hk]);(fail_if_success change False))|omega|intro _))
  all_goals trace_state
abbrev EA(d:Desc)(x:List Int)(ru fi od li:AV):AV:=.cptr (.agg [.int .i64 d.in_,.int .i64 d.out,.int .i64 d.states,.int .i64 d.start,DF d.rules,Fb d.finals,Bf x,ru,fi,od,li])
def goB(x:List Int)(gs:List (List Span))(at_:Nat):Bool:=decide (gs.length+at_<=x.length)&&(List.range gs.length).all λk=>hasI (nth gs k) (nth x (at_+k))
theorem OU{p:Nat->Bool}{k n:Nat}(h:k<n)(hp:∀j,j<k->p j=true):(p k=false->(List.range n).all p=false):=λhk=>by
 rw[List.all_eq_false];exact⟨k,by simpa using h,by simp[hk]⟩
theorem R4(d:Desc)(x:List Int)(ru fi od li:AV)(gs:List (List Span))(at_:Nat)(hr:ru.pure=true)(hfi:fi.pure=true)(ho:od.pure=true)(hli:li.pure=true)(hx:x.length<=1000000)(h32:∀v∈x,-2147483648<=v/\v<=2147483647)(hg:∀g∈gs,g.length<=1000000)(hgl:gs.length<=1000000)(ha:at_<=1000000):
 PC Tryz.prog 65 [EA d x ru fi od li,Bs gs,.int .i64 at_] (.bool (goB x gs at_)):=by
 have pR:=B8 d.rules;have pF:=B6 d.finals;have pX:AT (x.map (AV.int .i32))=true:=Cv .i32 _;have pG:=AL gs;refine BV L3 ?_;unfold It;(with_reducible repeat'(first|(simp(disch:=omega)only[push_cast,↓zz,seval,pR,pF,pX,pG,hr,hfi,ho,hli])|refine Aa ?_ ?_|(first|refine Ac ?_ ?_|refine Ab ?_ ?_)<;>intro hc<;>(try simp only[push_cast] at hc)|omega|intro _))
 ·have:¬gs.length+at_<=x.length:=by omega
  simp[goB,this]
 have hfit:gs.length+at_<=x.length:=by omega
 have hgo:goB x gs at_=(List.range gs.length).all λk=>hasI (nth gs k) (nth x (at_+k)):=by simp[goB,hfit]
 rw[hgo]
 refine B4 (BK (λ(k:Nat)=>k<=gs.length/\Hold (∀j,j<k->hasI (nth gs j) (nth x (at_+j))=true)) (λk=>gs.length-k)
  (λk=>[(0,EA d x ru fi od li),(2,.int .i64 at_),(19,Bs gs),(20,.int .i64 gs.length),(21,.int .i64 k)]) (λ_=>[]) (λ_ _=>[]) 0 ⟨by simp,⟨λj hj=>by omega⟩⟩ ?_ ?_)
 ·(with_reducible repeat'(first|(simp(disch:=omega)only[push_cast,↓zz,seval,pR,pF,pX,pG,hr,hfi,ho,hli])|refine Aa ?_ ?_|(first|refine Ac ?_ ?_|refine Ab ?_ ?_)<;>intro hc<;>(try simp only[push_cast] at hc)|omega|intro _))
 rintro k ⟨hk,⟨hall⟩⟩;rcases An k gs.length with hkl|hkl
 ·have hHas:=z9o (nth gs k) (nth x (at_+k)) (by have:=hg _ (B2 hkl);omega)
  have hb:=h32 _ (B2 (show at_+k<x.length by omega));have hcast:((at_:Int)+k).toNat=at_+k:=by omega
  generalize hge:nth gs k=g at *;have pg:=FC g;cases hh:hasI g (nth x (at_+k)) with
  |true =>
   rw[hh] at hHas
   have hnx:Hold (∀j,j<k+1->hasI (nth gs j) (nth x (at_+j))=true):=⟨λj hj=>by
    by_cases e:j=k
    ·subst e;rw[hge];exact hh
    ·exact hall j (by omega)⟩
   clear hall;refine W_T ?_;(with_reducible repeat'(first|(simp(disch:=omega)only[push_cast,↓zz,seval,pR,pF,pX,pG,hr,hfi,ho,hli,hge,pg,hcast])|refine Aa ?_ ?_|(first|refine Ac ?_ ?_|refine Ab ?_ ?_)<;>intro hc<;>(try simp only[push_cast] at hc)|refine eK hHas ?_|refine eQ hHas ?_|refine eG hHas ?_|((first|refine cK hHas ?_|refine cQ hHas ?_|refine cG hHas ?_);(simp(disch:=omega)only[push_cast,↓zz,seval,pR,pF,pX,pG,hr,hfi,ho,hli,hge,pg,hcast]);(fail_if_success change False))|omega|intro _))
   all_goals first
    |(refine⟨k+1,?_⟩
      (with_reducible repeat'(first|(simp(disch:=omega)only[push_cast,↓zz,seval,pR,pF,pX,pG,hr,hfi,ho,hli])|refine Aa ?_ ?_|(first|refine Ac ?_ ?_|refine Ab ?_ ?_)<;>intro hc<;>(try simp only[push_cast] at hc)|omega|intro _))
      all_goals first|assumption|trace_state)
    |trace_state
  |false =>
   rw[hh] at hHas;have hno:(List.range gs.length).all (λk=>hasI (nth gs k) (nth x (at_+k)))=false:=OU hkl hall (by rw[hge];exact hh);rw[hno];clear hall hno;refine W_T ?_;(with_reducible repeat'(first|(simp(disch:=omega)only[push_cast,↓zz,seval,pR,pF,pX,pG,hr,hfi,ho,hli,hge,pg,hcast])|refine Aa ?_ ?_|(first|refine Ac ?_ ?_|refine Ab ?_ ?_)<;>intro hc<;>(try simp only[push_cast] at hc)|refine eK hHas ?_|refine eQ hHas ?_|refine eG hHas ?_|((first|refine cK hHas ?_|refine cQ hHas ?_|refine cG hHas ?_);(simp(disch:=omega)only[push_cast,↓zz,seval,pR,pF,pX,pG,hr,hfi,ho,hli,hge,pg,hcast]);(fail_if_success change False))|omega|intro _))
 ·obtain rfl:k=gs.length:=by omega
  have hyes:(List.range gs.length).all (λk=>hasI (nth gs k) (nth x (at_+k)))=true:=AO.2 λj hj=>hall j (by simpa using hj);rw[hyes];clear hall hyes;refine W_T ?_;(with_reducible repeat'(first|(simp(disch:=omega)only[push_cast,↓zz,seval,pR,pF,pX,pG,hr,hfi,ho,hli])|refine Aa ?_ ?_|(first|refine Ac ?_ ?_|refine Ab ?_ ?_)<;>intro hc<;>(try simp only[push_cast] at hc)|omega|intro _))
  all_goals trace_state
theorem zaz(d:Desc)(x:List Int)(ru fi od li:AV)(f:Es)(at_:Nat)(hr:ru.pure=true)(hfi:fi.pure=true)(ho:od.pure=true)(hli:li.pure=true)(hx:x.length<=1000000)(h32:∀v∈x,-2147483648<=v/\v<=2147483647)(hg:∀g∈f.guards,g.length<=1000000)(hgl:f.guards.length<=1000000)(ha:at_<=1000000):
 PC Tryz.prog 63 [EA d x ru fi od li,CB f,.int .i64 at_] (.bool (decide (f.guards.length+at_=x.length)&&goB x f.guards at_)):=by
 have pR:=B8 d.rules;have pF:=B6 d.finals;have pX:AT (x.map (AV.int .i32))=true:=Cv .i32 _;have pG:=AL f.guards;have pT:=B5 f.out;have hF:=R4 d x ru fi od li f.guards at_ hr hfi ho hli hx h32 hg hgl ha;refine BV L1 ?_;unfold Ir;generalize goB x f.guards at_=b at *;by_cases he:f.guards.length+at_=x.length
 ·rw[Ba he,Ax]
  have he2:(f.guards.length:Int)=(x.length:Int)-at_:=by omega
  (with_reducible repeat'(first|(simp(disch:=omega)only[push_cast,↓zz,seval,pR,pF,pX,pG,pT,hr,hfi,ho,hli,he2])|refine Aa ?_ ?_|(first|refine Ac ?_ ?_|refine Ab ?_ ?_)<;>intro hc<;>(try simp only[push_cast] at hc)|refine eK hF ?_|refine eQ hF ?_|refine eG hF ?_|((first|refine cK hF ?_|refine cQ hF ?_|refine cG hF ?_);(simp(disch:=omega)only[push_cast,↓zz,seval,pR,pF,pX,pG,pT,hr,hfi,ho,hli,he2]);(fail_if_success change False))|omega|intro _))
  all_goals first|omega|trace_state
 ·rw[By he,AA]
  have he2:¬(f.guards.length:Int)=(x.length:Int)-at_:=by omega
  (with_reducible repeat'(first|(simp(disch:=omega)only[push_cast,↓zz,seval,pR,pF,pX,pG,pT,hr,hfi,ho,hli,he2])|refine Aa ?_ ?_|(first|refine Ac ?_ ?_|refine Ab ?_ ?_)<;>intro hc<;>(try simp only[push_cast] at hc)|refine eK hF ?_|refine eQ hF ?_|refine eG hF ?_|((first|refine cK hF ?_|refine cQ hF ?_|refine cG hF ?_);(simp(disch:=omega)only[push_cast,↓zz,seval,pR,pF,pX,pG,pT,hr,hfi,ho,hli,he2]);(fail_if_success change False))|omega|intro _))
  all_goals first|omega|trace_state
def D9(out:List Term)(w:List Int):List Int:=out.map λt=>IntKind.i32.wrap ((EU t w).getD 0)
theorem Qm(d:Desc)(x:List Int)(ru fi od li:AV)(out:List Term)(at_ n:Nat)(hr:ru.pure=true)(hfi:fi.pure=true)(ho:od.pure=true)(hli:li.pure=true)(hx:x.length<=1000000)(h32:∀v∈x,-2147483648<=v/\v<=2147483647)(hol:out.length<=1000000)(hop:∀t∈out,t.parts.length<=1000000)(ha:at_+n<=x.length):
 PC Tryz.prog 64 [EA d x ru fi od li,C9 out,.int .i64 at_,.int .i64 n] (Bf (D9 out ((x.drop at_).take n))):=by
 have pR:=B8 d.rules;have pF:=B6 d.finals;have pX:AT (x.map (AV.int .i32))=true:=Cv .i32 _;have pT:=B5 out;have hwl:((x.drop at_).take n).length<=1000000:=by simp;omega
 have hw32:∀v∈(x.drop at_).take n,-2147483648<=v/\v<=2147483647:=λv hv=>h32 v (BX (BP hv));have hV:=λt (ht:t∈out)=>YI t ((x.drop at_).take n) (by have:=hop t ht;omega) (by omega) hw32;have hmw:List.take n (List.drop at_ (x.map (AV.int .i32)))=((x.drop at_).take n).map (AV.int .i32):=by rw[List.map_take,List.map_drop]
 have hcat:((at_:Int)+n).toNat=at_+n:=by omega
 have pW:AT (((x.drop at_).take n).map (AV.int .i32))=true:=Cv .i32 _;have hdt:List.drop at_ (List.take (at_+n) x)=(x.drop at_).take n:=by rw[List.drop_take];simp
 have e0:∀w,D9 [] w=[]:=λ_=>rfl;have wl:∀w,(D9 out w).length=out.length:=λw=>by simp[D9]
 have wt:∀w,List.take out.length (D9 out w)=D9 out w:=λw=>Ar (by rw[wl];exact Ae _);refine BV Ks ?_;unfold H7;(with_reducible repeat'(first|(simp(disch:=omega)only[push_cast,↓zz,seval,pR,pF,pX,pT,hr,hfi,ho,hli])|refine Aa ?_ ?_|(first|refine Ac ?_ ?_|refine Ab ?_ ?_)<;>intro hc<;>(try simp only[push_cast] at hc)|omega|intro _))
 refine B4 (BK (λ(k:Nat)=>k<=out.length) (λk=>out.length-k)
  (λk=>[(0,EA d x ru fi od li),(2,.int .i64 at_),(3,.int .i64 n),(9,.ref 0 1 0 k),(14,C9 out),(15,.int .i64 out.length),(16,.int .i64 k)]) (λk=>[⟨1,1,false,(D9 (out.take k) ((x.drop at_).take n)).map (AV.int .i32)⟩]) (λenv _=>[C0 1 (env 9)]) 0 (by simp) ?_ ?_)
 ·(with_reducible repeat'(first|(simp(disch:=omega)only[push_cast,↓zz,seval,pR,pF,pX,pT,hr,hfi,ho,hli,e0])|refine Aa ?_ ?_|(first|refine Ac ?_ ?_|refine Ab ?_ ?_)<;>intro hc<;>(try simp only[push_cast] at hc)|omega|intro _))
 intro k hk;have hlk:(D9 (out.take k) ((x.drop at_).take n)).length=k:=by simp[D9];omega
 have pL:AT ((D9 (out.take k) ((x.drop at_).take n)).map (AV.int .i32))=true:=Cv .i32 _;rcases An k out.length with hkl|hkl
 ·have hVk:=hV _ (B2 hkl)
  have e1:D9 (out.take (k+1)) ((x.drop at_).take n)=D9 (out.take k) ((x.drop at_).take n)++[IntKind.i32.wrap ((EU (nth out k) ((x.drop at_).take n)).getD 0)]:=by rw[D9,take_at hkl,A9];rfl
  generalize hte:nth out k=t at *;have pP:=Io t.parts;generalize D9 (out.take k) ((x.drop at_).take n)=L at *;refine W_T ?_;(with_reducible repeat'(first|(simp(disch:=omega)only[push_cast,↓zz,seval,pR,pF,pX,pT,hr,hfi,ho,hli,hte,pP,hmw,hcat,pW,hdt])|refine Aa ?_ ?_|(first|refine Ac ?_ ?_|refine Ab ?_ ?_)<;>intro hc<;>(try simp only[push_cast] at hc)|refine eK hVk ?_|refine eQ hVk ?_|refine eG hVk ?_|((first|refine cK hVk ?_|refine cQ hVk ?_|refine cG hVk ?_);(simp(disch:=omega)only[push_cast,↓zz,seval,pR,pF,pX,pT,hr,hfi,ho,hli,hte,pP,hmw,hcat,pW,hdt]);(fail_if_success change False))|omega|intro _))
  all_goals
   refine⟨k+1,?_⟩;(with_reducible repeat'(first|(simp(disch:=omega)only[push_cast,↓zz,seval,e1,pL,pR,pF,pX,pT,hr,hfi,ho,hli])|refine Aa ?_ ?_|(first|refine Ac ?_ ?_|refine Ab ?_ ?_)<;>intro hc<;>(try simp only[push_cast] at hc)|omega|intro _))
 ·obtain rfl:k=out.length:=by omega
  have et:out.take out.length=out:=Ar (by omega);rw[et] at hlk pL ⊢;refine W_T ?_;(with_reducible repeat'(first|(simp(disch:=omega)only[push_cast,↓zz,seval,pR,pF,pX,pT,hr,hfi,ho,hli,pL,et,wl,wt])|refine Aa ?_ ?_|(first|refine Ac ?_ ?_|refine Ab ?_ ?_)<;>intro hc<;>(try simp only[push_cast] at hc)|omega|intro _))
  all_goals trace_state
def ltW:List Int->List Int->Bool
 |[],[]=>false
 |[],_::_=>true
 |_::_,[]=>false
 |a::l,b::m=>if a<b then true else if b<a then false else ltW l m
theorem Hv:∀a,ltW a a=false
 |[]=>rfl
 |a::l=>by simp[ltW,Hv l]
theorem J2:∀a b c,ltW a b=true->ltW b c=true->ltW a c=true
 |[],[],_,h,_=>by simp[ltW] at h
 |[],b::m,[],_,h=>by simp[ltW] at h
 |[],_::_,_::_,_,_=>rfl
 |_::_,[],_,h,_=>by simp[ltW] at h
 |_::_,_::_,[],_,h=>by simp[ltW] at h
 |a::l,b::m,c::n,h1,h2=>by
  simp only[ltW] at h1 h2 ⊢;split at h1
  ·split at h2
   ·rw[Ai (by omega)]
   ·split at h2
    ·cases h2
    ·rw[Ai (by omega)]
  ·split at h1
   ·cases h1
   ·split at h2
    ·rw[Ai (by omega)]
    ·split at h2
     ·cases h2
     ·rw[Ah (by omega),Ah (by omega)]
      exact J2 l m n h1 h2
theorem J3:∀a b,ltW a b=false->ltW b a=false->a=b
 |[],[],_,_=>rfl
 |[],_::_,h,_=>by simp[ltW] at h
 |_::_,[],_,h=>by simp[ltW] at h
 |a::l,b::m,h1,h2=>by
  have e1:¬a<b:=λh=>by simp[ltW,h] at h1
  have e2:¬b<a:=λh=>by simp[ltW,h] at h2
  rw[ltW,Ah e1,Ah e2] at h1;rw[ltW,Ah e2,Ah e1] at h2;have:a=b:=by omega
  rw[this,J3 l m h1 h2]
def O8(l:List (List Int)):Prop:=l.Pairwise λa b=>ltW a b=true
theorem R5:∀{l m:List (List Int)},O8 l->O8 m->(∀w,w∈l↔w∈m)->l=m
 |[],[],_,_,_=>rfl
 |[],b::m,_,_,h=>by have:=(h b).2 (by simp);cases this
 |a::l,[],_,_,h=>by have:=(h a).1 (by simp);cases this
 |a::l,b::m,h1,h2,h=>by
  rw[O8,AW] at h1 h2
  have e:a=b:=by
   rcases Ag.1 ((h a).1 (by simp)) with e|ha
   ·exact e
   ·rcases Ag.1 ((h b).2 (by simp)) with e|hb
    ·exact e.symm
    ·have k1:=h1.1 b hb
     have k2:=h2.1 a ha;have:=J2 _ _ _ k1 k2;rw[Hv] at this;cases this
  subst e;have hna:a∉l:=λhm=>by have:=h1.1 a hm;rw[Hv] at this;cases this
  have hnb:a∉m:=λhm=>by have:=h2.1 a hm;rw[Hv] at this;cases this
  rw[R5 (l:=l) (m:=m) h1.2 h2.2 λw=>?_];constructor
  ·intro hw
   rcases Ag.1 ((h w).1 (by simp[hw])) with e|e
   ·subst e;exact absurd hw hna
   ·exact e
  ·intro hw
   rcases Ag.1 ((h w).2 (by simp[hw])) with e|e
   ·subst e;exact absurd hw hnb
   ·exact e
def insU(w:List Int):List (List Int)->List (List Int)
 |[]=>[w]
 |a::l=>if ltW w a=true then w::a::l else if ltW a w=true then a::insU w l else a::l
theorem R6(w:List Int):∀(l:List (List Int))(v:List Int),v∈insU w l↔v=w\/v∈l
 |[],v=>by simp[insU]
 |a::l,v=>by
  simp only[insU];split
  ·simp
  ·split
   ·rw[Ag,R6 w l v,Ag]
    constructor
    ·rintro (h|h|h)
     ·exact .inr (.inl h)
     ·exact .inl h
     ·exact .inr (.inr h)
    ·rintro (h|h|h)
     ·exact .inr (.inl h)
     ·exact .inl h
     ·exact .inr (.inr h)
   ·rename_i h1 h2
    have e:w=a:=J3 w a (by simpa using h1) (by simpa using h2);subst e;simp
theorem TK(w:List Int):∀{l:List (List Int)},O8 l->O8 (insU w l)
 |[],_=>D4 _ _
 |a::l,h=>by
  have h':=h;rw[O8,AW] at h';simp only[insU];split
  ·rename_i h1
   refine AW.2 ⟨λv hv=>?_,h⟩;rcases Ag.1 hv with rfl|hv
   ·exact h1
   ·exact J2 _ _ _ h1 (h'.1 v hv)
  ·split
   ·rename_i h2
    refine AW.2 ⟨λv hv=>?_,TK w h'.2⟩;rcases (R6 w l v).1 hv with rfl|hv
    ·exact h2
    ·exact h'.1 v hv
   ·exact h
def JW(l:List (List Int)):List (List Int):=l.foldr insU []
theorem J4:∀(l:List (List Int))(v:List Int),v∈JW l↔v∈l
 |[],v=>Iff.rfl
 |a::l,v=>by
  show v∈insU a (JW l)↔_;rw[R6,J4 l v,Ag]
theorem JR:∀(l:List (List Int)),O8 (JW l)
 |[]=>List.Pairwise.nil
 |a::l=>TK a (JR l)
theorem XD{l m:List (List Int)}(h1:O8 m)(h2:∀w,w∈m↔w∈l):JW l=m:=R5 (JR l) h1 λw=>(J4 l w).trans (h2 w).symm
theorem XE(w:List Int):∀l:List (List Int),(insU w l).length<=l.length+1
 |[]=>by simp[insU]
 |a::l=>by
  have:=XE w l;simp only[insU];repeat' split
  all_goals simp;try omega
theorem TM:∀l:List (List Int),(JW l).length<=l.length
 |[]=>Ae _
 |a::l=>by
  have:=TM l;have h2:=XE a (JW l);show (insU a (JW l)).length<=_;simp;omega
theorem IP{α:Type}:∀{l m:List α},l.Nodup->(∀w∈l,w∈m)->l.length<=m.length
 |[],m,_,_=>AD _
 |a::l,m,hn,h=>by
  obtain⟨s,t,rfl⟩:=List.append_of_mem (h a (by simp));rw[Cd] at hn
  have:=IP (l:=l) (m:=s++t) hn.2 λw hw=>by
   have:=h w (by simp[hw]);simp only[Au,Ag] at this ⊢;rcases this with h1|h1|h1
   ·exact .inl h1
   ·subst h1;exact absurd hw hn.1
   ·exact .inr h1
  simp only[Ak,List.length_cons] at this ⊢;omega
def EC(x:List Int)(out:List Term)(gs:List (List Span))(at_:Nat):List Int:=D9 out ((x.drop at_).take gs.length)
inductive RelW(d:Desc)(x:List Int):Nat->Int->List Int->Prop
 |fin {at_:Nat} {s:Int} (f:Es):f∈d.finals->f.from_=s->f.guards.length+at_=x.length->goB x f.guards at_=true->RelW d x at_ s (EC x f.out f.guards at_)
 |step {at_:Nat} {s:Int} (r:Rule) (w:List Int):r∈d.rules->r.from_=s->goB x r.guards at_=true->RelW d x (at_+r.eat.toNat) r.to_ w->RelW d x at_ s (EC x r.out r.guards at_++w)
theorem MO{d:Desc}{x:List Int}{at_:Nat}{s:Int}{w:List Int}:RelW d x at_ s w ↔
 (∃f∈d.finals,f.from_=s/\(f.guards.length+at_=x.length/\goB x f.guards at_=true)/\w=EC x f.out f.guards at_) \/
 ∃r∈d.rules,r.from_=s/\goB x r.guards at_=true/\∃v,RelW d x (at_+r.eat.toNat) r.to_ v/\w=EC x r.out r.guards at_++v:=by
 constructor
 ·rintro (⟨f,h1,h2,h3,h4⟩|⟨r,v,h1,h2,h3,h4⟩)
  ·exact .inl ⟨f,h1,h2,⟨h3,h4⟩,rfl⟩
  ·exact .inr ⟨r,h1,h2,h3,v,h4,rfl⟩
 ·rintro (⟨f,h1,h2,⟨h3,h4⟩,rfl⟩|⟨r,h1,h2,h3,v,h4,rfl⟩)
  ·exact .fin f h1 h2 h3 h4
  ·exact .step r v h1 h2 h3 h4
def IZ(d:Desc)(x:List Int)(at_:Nat)(s:Int)(L:List (List Int)):Prop:=O8 L/\∀w,w∈L↔RelW d x at_ s w
theorem zb0{d:Desc}{x:List Int}{at_:Nat}{s:Int}{L M:List (List Int)}(h1:IZ d x at_ s L)(h2:IZ d x at_ s M):L=M:=R5 h1.1 h2.1 λw=>(h1.2 w).trans (h2.2 w).symm
def outL(d:Desc)(x:List Int)(S:Nat->Int->List (List Int))(at_:Nat)(s:Int):List (List Int) :=
 ((d.finals.filter λf=>decide (f.from_=s)&&(decide (f.guards.length+at_=x.length)&&goB x f.guards at_)).map λf=>EC x f.out f.guards at_) ++
 (d.rules.filter λr=>decide (r.from_=s)&&goB x r.guards at_).flatMap λr=>(S (at_+r.eat.toNat) r.to_).map (EC x r.out r.guards at_++·)
theorem zb1{d:Desc}{x:List Int}{S:Nat->Int->List (List Int)}{at_:Nat}{s:Int}(h:∀r∈d.rules,r.from_=s->goB x r.guards at_=true->∀v,v∈S (at_+r.eat.toNat) r.to_↔RelW d x (at_+r.eat.toNat) r.to_ v)(w:List Int):w∈outL d x S at_ s↔RelW d x at_ s w:=by
 rw[MO,outL,Au,Aq,Cn];constructor
 ·rintro (⟨f,hf,rfl⟩|⟨r,hr,hw⟩)
  ·obtain⟨h1,h2⟩:=AX.1 hf
   simp only[Ad,Aj] at h2;exact .inl ⟨f,h1,h2.1,h2.2,rfl⟩
  ·obtain⟨h1,h2⟩:=AX.1 hr
   simp only[Ad,Aj] at h2;obtain⟨v,hv,rfl⟩:=Aq.1 hw;exact .inr ⟨r,h1,h2.1,h2.2,v,(h r h1 h2.1 h2.2 v).1 hv,rfl⟩
 ·rintro (⟨f,h1,h2,h3,rfl⟩|⟨r,h1,h2,h3,v,hv,rfl⟩)
  ·exact .inl ⟨f,AX.2 ⟨h1,by simp[h2,h3.1,h3.2]⟩,rfl⟩
  ·exact .inr ⟨r,AX.2 ⟨h1,by simp[h2,h3]⟩,Aq.2 ⟨v,(h r h1 h2 h3 v).2 hv,rfl⟩⟩
theorem XF{d:Desc}{x:List Int}{S:Nat->Int->List (List Int)}{at_:Nat}{s:Int}(h:∀r∈d.rules,r.from_=s->goB x r.guards at_=true->IZ d x (at_+r.eat.toNat) r.to_ (S (at_+r.eat.toNat) r.to_)):IZ d x at_ s (JW (outL d x S at_ s)) :=
 ⟨JR _,λw=>(J4 _ w).trans (zb1 (λr h1 h2 h3 v=>(h r h1 h2 h3).2 v) w)⟩
structure Topo(l:List Rule)(n:Nat)(ord:List Nat):Prop where
 nodup:ord.Nodup
 all:∀s,s∈ord↔s<n
 eps:∀i,i<ord.length->∀r∈l,Cy r=true->r.from_=(nth ord i:Nat)->∃t:Nat,r.to_=t/\t∈ord.take i
structure Goes(d:Desc)(n:Nat):Prop where
 r:∀r∈d.rules,(0<=r.from_/\r.from_<n)/\(0<=r.to_/\r.to_<n)/\r.eat.toNat<=r.guards.length/\(Cy r=false->1<=r.eat.toNat)
theorem Kf{x:List Int}{gs:List (List Span)}{at_:Nat}(h:goB x gs at_=true):gs.length+at_<=x.length:=by
 simp only[goB,Ad,Aj] at h;exact h.1
theorem R7{d:Desc}{n:Nat}(hg:Goes d n){r:Rule}(hr:r∈d.rules)(he:Cy r=true):r.eat.toNat=0:=by
 have h1:=(hg.r r hr).2.2.1;simp only[Cy,Aj] at he;omega
theorem zlm{d:Desc}{n:Nat}{x:List Int}{ord:List Nat}(hg:Goes d n)(ht:Topo d.rules n ord):∀(k at_:Nat),x.length-at_<k->at_<=x.length->∀s:Nat,s<n->∃L,IZ d x at_ s L:=by
 intro k
 induction k with
 |zero=>intro at_ h;omega
 |succ k ih =>
  intro at_ hk ha
  have key:∀i,i<=ord.length->∀s:Nat,s∈ord.take i->∃L,IZ d x at_ s L:=λi=>by
   induction i with
   |zero=>intro _ s hs;simp at hs
   |succ i ihi =>
    intro hi s hs;rw[take_at (by omega),Au,As] at hs;rcases hs with hs|rfl
    ·exact ihi (by omega) s hs
    ·have hnx:∀r∈d.rules,r.from_=(nth ord i:Nat)->goB x r.guards at_=true->∃L,IZ d x (at_+r.eat.toNat) r.to_ L:=λr hr hf hgo=>by
      obtain⟨_,⟨t1,t2⟩,e1,e2⟩:=hg.r r hr;have hle:=Kf hgo;cases he:Cy r with
      |true =>
       obtain⟨t,h1,h2⟩:=ht.eps i (by omega) r hr he hf;rw[R7 hg hr he,h1,Nat.add_zero];exact ihi (by omega) t h2
      |false =>
       have:=e2 he;have h3:=ih (at_+r.eat.toNat) (by omega) (by omega) r.to_.toNat (by omega)
       rwa [BG t1] at h3
     classical
     exact⟨_,XF (S:=λa t=>if h:∃L,IZ d x a t L then h.choose else []) λr hr hf hgo=>by
      have h:=hnx r hr hf hgo;simp only[dif_pos h]
      exact h.choose_spec⟩
  intro s hs;exact key ord.length (Ae _) s (by rw[AH];exact (ht.all s).2 hs)
open Classical in
noncomputable def outW (d:Desc) (x:List Int) (at_:Nat) (s:Int):List (List Int):=if h:∃L,IZ d x at_ s L then h.choose else []
theorem TN{d:Desc}{x:List Int}{at_:Nat}{s:Int}(h:∃L,IZ d x at_ s L):IZ d x at_ s (outW d x at_ s):=by
 rw[outW,dif_pos h];exact h.choose_spec
theorem z5f{d:Desc}{x:List Int}{at_:Nat}{s:Int}{L:List (List Int)}(h:IZ d x at_ s L):outW d x at_ s=L:=zb0 (TN ⟨L,h⟩) h
inductive Vr(d:Desc)(x:List Int):Nat->Int->List Int->Nat->Int->Prop
 |here {at_:Nat} {s:Int}:Vr d x at_ s [] at_ s
 |step {at_:Nat} {s:Int} {u:List Int} {a:Nat} {t:Int} (r:Rule):Vr d x at_ s u a t->r∈d.rules->r.from_=t->goB x r.guards a=true->Vr d x at_ s (u++EC x r.out r.guards a) (a+r.eat.toNat) r.to_
theorem zb2{d:Desc}{x:List Int}{at_:Nat}{s:Int}{u:List Int}{a:Nat}{t:Int}(h:Vr d x at_ s u a t):∀{w:List Int},RelW d x a t w->RelW d x at_ s (u++w):=by
 induction h with
 |here=>intro w hw;exact hw
 |step r _ h1 h2 h3 ih =>
  intro w hw;rw[Aw];exact ih (.step r w h1 h2 h3 hw)
theorem XG{d:Desc}{x:List Int}{at_:Nat}{s:Int}{u:List Int}{a:Nat}{t:Int}(h:Vr d x at_ s u a t){L M:List (List Int)}(hL:IZ d x a t L)(hM:IZ d x at_ s M):L.length<=M.length:=by
 have h1:(L.map (u++·)).length<=M.length:=by
  refine IP ?_ λw hw=>?_
  ·have hn:L.Nodup:=List.Pairwise.imp (λ{a b} hab (e:a=b)=>by subst e;rw[Hv] at hab;cases hab) hL.1
   exact List.Pairwise.map _ (λa b hab (e:u++a=u++b)=>hab (List.append_cancel_left e)) hn
  ·obtain⟨v,hv,rfl⟩:=Aq.1 hw
   exact (hM.2 _).2 (zb2 h ((hL.2 v).1 hv))
 simpa using h1
set_option maxRecDepth 100000
def ruI(l:List Rule)(s:Nat):List Nat:=(List.range l.length).filter λi=>decide ((nth l i).from_=(s:Int))
theorem Ig{l:List Rule}{s i:Nat}:i∈ruI l s↔i<l.length/\(nth l i).from_=s:=by simp[ruI]
theorem Vs(l:List Rule)(s:Nat):(ruI l s).length<=l.length:=by
 have:=B7 (λi=>decide ((nth l i).from_=(s:Int))) (List.range l.length)
 rwa [CU] at this
def Vt(l:List Rule)(a b:Int):Prop:=∃i p,okP l a (i::p)/\endP l a (i::p)=b
theorem zb3{l:List Rule}{i:Nat}(h:i<l.length)(he:Cy (nth l i)=true):Vt l (nth l i).from_ (nth l i).to_ :=
 ⟨i,[],⟨FJ.2 ⟨h,he,rfl⟩,trivial⟩,rfl⟩
theorem Z6{l:List Rule}{a b c:Int}(h:Vt l a b)(k:Vt l b c):Vt l a c:=by
 obtain⟨i,p,h1,h2⟩:=h;obtain⟨j,q,k1,k2⟩:=k;refine⟨i,p++j::q,?_,?_⟩
 ·rw[<-List.cons_append,Oy,h2];exact⟨h1,k1⟩
 ·rw[<-List.cons_append,KZ,h2];exact k2
theorem z5g{l:List Rule}{n:Nat}(hl:∀r∈l,(0<=r.from_/\r.from_<n)/\0<=r.to_/\r.to_<n)(hc:¬cycP l n){a:Int}(ha:0<=a):¬Vt l a a:=by
 rintro⟨i,p,h1,h2⟩
 have key:∀k:Nat,∃q,okP l a q/\endP l a q=a/\k<=q.length:=λk=>by
  induction k with
  |zero=>exact⟨[],trivial,rfl,Ae _⟩
  |succ k ih =>
   obtain⟨q,q1,q2,q3⟩:=ih;refine⟨q++i::p,?_,?_,by simp;omega⟩
   ·rw[Oy,q2];exact⟨q1,h1⟩
   ·rw[KZ,q2];exact h2
 obtain⟨q,q1,_,q3⟩:=key (n+2);have:=Ox hl hc ha q1;omega
def Vu(l:List Rule)(ord:List Nat):Prop:=∀i,i<ord.length->∀r∈l,Cy r=true->r.from_=(nth ord i:Nat)->∃t:Nat,r.to_=t/\t∈ord.take i
theorem TO{l:List Rule}{ord:List Nat}{s:Nat}(h:Vu l ord)(hs:∀r∈l,Cy r=true->r.from_=(s:Int)->∃t:Nat,r.to_=t/\t∈ord):Vu l (ord++[s]):=λi hi r hr he hf=>by
 rw[Ak,List.length_singleton] at hi;rcases An i ord.length with h1|h1
 ·have e:nth (ord++[s]) i=nth ord i:=by simp[nth,List.getD,AE h1]
  rw[e] at hf;obtain⟨t,t1,t2⟩:=h i h1 r hr he hf;exact⟨t,t1,by rw[C2 (by omega)];exact t2⟩
 ·obtain rfl:i=ord.length:=by omega
  have e:nth (ord++[s]) ord.length=s:=by simp[nth,List.getD]
  rw[e] at hf;obtain⟨t,t1,t2⟩:=hs r hr he hf;exact⟨t,t1,by rw[C2 (Ae _),AH];exact t2⟩
structure Qn(l:List Rule)(n:Nat)(dn:Nat->Bool)(ord:List Nat)(s:Nat):Prop where
 p1:∀a∈ord,dn a=true
 p2:∀a,a<n->dn a=true->a∈ord\/Vt l a s
 p3:Vu l ord
 p4:ord.Nodup/\∀a∈ord,a<n
structure R8(l:List Rule)(n:Nat)(dn:Nat->Bool)(ord:List Nat)(s:Nat)(dn':Nat->Bool)(new:List Nat):Prop where
 q2:s∈ord++new
 q3:∀a,a<n->(dn' a=true↔dn a=true\/a∈new)
 q4:Vu l (ord++new)
 q5:(ord++new).Nodup/\∀a∈ord++new,a<n
 q6:∀a∈new,dn a=false
def J5(dn:Nat->Bool):Nat->Nat
 |0=>0
 |k+1=>J5 dn k+(if dn k=true then 0 else 1)
theorem TP{dn dn':Nat->Bool}:∀{n:Nat},(∀a,a<n->dn a=true->dn' a=true)->J5 dn' n<=J5 dn n
 |0,_=>Ae _
 |n+1,h=>by
  have ih:=TP (n:=n) λa ha=>h a (by omega);simp only[J5];cases h1:dn n with
  |true=>rw[h n (by omega) h1];simp;exact ih
  |false=>simp;split<;>omega
theorem TQ{dn dn':Nat->Bool}{s:Nat}(h1:dn s=false)(h2:dn' s=true):∀{n:Nat},s<n->(∀a,a<n->dn a=true->dn' a=true)->J5 dn' n<J5 dn n
 |0,hs,_=>by omega
 |n+1,hs,h=>by
  simp only[J5];by_cases e:s=n
  ·subst e
   have:=TP (n:=s) λa ha=>h a (by omega);simp[h1,h2];omega
  ·have ih:=TQ h1 h2 (n:=n) (by omega) λa ha=>h a (by omega)
   cases h3:dn n with
   |true=>rw[h n (by omega) h3];simp;exact ih
   |false=>simp;split<;>omega
structure O9(l:List Rule)(n:Nat)(dn:Nat->Bool)(ord:List Nat)(s:Nat)(dk:Nat->Bool)(new:List Nat)(k:Nat):Prop where
 m3:∀a,a<n->(dk a=true↔dn a=true\/a=s\/a∈new)
 m4:Vu l (ord++new)
 m5:(ord++new).Nodup/\∀a∈ord++new,a<n
 m6:∀a∈new,dn a=false/\a≠s
 m7:∀j,j<k->Cy (nth l (nth (ruI l s) j))=true->∃t:Nat,(nth l (nth (ruI l s) j)).to_=t/\t∈ord++new
theorem zhb{l:List Rule}{n:Nat}{dn:Nat->Bool}{ord:List Nat}{s:Nat}{dk:Nat->Bool}{new:List Nat}{k i:Nat}(hm:O9 l n dn ord s dk new k)(hp:Qn l n dn ord s)(hi:i∈ruI l s)(he:Cy (nth l i)=true)(j:Nat)(hj:(nth l i).to_=j):Qn l n dk (ord++new) j:=by
 obtain⟨i1,i2⟩:=Ig.1 hi;have hone:Vt l s j:=by have:=zb3 i1 he;rwa [i2,hj] at this
 refine⟨λa ha=>?_,λa ha h=>?_,hm.m4,hm.m5⟩
 ·have han:=hm.m5.2 a ha
  rcases Au.1 ha with h|h
  ·exact (hm.m3 a han).2 (.inl (hp.p1 a h))
  ·exact (hm.m3 a han).2 (.inr (.inr h))
 ·rcases (hm.m3 a ha).1 h with h|rfl|h
  ·rcases hp.p2 a ha h with h|h
   ·exact .inl (Dq _ h)
   ·exact .inr (Z6 h hone)
  ·exact .inr hone
  ·exact .inl (DZ _ h)
theorem zb4{l:List Rule}{n:Nat}{dn:Nat->Bool}{ord:List Nat}{s:Nat}{dk:Nat->Bool}{new:List Nat}{k i:Nat}(hm:O9 l n dn ord s dk new k)(hk:k<(ruI l s).length)(hi:i=nth (ruI l s) k)(he:Cy (nth l i)=false):O9 l n dn ord s dk new (k+1) :=
 ⟨hm.m3,hm.m4,hm.m5,hm.m6,λj hj h=>by
  rcases An j k with h1|h1
  ·exact hm.m7 j h1 h
  ·obtain rfl:j=k:=by omega
   rw[<-hi,he] at h;cases h⟩
theorem zb5{l:List Rule}{n:Nat}{dn:Nat->Bool}{ord:List Nat}{s:Nat}{dk:Nat->Bool}{new:List Nat}{k i:Nat}{dn2:Nat->Bool}{new2:List Nat}(hm:O9 l n dn ord s dk new k)(hp:Qn l n dn ord s)(hk:k<(ruI l s).length)(hi:i=nth (ruI l s) k)
 (h:Cy (nth l i)=true/\∃j:Nat,(nth l i).to_=j/\R8 l n dk (ord++new) j dn2 new2):O9 l n dn ord s dn2 (new++new2) (k+1):=by
 obtain⟨he,j,hj,hq⟩:=h;have hsn:s<n->dk s=true:=λhs=>(hm.m3 s hs).2 (.inr (.inl rfl));refine⟨λa ha=>?_,by rw[<-Aw];exact hq.q4,by rw[<-Aw];exact hq.q5,λa ha=>?_,λm hmk h=>?_⟩
 ·rw[hq.q3 a ha,hm.m3 a ha,Au]
  constructor
  ·rintro ((h|h|h)|h)
   ·exact .inl h
   ·exact .inr (.inl h)
   ·exact .inr (.inr (.inl h))
   ·exact .inr (.inr (.inr h))
  ·rintro (h|h|h|h)
   ·exact .inl (.inl h)
   ·exact .inl (.inr (.inl h))
   ·exact .inl (.inr (.inr h))
   ·exact .inr h
 ·rcases Au.1 ha with h|h
  ·exact hm.m6 a h
  ·have han:a<n:=hq.q5.2 a (DZ _ h)
   have h6:=hq.q6 a h;refine⟨?_,λe=>?_⟩
   ·cases hd:dn a with
    |false=>rfl
    |true=>rw[(hm.m3 a han).2 (.inl hd)] at h6;cases h6
   ·subst e;rw[hsn han] at h6;cases h6
 ·rw[<-Aw]
  rcases An m k with h1|h1
  ·obtain⟨t,t1,t2⟩:=hm.m7 m h1 h
   exact⟨t,t1,Dq _ t2⟩
  ·obtain rfl:m=k:=by omega
   rw[<-hi];exact⟨j,hj,hq.q2⟩
theorem zhc{l:List Rule}{n:Nat}{dn:Nat->Bool}{ord:List Nat}{s:Nat}{dk:Nat->Bool}{new:List Nat}(hm:O9 l n dn ord s dk new (ruI l s).length)(hp:Qn l n dn ord s)(hs:s<n)(hsno:s∉ord)(hd:dn s=false):R8 l n dn ord s dk (new++[s]):=by
 have hsnew:s∉new:=λh=>(hm.m6 s h).2 rfl;refine⟨by simp,λa ha=>?_,?_,⟨?_,λa ha=>?_⟩,λa ha=>?_⟩
 ·rw[hm.m3 a ha,Au,As]
  constructor
  ·rintro (h|h|h)
   ·exact .inl h
   ·exact .inr (.inr h)
   ·exact .inr (.inl h)
  ·rintro (h|h|h)
   ·exact .inl h
   ·exact .inr (.inr h)
   ·exact .inr (.inl h)
 ·rw[<-Aw]
  refine TO hm.m4 λr hr he hf=>?_;obtain⟨i,hi,rfl⟩:=Bw hr;have e:nth l i=l[i]:=GK hi;have hmem:i∈ruI l s:=Ig.2 ⟨hi,by rw[e];exact hf⟩;obtain⟨j,hj,hje⟩:=Bw hmem;have e2:nth (ruI l s) j=i:=by rw[GK hj];exact hje
  have:=hm.m7 j hj (by rw[e2,e];exact he);rw[e2,e] at this;exact this
 ·rw[<-Aw]
  refine Dr.2 ⟨hm.m5.1,Cd.2 ⟨by simp,D3⟩,λa ha b hb=>?_⟩;rw[As.1 hb];rintro rfl;rcases Au.1 ha with h|h
  ·exact hsno h
  ·exact hsnew h
 ·rw[<-Aw] at ha
  rcases Au.1 ha with h|h
  ·exact hm.m5.2 a h
  ·rw[As.1 h];exact hs
 ·rcases Au.1 ha with h|h
  ·exact (hm.m6 a h).1
  ·rw[As.1 h];exact hd
def rnB(d:Desc)(x:List Int)(RU FI od li:AV):AV:=.agg [.int .i64 d.in_,.int .i64 d.out,.int .i64 d.states,.int .i64 d.start,DF d.rules,Fb d.finals,Bf x,RU,FI,od,li]
def ruV(l:List Rule)(n:Nat):AV:=.lst 1 (fD 1 e1 n (ruI l))
def srtL(d:Desc)(x:List Int)(n:Nat)(FI:AV)(v:Nat)(dn:Nat->Bool)(ord:List Nat):List Grp :=
 [⟨11,1,true,[rnB d x (ruV d.rules n) FI (.ref 2 v 0 ord.length) .nilS]⟩,⟨1,1,true,spB n dn⟩,gG 1 e1 v ord]
theorem Ga(d:Desc)(x:List Int)(n:Nat)(FI:AV)(hFI:FI.pure=true)(v:Nat)(dn:Nat->Bool)(ord:List Nat):∀G∈srtL d x n FI v dn ord,ltL 3 G.xs:=λG hG=>by
 have h1:ltV 3 (DF d.rules):=Ce _ _ (B8 _);have h2:ltV 3 (Fb d.finals):=Ce _ _ (B6 _);have h3:ltV 3 (Bf x):=Ce _ _ (Cv .i32 _);have h4:ltV 3 (ruV d.rules n):=Ce _ _ (E9 λ_=>rfl);have h5:ltV 3 FI:=Ce _ _ hFI;simp only[srtL,Ag,Am,A5] at hG;rcases hG with rfl|rfl|rfl
 ·exact⟨⟨trivial,trivial,trivial,trivial,h1,h2,h3,h4,h5,(show 2<3 by omega),trivial,trivial⟩,trivial⟩
 ·exact CS _ _ (Ca.2 λy hy=>by obtain⟨i,_,rfl⟩:=Aq.1 hy;rfl)
 ·exact CS _ _ (Dz (λ_=>rfl) _)
theorem zb6(d:Desc)(x:List Int){n:Nat}(hn:n<=1024)(hrl:d.rules.length<=4096)(hl:∀r∈d.rules,(0<=r.from_/\r.from_<n)/\0<=r.to_/\r.to_<n)(hc:¬cycP d.rules n)(FI:AV)(hFI:FI.pure=true):
 ∀(u:Nat)(s:Nat)(v:Nat)(dn:Nat->Bool)(ord:List Nat),J5 dn n<=u->s<n->Qn d.rules n dn ord s ->
 BZ Tryz.prog 101 [.ptr 0 1 0 0,.int .i64 s,.ref 1 1 0 n] (Abs.hl (srtL d x n FI v dn ord)) λy H'=>∃v' dn' new,y=.tup [] /\
  H'=Abs.hl (srtL d x n FI v' dn' (ord++new))/\R8 d.rules n dn ord s dn' new:=by
 intro u
 induction u using Nat.strongRecOn with
 |ind u ih =>
 intro s v dn ord hu hs hp;have hs0:(0:Int)<=s:=by omega
 have pR:=B8 d.rules;have pFi:=B6 d.finals;have pX:AT (x.map (AV.int .i32))=true:=Cv .i32 _;have pRU:AT (fD 1 e1 n (ruI d.rules))=true:=E9 λ_=>rfl;have lB:∀on,(spB n on).length=n:=λon=>by simp[spB]
 have aB:(spB n dn).getD s .any=.bool (dn s):=Dy hs;have pB:∀on,AT (spB n on)=true:=λon=>Ca.2 λy hy=>by obtain⟨i,_,rfl⟩:=Aq.1 hy;rfl
 refine I3 (LQ L4 (W_T ?_));unfold Iu;cases hd:dn s with
 |true =>
  rw[hd] at aB;have hso:s∈ord:=(hp.p2 s hs hd).resolve_right (z5g hl hc hs0);rw[srtL];unfold rnB;(with_reducible repeat'(first|(simp(disch:=omega)only[push_cast,↓zz,seval,pR,pFi,pX,hFI,lB,aB,pB])|refine Aa ?_ ?_|(first|refine Ac ?_ ?_|refine Ab ?_ ?_)<;>intro hc<;>(try simp only[push_cast] at hc)|omega|intro _))
  all_goals exact⟨_,_,Ent.refl,v,dn,[],rfl,by rw[A8];rfl,⟨by simpa using hso,λa _=>by simp,by rw[A8];exact hp.p3,by rw[A8];exact hp.p4,λa ha=>by cases ha⟩⟩
 |false =>
  rw[hd] at aB;have hset:=zh1 (on:=dn) hs;have lRU:(fD 1 e1 n (ruI d.rules)).length=n:=Lb;have aR:(fD 1 e1 n (ruI d.rules)).getD s .any=.lst 1 ((ruI d.rules s).map e1):=Rt hs;have aR2:(fD 1 e1 n (ruI d.rules))[s]? = some (.lst 1 ((ruI d.rules s).map e1)):=Lc hs;have pI:AT ((ruI d.rules s).map e1)=true:=Dz (λ_=>rfl) _;have hIl:=Vs d.rules s;have hsno:s∉ord:=λh=>by have:=hp.p1 s h;rw[hd] at this;cases this
  have hlt:∀dn',(∀a,a<n->dn a=true->dn' a=true)->dn' s=true->J5 dn' n<u:=λdn' h1 h2=>Bb (TQ hd h2 hs h1) hu;rw[srtL];unfold rnB ruV;generalize hRe:fD 1 e1 n (ruI d.rules)=RU at *;(with_reducible repeat'(first|(simp(disch:=omega)only[push_cast,↓zz,seval,pR,pFi,pX,hFI,lB,aB,pB,hset,lRU,aR,aR2,pI])|refine Aa ?_ ?_|(first|refine Ac ?_ ?_|refine Ab ?_ ?_)<;>intro hc<;>(try simp only[push_cast] at hc)|omega|intro _))
  refine B4 (Hi (λ(q:Nat × Nat × (Nat->Bool) × List Nat)=>q.1<=(ruI d.rules s).length/\Hold (O9 d.rules n dn ord s q.2.2.1 q.2.2.2 q.1)) (λq=>(ruI d.rules s).length-q.1)
   (λq=>E4 [(0,.ptr 0 1 0 0),(1,.int .i64 s),(2,.ref 1 1 0 n),(22,.lst 1 ((ruI d.rules s).map e1)),(23,.int .i64 (ruI d.rules s).length),(24,.int .i64 q.1)])
   (λq=>Abs.hl (srtL d x n FI q.2.1 q.2.2.1 (ord++q.2.2.2))) (0,v,setB dn s,[]) ⟨AD _,⟨?_⟩⟩ ?_ ?_)
  ·refine⟨λa _=>?_,by rw[A8];exact hp.p3,by rw[A8];exact hp.p4,λa ha=>(by cases ha),λj hj=>absurd hj (Bh _)⟩
   simp only[setB];by_cases e:a=s<;>simp[e]
  ·refine Eu (gar:=[]) _ ?_ (by simp[srtL,hl_n]) (Ga d x n FI hFI _ _ _) ?_
   ·rw[A8,A8,srtL]
    unfold rnB ruV;rw[hRe]
   ·have hI:ltV 3 (.lst 1 ((ruI d.rules s).map e1)):=Ce _ _ pI
    exact⟨rfl,(show 0<3 by omega),rfl,trivial,rfl,(show 1<3 by omega),rfl,hI,rfl,trivial,rfl,trivial,trivial⟩
  rintro⟨k,v1,dk,new⟩ ⟨hk,⟨hm⟩⟩;simp only at hk hm ⊢;have hI:ltV 3 (.lst 1 ((ruI d.rules s).map e1)):=Ce _ _ pI;rcases An k (ruI d.rules s).length with hkl|hkl
  ·obtain⟨i,hi⟩:∃i,i=nth (ruI d.rules s) k:=⟨_,rfl⟩
   have him:i∈ruI d.rules s:=by rw[hi];exact B2 hkl
   obtain⟨i1,i2⟩:=Ig.1 him;have aI:((ruI d.rules s).map e1).getD k .any=.int .i64 i:=by rw[hi];simp[nth,List.getD,hkl]
   have hto:=(hl _ (B2 i1)).2;have hmid:=λdn2 new2 h=>zb5 (dn:=dn) (ord:=ord) (s:=s) (dk:=dk) (new:=new) (dn2:=dn2) (new2:=new2) hm hp hkl hi h;have hskip:=zb4 (dn:=dn) (ord:=ord) (s:=s) (dk:=dk) (new:=new) hm hkl hi;have hpre:=λh=>zhb (dn:=dn) (ord:=ord) (s:=s) (dk:=dk) (new:=new) (i:=i) hm hp him h;generalize hre:nth d.rules i=r at *;have hgr:=AL r.guards;have hot:=B5 r.out;obtain⟨j,hj⟩:∃j:Nat,r.to_=j:=⟨r.to_.toNat,by omega⟩;have hjn:j<n:=by omega
   rw[srtL];unfold rnB ruV;rw[hRe];refine W_T ?_;cases he:Cy r with
   |true =>
    have he0:(r.guards.length:Int)=0:=by simpa [Cy] using he
    have hIH:=ih (J5 dk n) (hlt dk (λa ha h=>(hm.m3 a ha).2 (.inl h)) ((hm.m3 s hs).2 (.inr (.inl rfl)))) j v1 dk (ord++new) (Ae _) hjn (hpre he j hj);(with_reducible repeat'(first|(simp(disch:=omega)only[push_cast,↓zz,seval,pR,pFi,pX,hFI,lB,pB,pI,aI,hre,hgr,hot,hj,i1,he0])|refine Aa ?_ ?_|(first|refine Ac ?_ ?_|refine Ab ?_ ?_)<;>intro hc<;>(try simp only[push_cast] at hc)|omega|intro _));refine T8 (l0:=srtL d x n FI v1 dk (ord++new)) (extra:=[_]) (by rw[srtL];unfold rnB ruV;rw[hRe,Ak];rfl) hIH ?_ (Ga d x n FI hFI _ _ _) ?_
    ·exact⟨(show 0<3 by omega),trivial,(show 1<3 by omega),trivial⟩
    rintro y H' ⟨v2,dn2,new2,rfl,rfl,hpost⟩;refine⟨_,rfl,rfl,trivial,Ga d x n FI hFI _ _ _,?_⟩;have hM:=hmid dn2 new2 ⟨he,j,hj,hpost⟩;rw[Aw];(with_reducible repeat'(first|(simp(disch:=omega)only[push_cast,↓zz,seval])|refine Aa ?_ ?_|(first|refine Ac ?_ ?_|refine Ab ?_ ?_)<;>intro hc<;>(try simp only[push_cast] at hc)|omega|intro _));refine⟨(k+1,v2,dn2,new++new2),Eu (gar:=[_]) _ rfl (by simp[srtL,hl_n]) (Ga d x n FI hFI _ _ _) ?_,⟨by omega,⟨hM⟩⟩,by simp only;omega⟩;exact⟨rfl,(show 0<3 by omega),rfl,trivial,rfl,(show 1<3 by omega),rfl,hI,rfl,trivial,rfl,trivial,trivial⟩
   |false =>
    have he0:¬(r.guards.length:Int)=0:=by simpa [Cy] using he
    (with_reducible repeat'(first|(simp(disch:=omega)only[push_cast,↓zz,seval,pR,pFi,pX,hFI,lB,pB,pI,aI,hre,hgr,hot,hj,i1,he0])|refine Aa ?_ ?_|(first|refine Ac ?_ ?_|refine Ab ?_ ?_)<;>intro hc<;>(try simp only[push_cast] at hc)|omega|intro _));refine⟨(k+1,v1,dk,new),Eu (gar:=[⟨5,1,true,[.agg [.int .i64 r.from_,.int .i64 j,Bs r.guards,.int .i64 r.eat,C9 r.out]]⟩]) _ ?_ (by simp[srtL,hl_n]) (Ga d x n FI hFI _ _ _) ?_,⟨by omega,⟨hskip he⟩⟩,by simp only;omega⟩
    ·simp only
     rw[srtL];unfold rnB ruV;rw[hRe,Ak];rfl
    ·exact⟨rfl,(show 0<3 by omega),rfl,trivial,rfl,(show 1<3 by omega),rfl,hI,rfl,trivial,rfl,trivial,trivial⟩
  ·obtain rfl:k=(ruI d.rules s).length:=by omega
   have hend:=zhc hm hp hs hsno hd
   have hol:(ord++new).length<=n:=by
    have:=IP (l:=ord++new) (m:=List.range n) hm.m5.1 λa ha=>Bo.2 (hm.m5.2 a ha);simpa using this
   have hEx:=Vg (e:=e1) (ord++new);have pO:AT ((ord++new).map e1)=true:=Dz (λ_=>rfl) _;have eO:(ord++(new++[s])).map e1=(ord++new).map e1++[.int .i64 (s:Int)]:=by simp
   have eL:(ord++(new++[s])).length=(ord++new).length+1:=by simp;omega
   have hfin:∀v1,srtL d x n FI (v1+1) dk (ord++(new++[s]))=[⟨11,1,true,[rnB d x (ruV d.rules n) FI (.ref 2 (v1+1) 0 ((ord++new).length+1)) .nilS]⟩,⟨1,1,true,spB n dk⟩,⟨1,v1+1,false,(ord++new).map e1++[.int .i64 (s:Int)]⟩]:=λv1=>by
    have he:(ord++(new++[s])).isEmpty=false:=by simp
    rw[srtL,gG,eO,eL,he]
   rw[srtL,gG];generalize ord++new=on at *;unfold rnB ruV;rw[hRe];refine W_T ?_;(with_reducible repeat'(first|(simp(disch:=omega)only[push_cast,↓zz,seval,pR,pFi,pX,hFI,lB,pB,pI,hEx,pO])|refine Aa ?_ ?_|(first|refine Ac ?_ ?_|refine Ab ?_ ?_)<;>intro hc<;>(try simp only[push_cast] at hc)|omega|intro _));refine⟨_,_,Rv (l0:=srtL d x n FI (v1+1) dk (ord++(new++[s]))) (gar:=[⟨1,1,true,[.int .i64 (s:Int)]⟩]) ?_ (by simp[srtL,hl_n]) (Ga d x n FI hFI _ _ _) trivial,v1+1,dk,new++[s],rfl,rfl,hend⟩;rw[hfin];unfold rnB ruV;rw[hRe];rfl
def lvB(n m:Nat)(L:Nat->Nat->Bool):List AV:=(List.range m).map λp=>AV.bool (L (p / n) (p % n))
def setP{β:Type}(L:Nat->Nat->β)(a t:Nat)(v:β):Nat->Nat->β:=λb u=>if b=a/\u=t then v else L b u
section
variable {n m a t:Nat}{L:Nat->Nat->Bool}
theorem Ll(h:t<n):(a * n+t) / n=a:=by
 rw[Dk,Nat.mul_add_div (by omega),Nat.div_eq_of_lt h,Nat.add_zero]
theorem Lm(h:t<n):(a * n+t) % n=t:=by
 rw[Dk,Nat.mul_add_mod,Fi h]
theorem XH{p:Nat}(h:t<n)(hp:p / n=a/\p % n=t):p=a * n+t:=by
 have:=Gu p n;rw[hp.1,hp.2,Dk] at this;exact this.symm
theorem Hr{k:Nat}(h:t<n)(ha:a<=k):a * n+t<(k+1) * n:=by
 have h1:a * n<=k * n:=AZ n ha;have h2:(k+1) * n=k * n+n:=Nat.succ_mul k n;omega
theorem K1:(lvB n m L).length=m:=by simp[lvB]
theorem MP:AT (lvB n m L)=true:=Ca.2 λx hx=>by
 obtain⟨i,_,rfl⟩:=Aq.1 hx;rfl
theorem zcv{z:AV}(ht:t<n)(hp:a * n+t<m):(lvB n m L).getD (a * n+t) z=.bool (L a t):=by
 rw[lvB,Dy hp,Ll ht,Lm ht]
theorem z5h{v:Bool}(ht:t<n)(hp:a * n+t<m):(lvB n m L).set (a * n+t) (.bool v)=lvB n m (setP L a t v):=by
 rw[lvB,EV hp,lvB];refine AQ λp _=>?_;simp only[setP];by_cases e:p=a * n+t
 ·subst e;rw[Ai rfl,Ll ht,Lm ht,Ai ⟨rfl,rfl⟩]
 ·rw[Ah e,Ah λh=>e (XH ht h)]
theorem zb7:List.replicate m (AV.bool false)=lvB n m λ_ _=>false:=by
 refine C7 (by simp[lvB]) λi h1 h2=>?_;simp[lvB]
end
structure Liv(d:Desc)(x:List Int)(n:Nat)(ord:List Nat)(at_ j:Nat)(L:Nat->Nat->Bool):Prop where
 start:L 0 d.start.toNat=true
 lead:∀a t,L a t=true->t<n/\a<=x.length/\∃u,Vr d x 0 d.start u a t
 clos:∀a t,(a<at_\/(a=at_/\t∈ord.drop (n-j)))->L a t=true->∀r∈d.rules,r.from_=(t:Nat)->goB x r.guards a=true->L (a+r.eat.toNat) r.to_.toNat=true
structure LivS(d:Desc)(x:List Int)(n:Nat)(ord:List Nat)(at_ j s k:Nat)(L:Nat->Nat->Bool):Prop where
 liv:Liv d x n ord at_ j L
 on:L at_ s=true
 some_:∀i,i<k->goB x (nth d.rules (nth (ruI d.rules s) i)).guards at_=true->L (at_+(nth d.rules (nth (ruI d.rules s) i)).eat.toNat) (nth d.rules (nth (ruI d.rules s) i)).to_.toNat=true
structure LivE(d:Desc)(x:List Int)(n:Nat)(L:Nat->Nat->Bool):Prop where
 start:L 0 d.start.toNat=true
 lead:∀a t,L a t=true->t<n/\a<=x.length/\∃u,Vr d x 0 d.start u a t
 clos:∀a t,L a t=true->∀r∈d.rules,r.from_=(t:Nat)->goB x r.guards a=true->L (a+r.eat.toNat) r.to_.toNat=true
section
variable {d:Desc}{x:List Int}{n:Nat}{ord:List Nat}{at_ j s k:Nat}{L:Nat->Nat->Bool}
theorem Fj(ht:Topo d.rules n ord):ord.length=n:=by
 have h1:=IP (l:=ord) (m:=List.range n) ht.nodup λa ha=>Bo.2 ((ht.all a).1 ha);have h2:=IP (l:=List.range n) (m:=ord) Ev λa ha=>(ht.all a).2 (Bo.1 ha);simp at h1 h2;omega
theorem zb8(hs:0<=d.start/\d.start<n)(hol:ord.length=n):Liv d x n ord 0 0 (setP (λ_ _=>false) 0 d.start.toNat true):=by
 refine⟨by simp[setP],λa t h=>?_,λa t h hL=>?_⟩
 ·simp only[setP] at h
  split at h
  ·rename_i e
   obtain⟨rfl,rfl⟩:=e;refine⟨by omega,AD _,[],?_⟩;rw[BG hs.1];exact .here
  ·cases h
 ·rcases h with h|⟨_,h⟩
  ·omega
  ·rw[A6 (by omega)] at h;cases h
theorem z5i(h:Liv d x n ord at_ j L)(ho:L at_ s=true):LivS d x n ord at_ j s 0 L:=⟨h,ho,λi hi=>absurd hi (Bh _)⟩
theorem zhd(h:LivS d x n ord at_ j s k L)(hno:goB x (nth d.rules (nth (ruI d.rules s) k)).guards at_=false):LivS d x n ord at_ j s (k+1) L:=by
 refine⟨h.liv,h.on,λi hi hg=>?_⟩;rcases An i k with h1|h1
 ·exact h.some_ i h1 hg
 ·obtain rfl:i=k:=by omega
  rw[hno] at hg;cases hg
theorem zb9(h:LivS d x n ord at_ j s k L)(hg:Goes d n)(ht:Topo d.rules n ord)(hj:j<n)(hs:s=nth ord (n-1-j))(hk:k<(ruI d.rules s).length)(hgo:goB x (nth d.rules (nth (ruI d.rules s) k)).guards at_=true):
 LivS d x n ord at_ j s (k+1) (setP L (at_+(nth d.rules (nth (ruI d.rules s) k)).eat.toNat) (nth d.rules (nth (ruI d.rules s) k)).to_.toNat true):=by
 obtain⟨i1,i2⟩:=Ig.1 (B2 hk);have hr:=B2 i1;generalize hre:nth d.rules (nth (ruI d.rules s) k)=r at *;obtain⟨hf,htt,he1,he2⟩:=hg.r r hr;have hle:=Kf hgo
 have mono:∀a t,L a t=true->setP L (at_+r.eat.toNat) r.to_.toNat true a t=true:=λa t hl=>by
  simp only[setP];split
  ·rfl
  ·exact hl
 have hol:=Fj ht;refine⟨⟨mono _ _ h.liv.start,λa t hl=>?_,λa t hp hl q hq hqf hqg=>mono _ _ ?_⟩,mono _ _ h.on,λi hi hgi=>?_⟩
 ·simp only[setP] at hl
  split at hl
  ·rename_i e
   obtain⟨rfl,rfl⟩:=e;obtain⟨_,_,u,hu⟩:=h.liv.lead _ _ h.on;refine⟨by omega,by omega,u++EC x r.out r.guards at_,?_⟩;have:=hu.step r hr i2 hgo
   rwa [BG htt.1]
  ·exact h.liv.lead a t hl
 ·refine h.liv.clos a t hp ?_ q hq hqf hqg
  simp only[setP] at hl;split at hl
  ·rename_i e
   exfalso;obtain⟨rfl,rfl⟩:=e;rcases hp with hp|⟨hp,hm⟩
   ·omega
   ·have e0:r.eat.toNat=0:=by omega
    have heps:Cy r=true:=by
     cases hh:Cy r with
     |true=>rfl
     |false=>have:=he2 hh;omega
    obtain⟨t,t1,t2⟩:=ht.eps (n-1-j) (by omega) r hr heps (by rw[<-hs];exact i2);have e3:r.to_.toNat=t:=by omega
    rw[e3] at hm;have hm2:t∈ord.drop (n-1-j):=BX (i:=1) (by rw[FE,show n-1-j+1=n-j by omega];exact hm);have hnd:=ht.nodup;rw[<-Ch (n-1-j) ord,Dr] at hnd;exact hnd.2.2 t t2 t hm2 rfl
  ·exact hl
 ·rcases An i k with h1|h1
  ·exact mono _ _ (h.some_ i h1 hgi)
  ·obtain rfl:i=k:=by omega
   rw[hre];simp[setP]
theorem Mw{l:List Nat}{i t:Nat}(hi:i<l.length)(h:t∈l.drop i):t=nth l i\/t∈l.drop (i+1):=by
 rw[drop_at hi,Ag] at h;exact h
theorem zba(h:LivS d x n ord at_ j s (ruI d.rules s).length L)(ht:Topo d.rules n ord)(hj:j<n)(hs:s=nth ord (n-1-j)):Liv d x n ord at_ (j+1) L:=by
 have hol:=Fj ht;refine⟨h.liv.start,h.liv.lead,λa t hp hl q hq hqf hqg=>?_⟩;rcases hp with hp|⟨rfl,hm⟩
 ·exact h.liv.clos a t (.inl hp) hl q hq hqf hqg
 ·rw[show n-(j+1)=n-1-j by omega] at hm
  rcases Mw (by omega) hm with h1|h1
  ·rw[<-hs] at h1
   subst h1;obtain⟨i,hi,rfl⟩:=Bw hq;have e:nth d.rules i=d.rules[i]:=GK hi;obtain⟨p,hp,hpe⟩:=Bw (Ig.2 ⟨hi,by rw[e];exact hqf⟩);have e2:nth (ruI d.rules t) p=i:=by rw[GK hp];exact hpe
   have:=h.some_ p hp (by rw[e2,e];exact hqg)
   rwa [e2,e] at this
  ·exact h.liv.clos a t (.inr ⟨rfl,by rwa [show n-j=n-1-j+1 by omega]⟩) hl q hq hqf hqg
theorem zbb(h:Liv d x n ord at_ j L)(ht:Topo d.rules n ord)(hj:j<n)(hs:s=nth ord (n-1-j))(ho:L at_ s=false):Liv d x n ord at_ (j+1) L:=by
 have hol:=Fj ht;refine⟨h.start,h.lead,λa t hp hl q hq hqf hqg=>?_⟩;rcases hp with hp|⟨rfl,hm⟩
 ·exact h.clos a t (.inl hp) hl q hq hqf hqg
 ·rw[show n-(j+1)=n-1-j by omega] at hm
  rcases Mw (by omega) hm with h1|h1
  ·rw[<-hs] at h1
   subst h1;rw[ho] at hl;cases hl
  ·exact h.clos a t (.inr ⟨rfl,by rwa [show n-j=n-1-j+1 by omega]⟩) hl q hq hqf hqg
theorem zhe(h:Liv d x n ord at_ n L)(ht:Topo d.rules n ord):Liv d x n ord (at_+1) 0 L:=by
 have hol:=Fj ht;refine⟨h.start,h.lead,λa t hp hl q hq hqf hqg=>?_⟩;rcases hp with hp|⟨_,hm⟩
 ·rcases An a at_ with h1|h1
  ·exact h.clos a t (.inl h1) hl q hq hqf hqg
  ·refine h.clos a t (.inr ⟨by omega,?_⟩) hl q hq hqf hqg
   rw[Nat.sub_self,CM];exact (ht.all t).2 (h.lead a t hl).1
 ·rw[Nat.sub_zero,A6 (by omega)] at hm;cases hm
theorem zhf(h:Liv d x n ord (x.length+1) 0 L):LivE d x n L :=
 ⟨h.start,h.lead,λa t hl q hq hqf hqg=>h.clos a t (.inl (by have:=(h.lead a t hl).2.1;omega)) hl q hq hqf hqg⟩
structure Qo(l:List Rule)(n k:Nat)(dn:Nat->Bool)(ord:List Nat):Prop where
 a1:∀a,a<n->(dn a=true↔a∈ord)
 a2:Vu l ord
 a3:ord.Nodup/\∀a∈ord,a<n
 a4:∀a,a<k->a∈ord
theorem Vv(l:List Rule)(n:Nat):Qo l n 0 (λ_=>false) [] :=
 ⟨λa _=>by simp,λi hi=>absurd hi (Bh _),⟨D3,λa h=>by cases h⟩,λa h=>absurd h (Bh _)⟩
theorem Z7{l:List Rule}{dn:Nat->Bool}(h:Qo l n k dn ord):Qn l n dn ord k :=
 ⟨λa ha=>(h.a1 a (h.a3.2 a ha)).2 ha,λa ha hd=>.inl ((h.a1 a ha).1 hd),h.a2,h.a3⟩
theorem Vw{l:List Rule}{dn dn':Nat->Bool}{new:List Nat}(h:Qo l n k dn ord)(hp:R8 l n dn ord k dn' new):Qo l n (k+1) dn' (ord++new):=by
 refine⟨λa ha=>?_,hp.q4,hp.q5,λa ha=>?_⟩
 ·rw[hp.q3 a ha,h.a1 a ha,Au]
 ·rcases An a k with h1|h1
  ·exact Dq _ (h.a4 a h1)
  ·obtain rfl:a=k:=by omega
   exact hp.q2
theorem Vx{l:List Rule}{dn:Nat->Bool}(h:Qo l n n dn ord):Topo l n ord :=
 ⟨h.a3.1,λs=>⟨h.a3.2 s,h.a4 s⟩,h.a2⟩
end
section
variable {d:Desc}{x:List Int}{n:Nat}{ord:List Nat}{L:Nat->Nat->Bool}
def Past(ord:List Nat)(at_ j a t:Nat):Prop:=at_<a\/(a=at_/\t∈ord.take j)
theorem zbc{at_ a t:Nat}(hol:ord.length=n)(ht:t∈ord)(h:Past ord at_ 0 a t):Past ord (at_+1) n a t:=by
 rcases h with h|⟨_,h⟩
 ·rcases An (at_+1) a with h1|h1
  ·exact .inl h1
  ·exact .inr ⟨by omega,by rw[Ar (by omega)];exact ht⟩
 ·simp at h
theorem TR{at_ j a t:Nat}(hj:j<ord.length)(h:Past ord at_ (j+1) a t):Past ord at_ j a t\/(a=at_/\t=nth ord j):=by
 rcases h with h|⟨h1,h⟩
 ·exact .inl (.inl h)
 ·rw[take_at hj,Au,As] at h
  rcases h with h|h
  ·exact .inl (.inr ⟨h1,h⟩)
  ·exact .inr ⟨h1,h⟩
theorem Vy(hg:Goes d n)(ht:Topo d.rules n ord){at_ j:Nat}(hj:j<n){r:Rule}(hr:r∈d.rules)(hf:r.from_=(nth ord j:Nat)):Past ord at_ j (at_+r.eat.toNat) r.to_.toNat:=by
 obtain⟨_,htt,he1,he2⟩:=hg.r r hr;cases he:Cy r with
 |true =>
  have e0:=R7 hg hr he;obtain⟨t,t1,t2⟩:=ht.eps j (by rw[Fj ht];exact hj) r hr he hf;refine .inr ⟨by omega,?_⟩;rw[show r.to_.toNat=t by omega];exact t2
 |false=>exact .inl (by have:=he2 he;omega)
theorem zhg(hg:Goes d n)(ht:Topo d.rules n ord)(ho:(∀r∈d.rules,r.out.length<=64)/\∀f∈d.finals,f.out.length<=64):∀(k at_:Nat),x.length-at_<k->at_<=x.length->∀i,i<=n->∀s∈ord.take i,∀w,RelW d x at_ (s:Nat) w->w.length<=64 * ((x.length-at_) * n+i):=by
 have hl:∀(out:List Term) gs a,(EC x out gs a).length=out.length:=λout gs a=>by simp[EC,D9]
 have hol:=Fj ht;intro k
 induction k with
 |zero=>intro at_ h;omega
 |succ k ih =>
  intro at_ hk ha i
  induction i with
  |zero=>intro _ s hs;simp at hs
  |succ i ihi =>
   intro hi s hs w hw;rw[take_at (by omega),Au,As] at hs;rcases hs with hs|rfl
   ·have:=ihi (by omega) s hs w hw
    omega
   ·rcases MO.1 hw with⟨f,hf,_,_,rfl⟩|⟨r,hr,hf,hgo,v,hv,rfl⟩
    ·rw[hl]
     have:=ho.2 f hf;have:64 * ((x.length-at_) * n+i+1)≥64:=by omega
     omega
    ·rw[Ak,hl]
     have h64:=ho.1 r hr;obtain⟨_,htt,e1,e2⟩:=hg.r r hr;have hle:=Kf hgo;have hv2:RelW d x (at_+r.eat.toNat) (r.to_.toNat:Nat) v:=by rw[BG htt.1];exact hv
     have key:v.length<=64 * ((x.length-at_) * n+i):=by
      rcases Vy (at_:=at_) hg ht (by omega:i<n) hr hf with hp|⟨hp,hm⟩
      ·have h1:=ih (at_+r.eat.toNat) (by omega) (by omega) n (Ae _) r.to_.toNat (by rw[Ar (by omega)];exact (ht.all _).2 (by omega)) v hv2
       have h2:(x.length-(at_+r.eat.toNat)) * n+n<=(x.length-at_) * n:=by
        rw[<-Nat.succ_mul];exact AZ n (by omega)
       omega
      ·rw[hp] at hv2
       exact ihi (by omega) _ hm v hv2
     omega
theorem R9(hg:Goes d n)(ht:Topo d.rules n ord)(ho:(∀r∈d.rules,r.out.length<=64)/\∀f∈d.finals,f.out.length<=64)(hn:n<=1024)(hx:x.length<=1024){at_ s:Nat}(ha:at_<=x.length)(hs:s<n){w:List Int}(hw:RelW d x at_ s w):w.length<=100000000:=by
 have h1:=zhg hg ht ho (x.length-at_+1) at_ (by omega) ha n (Ae _) s (by rw[Ar (by rw[Fj ht];omega)];exact (ht.all s).2 hs) w hw;have h2:(x.length-at_) * n<=1024 * 1024:=CN (by omega) hn;omega
structure OutI(d:Desc)(x:List Int)(L:Nat->Nat->Bool)(ord:List Nat)(most:Nat)(at_ j:Nat)(S:Nat->Nat->List (List Int))(many:Bool):Prop where
 no:many=false->∀a t,a<=x.length->L a t=true->Past ord at_ j a t->S a t=outW d x a t/\(S a t).length<=most
 yes:many=true->∃a t,L a t=true/\most<(outW d x a t).length
variable {most at_ j:Nat}{S:Nat->Nat->List (List Int)}{many:Bool}
theorem z5j(ho:ord.length=n):OutI d x L ord most x.length 0 (λ_ _=>[]) false:=by
 refine⟨λ_ a t ha _ hp=>?_,λh=>by cases h⟩;rcases hp with h|⟨_,h⟩
 ·omega
 ·simp at h
theorem z5k(h:OutI d x L ord most at_ j S true)(at2 j2:Nat):OutI d x L ord most at2 j2 S true:=⟨λh=>(by cases h),h.yes⟩
theorem z5l(h:OutI d x L ord most at_ j S many)(hj:j<ord.length)(ho:L at_ (nth ord j)=false):OutI d x L ord most at_ (j+1) S many:=by
 refine⟨λhm a t ha hl hp=>?_,h.yes⟩;rcases TR hj hp with h1|⟨rfl,rfl⟩
 ·exact h.no hm a t ha hl h1
 ·rw[ho] at hl;cases hl
theorem zbd(h:OutI d x L ord most (at_+1) n S many)(hl:LivE d x n L)(ht:Topo d.rules n ord):OutI d x L ord most at_ 0 S many:=⟨λhm a t ha hlt hp=>h.no hm a t ha hlt (zbc (Fj ht) ((ht.all t).2 (hl.lead a t hlt).1) hp),h.yes⟩
theorem Mx(hg:Goes d n)(ht:Topo d.rules n ord){a t:Nat}(ha:a<=x.length)(hs:t<n):IZ d x a t (outW d x a t):=TN (zlm hg ht (x.length-a+1) a (by omega) ha t hs)
theorem zhh(h:OutI d x L ord most at_ j S false)(hl:LivE d x n L)(hg:Goes d n)(ht:Topo d.rules n ord)(hj:j<n)(ha:at_<=x.length)(hlv:L at_ (nth ord j)=true):JW (outL d x (λa t=>S a t.toNat) at_ (nth ord j:Nat))=outW d x at_ (nth ord j:Nat):=by
 refine (z5f (XF λr hr hf hgo=>?_)).symm;obtain⟨_,htt,e1,e2⟩:=hg.r r hr;have hle:=Kf hgo;have h1:=h.no rfl (at_+r.eat.toNat) r.to_.toNat (by omega) (hl.clos _ _ hlv r hr hf hgo) (Vy hg ht hj hr hf);have h2:=Mx hg ht (x:=x) (a:=at_+r.eat.toNat) (t:=r.to_.toNat) (by omega) (by omega);rw[<-h1.1,BG htt.1] at h2;exact h2
theorem z5m(h:OutI d x L ord most at_ j S false)(hl:LivE d x n L)(hg:Goes d n)(ht:Topo d.rules n ord)(hj:j<n)(ha:at_<=x.length)(hlv:L at_ (nth ord j)=true){M:List (List Int)}(hM:M=outW d x at_ (nth ord j:Nat)):OutI d x L ord most at_ (j+1) (setP S at_ (nth ord j) M) (decide (most<M.length)):=by
 refine⟨λhm a t hal hlt hp=>?_,λhm=>?_⟩
 ·simp only[Cr,Nat.not_lt] at hm
  simp only[setP];by_cases e:a=at_/\t=nth ord j
  ·rw[Ai e]
   obtain⟨rfl,rfl⟩:=e;exact⟨hM,hm⟩
  ·rw[Ah e]
   rcases TR (by rw[Fj ht];exact hj) hp with h1|h1
   ·exact h.no rfl a t hal hlt h1
   ·exact absurd h1 e
 ·simp only[Aj] at hm
  exact⟨at_,nth ord j,hlv,by rw[<-hM];exact hm⟩
theorem zbe(h:OutI d x L ord most 0 n S many)(hl:LivE d x n L)(hg:Goes d n)(ht:Topo d.rules n ord)(hs:0<=d.start/\d.start<n):many=decide (most<(outW d x 0 d.start).length)/\(many=false->S 0 d.start.toNat=outW d x 0 d.start):=by
 have hst:((d.start.toNat:Nat):Int)=d.start:=BG hs.1;have hO:=Mx hg ht (x:=x) (a:=0) (t:=d.start.toNat) (AD _) (by omega);rw[hst] at hO;cases many with
 |false =>
  have h1:=h.no rfl 0 d.start.toNat (AD _) hl.start (.inr ⟨rfl,by rw[Ar (by rw[Fj ht];omega)];exact (ht.all _).2 (by omega)⟩);rw[hst] at h1;have h2:=h1.2;rw[h1.1] at h2;refine⟨?_,λ_=>h1.1⟩;rw[eq_comm,Cr];omega
 |true =>
  obtain⟨a,t,h1,h2⟩:=h.yes rfl;obtain⟨k1,k2,u,hu⟩:=hl.lead a t h1;have:=XG hu (Mx hg ht k2 k1) hO;refine⟨?_,λh=>by cases h⟩;rw[eq_comm,Aj];omega
theorem zbf(hl:LivE d x n L)(hg:Goes d n)(ht:Topo d.rules n ord)(hs:0<=d.start/\d.start<n){a t:Nat}(h:L a t=true):(outW d x a t).length<=(outW d x 0 d.start).length:=by
 have hst:((d.start.toNat:Nat):Int)=d.start:=BG hs.1;have hO:=Mx hg ht (x:=x) (a:=0) (t:=d.start.toNat) (AD _) (by omega);rw[hst] at hO;obtain⟨k1,k2,u,hu⟩:=hl.lead a t h;exact XG hu (Mx hg ht k2 k1) hO
end
set_option maxRecDepth 100000
def TS(xs:List Nat):List (List AV):=(List.range xs.length).map λ(k:Nat)=>[AV.int .i64 ((xs.length:Int)-1-(k:Int)),e1 (nth xs (xs.length-1-k))]
theorem OA(xs:List Nat):(TS xs).length=xs.length:=by simp[TS]
theorem XI{xs:List Nat}{k:Nat}(h:k<xs.length):(TS xs)[k]? = some [AV.int .i64 ((xs.length:Int)-1-k),e1 (nth xs (xs.length-1-k))]:=by
 simp[TS,h]
theorem z5n{xs:List Nat}{k:Nat}{row:List AV}(h:(TS xs)[k]? = some row):k<xs.length/\row=[AV.int .i64 ((xs.length:Int)-1-k),e1 (nth xs (xs.length-1-k))]:=by
 have hk:k<xs.length:=by rw[<-OA xs];exact (Bq.1 h).1
 rw[XI hk] at h;exact⟨hk,(Do h).symm⟩
theorem Z8(xs:List Nat):∀r∈TS xs,∀x∈r,Flat x:=λr hr x hx=>by
 obtain⟨k,_,rfl⟩:=Aq.1 hr;simp only[Ag,Am,A5] at hx;rcases hx with rfl|rfl<;>exact λS=>rfl
theorem z5o(xs:List Nat):∀r∈TS xs,r.length=2:=λr hr=>by
 obtain⟨k,_,rfl⟩:=Aq.1 hr;rfl
theorem z5p(xs:List Nat)(hl:xs.length<=1000000000000):SO Tryz.prog 134 [.cptr (.lst 1 (xs.map e1))] (TS xs):=by
 have pX:AT (xs.map e1)=true:=Dz (λ_=>rfl) _;refine z2i H8 λI hP hr=>?_;show TI I _ E7 _ _ _ _;unfold E7;refine HS (TI_v hP (by rfl) ?_);(with_reducible repeat'(first|(simp(disch:=omega)only[push_cast,↓zz,seval,pX])|refine Aa ?_ ?_|(first|refine Ac ?_ ?_|refine Ab ?_ ?_)<;>intro hc<;>(try simp only[push_cast] at hc)|omega|intro _));refine (IE (UF (λ(t:Nat) s env H=>t<=xs.length/\s=some t/\∀p∈[(0,AV.yld I.l),(1,AV.cptr (.lst 1 (xs.map e1))),(3,AV.int .i64 ((xs.length:Int)-1-t))],env p.1=p.2) (λt=>xs.length-t) 0 ?_ ?_):TI I 19 _ _ _ _ _)
 ·refine⟨AD _,rfl,?_⟩
  simp only[Ag,Am,A5,C8,EM];refine⟨rfl,rfl,?_⟩;show AV.int .i64 ((xs.length:Int)-1)=AV.int .i64 ((xs.length:Int)-1-((0:Nat):Int));simp
 rintro t s env H ⟨ht,rfl,hlv⟩;refine z3r (live:=[(0,AV.yld I.l),(1,AV.cptr (.lst 1 (xs.map e1))),(3,AV.int .i64 ((xs.length:Int)-1-t))]) (λp hp=>⟨hlv p hp,?_⟩) ?_
 ·simp only[Ag,Am,A5] at hp
  rcases hp with rfl|rfl|rfl<;>first|rfl|exact pX
 refine HS (TI_v hP (by rfl) ?_);(with_reducible repeat'(first|(simp(disch:=omega)only[push_cast,↓zz,seval])|refine Aa ?_ ?_|(first|refine Ac ?_ ?_|refine Ab ?_ ?_)<;>intro hc<;>(try simp only[push_cast] at hc)|omega|intro _))
 ·have htl:t<xs.length:=by omega
  have hrow:=XI htl
  have aX:(xs.map e1).getD (xs.length-1-t) .any=.int .i64 (nth xs (xs.length-1-t):Nat):=by
   have:xs.length-1-t<xs.length:=by omega
   simp[nth,List.getD,this]
  have hcast:((xs.length:Int)-1-t).toNat=xs.length-1-t:=by omega
  have hnx:(xs.length:Int)-1-t-1=(xs.length:Int)-1-((t+1:Nat):Int):=by push_cast;omega
  rw[show e1 (nth xs (xs.length-1-t))=AV.int .i64 ((nth xs (xs.length-1-t):Nat):Int) from rfl] at hrow;generalize nth xs (xs.length-1-t)=z at *;refine (HS (IE (HS ?_)):TI I 19 _ _ _ _ _);refine Wu (pre:=[_,_,_,_,_,_]) (post:=[_]) rfl rfl ?_;rw[hP,<-Lu];(with_reducible repeat'(first|(simp(disch:=omega)only[push_cast,↓zz,seval,pX,aX,hcast])|refine Aa ?_ ?_|(first|refine Ac ?_ ?_|refine Ab ?_ ?_)<;>intro hc<;>(try simp only[push_cast] at hc)|omega|intro _));refine⟨[AV.int .i64 ((xs.length:Int)-1-t),AV.int .i64 (z:Int)],rfl,?_,by rw[hr];exact hrow,?_,?_⟩
  ·intro x hx
   simp only[Ag,Am,A5] at hx;rcases hx with rfl|rfl<;>exact λS v hv=>hv
  ·rw[<-Lu]
   (with_reducible repeat'(first|(simp(disch:=omega)only[push_cast,↓zz,seval])|refine Aa ?_ ?_|(first|refine Ac ?_ ?_|refine Ab ?_ ?_)<;>intro hc<;>(try simp only[push_cast] at hc)|omega|intro _));refine (TI_v hP ?q1 ?_:TI I 19 _ _ _ _ _)
   case q1=>rfl
   (with_reducible repeat'(first|(simp(disch:=omega)only[push_cast,↓zz,seval])|refine Aa ?_ ?_|(first|refine Ac ?_ ?_|refine Ab ?_ ?_)<;>intro hc<;>(try simp only[push_cast] at hc)|omega|intro _));refine (TI_v hP ?q2 ?_:TI I 19 _ _ _ _ _)
   case q2=>rfl
   (with_reducible repeat'(first|(simp(disch:=omega)only[push_cast,↓zz,seval])|refine Aa ?_ ?_|(first|refine Ac ?_ ?_|refine Ab ?_ ?_)<;>intro hc<;>(try simp only[push_cast] at hc)|omega|intro _));refine⟨t+1,⟨by omega,rfl,rfl,rfl,?_⟩,by omega⟩;show AV.int .i64 ((xs.length:Int)-1-t-1)=AV.int .i64 ((xs.length:Int)-1-((t+1:Nat):Int));rw[hnx]
  ·rw[<-Lu]
   (with_reducible repeat'(first|(simp(disch:=omega)only[push_cast,↓zz,seval])|refine Aa ?_ ?_|(first|refine Ac ?_ ?_|refine Ab ?_ ?_)<;>intro hc<;>(try simp only[push_cast] at hc)|omega|intro _));refine (TI_v hP ?q3 ?_:TI I 19 _ _ _ _ _)
   case q3=>rfl
   (with_reducible repeat'(first|(simp(disch:=omega)only[push_cast,↓zz,seval])|refine Aa ?_ ?_|(first|refine Ac ?_ ?_|refine Ab ?_ ?_)<;>intro hc<;>(try simp only[push_cast] at hc)|omega|intro _));exact⟨trivial,.inr rfl⟩
 ·refine⟨trivial,.inl ?_⟩
  rw[OA];congr 1;omega
theorem OB(xs:List Nat)(hl:xs.length<=1000000000000):PC Tryz.prog 102 [.lst 1 (xs.map e1)] (.fn 134 [.cptr (.lst 1 (xs.map e1))]):=by
 have pX:AT (xs.map e1)=true:=Dz (λ_=>rfl) _;refine BV Ia ?_;unfold Gq;(with_reducible repeat'(first|(simp(disch:=omega)only[push_cast,↓zz,seval,pX])|refine Aa ?_ ?_|(first|refine Ac ?_ ?_|refine Ab ?_ ?_)<;>intro hc<;>(try simp only[push_cast] at hc)|omega|intro _))
 all_goals trace_state
set_option maxRecDepth 100000
def IQ{β:Type}[Inhabited β](fr:β->Int)(l:List β)(k:Nat)(s:Nat):List Nat:=(List.range k).filter λi=>decide (fr (nth l i)=(s:Int))
section
variable {β:Type}[Inhabited β]{fr:β->Int}{l:List β}
theorem OC(k s:Nat):(IQ fr l k s).length<=k:=by
 have:=B7 (λi=>decide (fr (nth l i)=(s:Int))) (List.range k);simpa [IQ] using this
theorem Qp{k i:Nat}(hi:fr (nth l k)=i):IQ fr l (k+1)=setD (IQ fr l k) i (IQ fr l k i++[k]):=by
 funext s;simp only[IQ,Cq,BM,BH,List.filter_nil,hi,Aj,setD];by_cases e:s=i
 ·subst e;simp
 ·rw[Ah (by omega),Ah e];simp
end
def fiI(l:List Es)(s:Nat):List Nat:=IQ (·.from_) l l.length s
theorem zbg(l:List Rule):IQ (·.from_) l l.length=ruI l:=rfl
def bgL(d:Desc)(x:List Int)(R F:AV)(n:Nat)(T1 T2:Grp):List Grp:=[⟨1,1,true,[.ptr 1 1 0 0]⟩,⟨11,1,true,[rnB d x R F .nilS .nilS]⟩,T1,T2,⟨6,1,true,[Dm d]⟩]
def bgR(d:Desc)(x:List Int)(n k:Nat)(V:Nat->Nat):List Grp:=bgL d x (.ref 2 1 0 n) (.ref 3 1 0 n) n ⟨1,1,true,fT 5 n V (IQ (·.from_) d.rules k)⟩ ⟨1,1,true,List.replicate n .nilS⟩++fF 1 e1 n V (IQ (·.from_) d.rules k)
def bgF(d:Desc)(x:List Int)(n k:Nat)(V:Nat->Nat):List Grp:=bgL d x (ruV d.rules n) (.ref 3 1 0 n) n ⟨0,2,false,[]⟩ ⟨1,1,true,fT 5 n V (IQ (·.from_) d.finals k)⟩++fF 1 e1 n V (IQ (·.from_) d.finals k)
theorem Vz(d:Desc)(x:List Int)(n k:Nat)(V:Nat->Nat):(bgR d x n k V).length=n+5:=by simp[bgR,bgL,He]
theorem V0(d:Desc)(x:List Int)(n k:Nat)(V:Nat->Nat):(bgF d x n k V).length=n+5:=by simp[bgF,bgL,He]
theorem I5{d:Desc}{x:List Int}{R F:AV}{n m:Nat}{T1 T2:Grp}(hm:5<=m)(hR:ltV m R)(hF:ltV m F)(h1:ltL m T1.xs)(h2:ltL m T2.xs):∀G∈bgL d x R F n T1 T2,ltL m G.xs:=λG hG=>by
 have q1:ltV m (DF d.rules):=Ce _ _ (B8 _);have q2:ltV m (Fb d.finals):=Ce _ _ (B6 _);have q3:ltV m (Bf x):=Ce _ _ (Cv .i32 _);simp only[bgL,Ag,Am,A5] at hG;rcases hG with rfl|rfl|rfl|rfl|rfl
 ·exact⟨(show 1<m by omega),trivial⟩
 ·exact⟨⟨trivial,trivial,trivial,trivial,q1,q2,q3,hR,hF,trivial,trivial,trivial⟩,trivial⟩
 ·exact h1
 ·exact h2
 ·exact CS _ _ (by simp[AT,GR])
theorem Z9(d:Desc)(x:List Int)(n k:Nat)(V:Nat->Nat):∀G∈bgR d x n k V,ltL (bgR d x n k V).length G.xs:=λG hG=>by
 rw[Vz];rcases Au.1 hG with hG|hG
 ·have a1:ltV (n+5) (.ref 2 1 0 n):=show 2<n+5 by omega
  have a2:ltV (n+5) (.ref 3 1 0 n):=show 3<n+5 by omega
  exact I5 (by omega) a1 a2 (PW (by omega)) (CS _ _ (FZ n)) G hG
 ·exact PX (λ_=>rfl) G hG
theorem ZA(d:Desc)(x:List Int)(n k:Nat)(V:Nat->Nat):∀G∈bgF d x n k V,ltL (bgF d x n k V).length G.xs:=λG hG=>by
 rw[V0];rcases Au.1 hG with hG|hG
 ·have a1:ltV (n+5) (ruV d.rules n):=Ce _ _ (show AT _=true from E9 λ_=>rfl)
  have a2:ltV (n+5) (.ref 3 1 0 n):=show 3<n+5 by omega
  exact I5 (T1:=⟨0,2,false,[]⟩) (by omega) a1 a2 trivial (PW (by omega)) G hG
 ·exact PX (λ_=>rfl) G hG
theorem XJ{d:Desc}{x:List Int}{R F:AV}{n:Nat}{T1 T2:Grp}{Fm:List Grp}(hF:Fm.length=n)(t:Nat)(ht:t=2\/t=3):Fv 0 (fKs t 5 n) (bgL d x R F n T1 T2++Fm)=bgL d x R F n (if t=2 then T1.dead else T1) (if t=3 then T2.dead else T2)++Fm.map Grp.dead:=by
 have m0:(0:Nat)∉fKs t 5 n:=GT (by omega) (by omega);have m1:(1:Nat)∉fKs t 5 n:=GT (by omega) (by omega);have m4:(4:Nat)∉fKs t 5 n:=GT (by omega) (by omega)
 have hK:Fv 5 (fKs t 5 n) Fm=Fm.map Grp.dead:=O1 λj hj=>by
  rw[Cm];exact Ru (by omega)
 rw[T6];have e5:0+(bgL d x R F n T1 T2).length=5:=rfl;rw[e5,hK,bgL,FA,FA,FA,FA,FA,Wl,Ah m0,Ah m1,Ah m4];rcases ht with rfl|rfl
 ·rw[Ai (show (0+1+1:Nat)∈fKs 2 5 n by simp[fKs]),Ah (show (0+1+1+1:Nat)∉fKs 2 5 n from GT (by omega) (by omega))]
  rfl
 ·rw[Ah (show (0+1+1:Nat)∉fKs 3 5 n from GT (by omega) (by omega)),Ai (show (0+1+1+1:Nat)∈fKs 3 5 n by simp[fKs])]
  rfl
theorem ZB{m b:Nat}{env:Env}(d:Desc)(x:List Int)(n:Nat)(V:Nat->Nat):Ent m b env (Abs.hl (bgR d x n d.rules.length V)) env (Abs.hl (bgL d x (ruV d.rules n) (.ref 3 1 0 n) n ⟨0,2,false,[]⟩ ⟨1,1,true,List.replicate n .nilS⟩++(fF 1 e1 n V (ruI d.rules)).map Grp.dead)):=by
 have h1:(Abs.hl (bgR d x n d.rules.length V)).at_ 2=⟨1,1,true,fT 5 n V (ruI d.rules)⟩:=rfl
 have h2:∀i,i<n->(Abs.hl (bgR d x n d.rules.length V)).at_ (i+5)=gG 1 e1 (V i) (ruI d.rules i):=λi hi=>by
  rw[bgR,DT,bgL];simp only[List.cons_append,List.nil_append,C1];exact M8 hi
 obtain⟨f1,f2⟩:=O0 (w:=1) (e:=e1) (by decide) (λ_=>rfl) h1 h2;refine J0 (g:=1) (w:=11) (v:=1) (d:=2) (ex:=true) (xs:=[rnB d x (.ref 2 1 0 n) (.ref 3 1 0 n) .nilS .nilS]) (ys:=[rnB d x (ruV d.rules n) (.ref 3 1 0 n) .nilS .nilS]) (fKs 2 5 n) (by decide) (by rw[Vz];omega) rfl (GT (by decide) (by omega)) ?_ ?_
 ·refine⟨_,[],rfl,.inr ⟨_,_,rfl,rfl,?_⟩,rfl⟩
  refine⟨_,_,rfl,.inl rfl,_,_,rfl,.inl rfl,_,_,rfl,.inl rfl,_,_,rfl,.inl rfl,_,_,rfl,.inl rfl,_,_,rfl,.inl rfl,_,_,rfl,.inl rfl,_,_,rfl,.inr ⟨f1,f2.symm⟩,_,_,rfl,.inl rfl,_,_,rfl,.inl rfl,_,_,rfl,.inl rfl,rfl⟩
 ·rw[bgR,XJ He 2 (.inl rfl),zbg]
  rfl
theorem ZC{m b:Nat}{env:Env}(d:Desc)(x:List Int)(n:Nat)(V:Nat->Nat):Ent m b env (Abs.hl (bgF d x n d.finals.length V)) env (Abs.hl (bgL d x (ruV d.rules n) (.lst 1 (fD 1 e1 n (fiI d.finals))) n ⟨0,2,false,[]⟩ ⟨0,2,false,[]⟩++(fF 1 e1 n V (fiI d.finals)).map Grp.dead)):=by
 have h1:(Abs.hl (bgF d x n d.finals.length V)).at_ 3=⟨1,1,true,fT 5 n V (fiI d.finals)⟩:=rfl
 have h2:∀i,i<n->(Abs.hl (bgF d x n d.finals.length V)).at_ (i+5)=gG 1 e1 (V i) (fiI d.finals i):=λi hi=>by
  rw[bgF,DT,bgL];simp only[List.cons_append,List.nil_append,C1];exact M8 hi
 obtain⟨f1,f2⟩:=O0 (w:=1) (e:=e1) (by decide) (λ_=>rfl) h1 h2;refine J0 (g:=1) (w:=11) (v:=1) (d:=2) (ex:=true) (xs:=[rnB d x (ruV d.rules n) (.ref 3 1 0 n) .nilS .nilS]) (ys:=[rnB d x (ruV d.rules n) (.lst 1 (fD 1 e1 n (fiI d.finals))) .nilS .nilS]) (fKs 3 5 n) (by decide) (by rw[V0];omega) rfl (GT (by decide) (by omega)) ?_ ?_
 ·refine⟨_,[],rfl,.inr ⟨_,_,rfl,rfl,?_⟩,rfl⟩
  refine⟨_,_,rfl,.inl rfl,_,_,rfl,.inl rfl,_,_,rfl,.inl rfl,_,_,rfl,.inl rfl,_,_,rfl,.inl rfl,_,_,rfl,.inl rfl,_,_,rfl,.inl rfl,_,_,rfl,.inl rfl,_,_,rfl,.inr ⟨f1,f2.symm⟩,_,_,rfl,.inl rfl,_,_,rfl,.inl rfl,rfl⟩
 ·rw[bgF,XJ He 3 (.inr rfl)]
  rfl
theorem zcw(d:Desc)(x:List Int)(n k:Nat)(V:Nat->Nat):bgR d x n k V=⟨1,1,true,[.ptr 1 1 0 0]⟩::⟨11,1,true,[rnB d x (.ref 2 1 0 n) (.ref 3 1 0 n) .nilS .nilS]⟩::⟨1,1,true,fT 5 n V (IQ (·.from_) d.rules k)⟩::⟨1,1,true,List.replicate n .nilS⟩::⟨6,1,true,[Dm d]⟩::fF 1 e1 n V (IQ (·.from_) d.rules k):=rfl
theorem zcx(d:Desc)(x:List Int)(n k:Nat)(V:Nat->Nat):bgF d x n k V=⟨1,1,true,[.ptr 1 1 0 0]⟩::⟨11,1,true,[rnB d x (ruV d.rules n) (.ref 3 1 0 n) .nilS .nilS]⟩::⟨0,2,false,[]⟩::⟨1,1,true,fT 5 n V (IQ (·.from_) d.finals k)⟩::⟨6,1,true,[Dm d]⟩::fF 1 e1 n V (IQ (·.from_) d.finals k):=rfl
def fiV(l:List Es)(n:Nat):AV:=.lst 1 (fD 1 e1 n (fiI l))
theorem zln(n:Nat):List.replicate n (AV.bool false)=spB n λ_=>false:=by
 refine C7 (by simp[spB]) λi h1 h2=>?_;simp[spB]
theorem zbh{H:A7}{g v:Nat}{l:List Nat}(h:H.at_ g=gG 1 e1 v l):Ea 2 (H.only [g]) (.ref g v 0 l.length)/\frzV 2 (H.only [g]) (.ref g v 0 l.length)=.lst 1 (l.map e1):=by
 have hat:(H.only [g]).at_ g=gG 1 e1 v l:=by
  show (if g∈[g] then H.at_ g else (H.at_ g).dead)=_;rw[Ai (by simp),h]
 have htl:(((gG 1 e1 v l).xs.drop 0).take l.length)=l.map e1:=by
  rw[CM];exact Ar (by simp[gG])
 have hp:AT (l.map e1)=true:=Dz (λ_=>rfl) _;constructor
 ·refine⟨by rw[hat];rfl,by rw[hat];exact Nat.one_pos,by rw[hat];simp[gG],?_⟩
  rw[hat,htl];exact (H5 _ 1 hp).1
 ·show AV.lst _ _=_
  rw[hat,htl];congr 1;exact (H5 _ 1 hp).2
def bgS(d:Desc)(x:List Int)(n v:Nat)(dn:Nat->Bool)(ord:List Nat):List Grp:=srtL d x n (fiV d.finals n) v dn ord++[⟨1,1,true,[.ptr 0 1 0 0]⟩,⟨6,1,true,[Dm d]⟩]
theorem ZD(d:Desc)(x:List Int)(n v:Nat)(dn:Nat->Bool)(ord:List Nat):∀G∈bgS d x n v dn ord,ltL 5 G.xs:=λG hG=>by
 rcases Au.1 hG with hG|hG
 ·have h1:ltV 5 (DF d.rules):=Ce _ _ (B8 _)
  have h2:ltV 5 (Fb d.finals):=Ce _ _ (B6 _);have h3:ltV 5 (Bf x):=Ce _ _ (Cv .i32 _);have h4:ltV 5 (ruV d.rules n):=Ce _ _ (E9 λ_=>rfl);have h5:ltV 5 (fiV d.finals n):=Ce _ _ (E9 λ_=>rfl);simp only[srtL,Ag,Am,A5] at hG;rcases hG with rfl|rfl|rfl
  ·exact⟨⟨trivial,trivial,trivial,trivial,h1,h2,h3,h4,h5,(show 2<5 by omega),trivial,trivial⟩,trivial⟩
  ·exact CS _ _ (Ca.2 λy hy=>by obtain⟨i,_,rfl⟩:=Aq.1 hy;rfl)
  ·exact CS _ _ (Dz (λ_=>rfl) _)
 ·simp only[Ag,Am,A5] at hG
  rcases hG with rfl|rfl
  ·exact⟨(show 0<5 by omega),trivial⟩
  ·exact CS _ _ (by simp[AT,GR])
theorem ZE{m b:Nat}{env:Env}(d:Desc)(x:List Int)(n v:Nat)(dn:Nat->Bool)(ord:List Nat):Ent m b env (Abs.hl (bgS d x n v dn ord)) env (Abs.hl [⟨11,1,true,[rnB d x (ruV d.rules n) (fiV d.finals n) (.lst 1 (ord.map e1)) .nilS]⟩,⟨1,1,true,spB n dn⟩,(gG 1 e1 v ord).dead,⟨1,1,true,[.ptr 0 1 0 0]⟩,⟨6,1,true,[Dm d]⟩]):=by
 have h1:(Abs.hl (bgS d x n v dn ord)).at_ 2=gG 1 e1 v ord:=rfl;obtain⟨f1,f2⟩:=zbh h1;refine J0 (g:=0) (w:=11) (v:=1) (d:=2) (ex:=true) (xs:=[rnB d x (ruV d.rules n) (fiV d.finals n) (.ref 2 v 0 ord.length) .nilS]) (ys:=[rnB d x (ruV d.rules n) (fiV d.finals n) (.lst 1 (ord.map e1)) .nilS]) [2] (by decide) (by simp[bgS,srtL]) rfl (by decide) ?_ rfl;refine⟨_,[],rfl,.inr ⟨_,_,rfl,rfl,?_⟩,rfl⟩;exact⟨_,_,rfl,.inl rfl,_,_,rfl,.inl rfl,_,_,rfl,.inl rfl,_,_,rfl,.inl rfl,_,_,rfl,.inl rfl,_,_,rfl,.inl rfl,_,_,rfl,.inl rfl,_,_,rfl,.inl rfl,_,_,rfl,.inl rfl,_,_,rfl,.inr ⟨f1,f2.symm⟩,_,_,rfl,.inl rfl,rfl⟩
theorem zbi{y:AV}{l:List Grp}(d:Nat)(ks:List Nat)(hok:Ea d ((Abs.hl l).only ks) y){z:AV}(hz:frzV d ((Abs.hl l).only ks) y=z)(hp:z.pure=true):Ent 1 0 (λ_=>y) (Abs.hl l) (λ_=>z) (Abs.hl []):=by
 refine (UK 0 d ks hok).trans ((Om (H':=Abs.hl ([]++Fv 0 ks l)) ?_ ?_).trans ((NP (AD _) (λG hG=>by cases hG) λi hi=>?_).trans (z3f trivial λi hi=>?_)))
 ·simp[Abs.hl,A7.kill,GZ]
 ·intro g hg
  show (Fv 0 ks l).getD g default=if g∈ks then (l.getD g default).dead else l.getD g default
  rw[JG 0 ks l g hg,Bn]
 ·obtain rfl:i=0:=by omega
  show ltV 0 (if (0:Nat)=0 then frzV d ((Abs.hl l).only ks) y else y);rw[Ai rfl,hz];exact Ce _ _ hp
 ·obtain rfl:i=0:=by omega
  show leS [] (if (0:Nat)=0 then frzV d ((Abs.hl l).only ks) y else y) z;rw[Ai rfl,hz];exact HN _ _
def bgV(d:Desc)(x:List Int)(n m:Nat)(ord:List Nat)(at_:Nat)(L:Nat->Nat->Bool):List Grp:=[⟨11,1,true,[rnB d x (ruV d.rules n) (fiV d.finals n) (.lst 1 (ord.map e1)) (.ref 3 1 0 m)]⟩,⟨1,1,true,[.ptr 0 1 0 0]⟩,⟨6,1,true,[Dm d]⟩,⟨1,1,true,lvB n m L⟩,⟨1,1,true,[.int .i64 at_]⟩]
theorem z5q(d:Desc)(x:List Int){n:Nat}(hdn:d.states=n)(hn:n<=1024)(hrl:d.rules.length<=4096)(hfl:d.finals.length<=4096)(hs:0<=d.start/\d.start<n)(hgo:Goes d n)(hcy:¬cycP d.rules n)(hlf:∀r∈d.finals,0<=r.from_/\r.from_<n)(hxl:x.length<=1024)(h32:∀v∈x,-2147483648<=v/\v<=2147483647)
 (hgb:∀r∈d.rules,(r.guards.length<=1000000/\∀g∈r.guards,g.length<=1000000)/\0<=r.eat/\r.eat<=1000000) :
 BZ Tryz.prog 60 [Dm d,Bf x] (Abs.hl []) λy H'=>H'=Abs.hl []/\∃ord L,y=EA d x (ruV d.rules n) (fiV d.finals n) (.lst 1 (ord.map e1)) (.lst 1 (lvB n ((x.length+1) * n) L))/\Topo d.rules n ord/\LivE d x n L:=by
 have pR:=B8 d.rules;have pFi:=B6 d.finals;have pX:AT (x.map (AV.int .i32))=true:=Cv .i32 _;have pN:=FZ n;have hl:∀r∈d.rules,0<=r.from_/\r.from_<n:=λr hr=>(hgo.r r hr).1;have hl2:∀r∈d.rules,(0<=r.from_/\r.from_<n)/\0<=r.to_/\r.to_<n:=λr hr=>⟨(hgo.r r hr).1,(hgo.r r hr).2.1⟩;refine I3 (LQ U0 (W_T ?_));unfold Nx;(with_reducible repeat'(first|(simp(disch:=omega)only[push_cast,↓zz,seval,pR,pFi,hdn])|refine Aa ?_ ?_|(first|refine Ac ?_ ?_|refine Ab ?_ ?_)<;>intro hc<;>(try simp only[push_cast] at hc)|omega|intro _));refine z3a [1,2,3,4] [1,1,11,1] [none,none,none,none,some 1,none,none,some 2,none,some 3,some 4] (by simp) (by decide) ?_;(with_reducible repeat'(first|(simp(disch:=omega)only[push_cast,↓zz,seval,yy,Ag,Am,A5,Bg,B9,Ay,B0,Bz,pR,pFi,pX,hdn])|refine Aa ?_ ?_|(first|refine Ac ?_ ?_|refine Ab ?_ ?_)<;>intro hc<;>(try simp only[push_cast] at hc)|omega|intro _))
 refine B4 (Np (srcs:=[.grp 4,.grp 3,.grp 1,.grp 2,.grp 0]) (live:=[(1,Bf x),(2,.ptr 4 1 0 0),(5,.ptr 0 1 0 0),(29,DF d.rules),(30,.int .i64 d.rules.length),(31,.int .i64 0)])
  (heap:=bgL d x (.ref 2 1 0 n) (.ref 3 1 0 n) n ⟨1,1,true,List.replicate n .nilS⟩ ⟨1,1,true,List.replicate n .nilS⟩) ?_ (Jr (LL (α:=Nat) (w:=1) (e:=e1) (n:=n) (t:=2) (by decide) (by simp[bgL]) rfl) ?_))
 ·unfold bgL rnB
  (with_reducible repeat'(first|(simp(disch:=omega)only[push_cast,↓zz,seval,pR,pFi,pX,hdn,pN])|refine Aa ?_ ?_|(first|refine Ac ?_ ?_|refine Ab ?_ ?_)<;>intro hc<;>(try simp only[push_cast] at hc)|omega|intro _))
 refine Hi (λ(q:Nat × (Nat->Nat))=>q.1<=d.rules.length) (λq=>d.rules.length-q.1)
  (λq=>E4 [(1,Bf x),(2,.ptr 4 1 0 0),(5,.ptr 0 1 0 0),(29,DF d.rules),(30,.int .i64 d.rules.length),(31,.int .i64 q.1)]) (λq=>Abs.hl (bgR d x n q.1 q.2)) (0,λ_=>1) (by simp) Ent.refl ?_
 rintro⟨k,V⟩ hk;simp only at hk ⊢;rcases An k d.rules.length with hkl|hkl
 ·have hr:=hl _ (B2 hkl)
  have hsu:=λi=>Qp (fr:=λ(r:Rule)=>r.from_) (l:=d.rules) (k:=k) (i:=i);generalize hre:nth d.rules k=r at *;have hgr:=AL r.guards;have hot:=B5 r.out;obtain⟨i,hi⟩:∃i:Nat,r.from_=i:=⟨r.from_.toNat,by omega⟩;have hin:i<n:=by omega
  obtain⟨D,hD⟩:∃D,D=IQ (λ(r:Rule)=>r.from_) d.rules k:=⟨_,rfl⟩;have hFl:(fF 1 e1 n V D).length=n:=He;have hTl:(fT 5 n V D).length=n:=PT;have gI:∀G,(fF 1 e1 n V D++[G]).getD i default=gG 1 e1 (V i) (D i):=λG=>by rw[T5 hFl hin];exact M8 hin
  have gR:∀G,(fF 1 e1 n V D++[G]).getD n default=G:=λG=>by rw[GC hFl];rfl
  have sR:∀G G',setQ (fF 1 e1 n V D++[G]) n G'=some (fF 1 e1 n V D++[G']):=λG G'=>by rw[I2 _ _ hFl];rfl
  have tI:(fT 5 n V D).getD i .any=.ref (i+5) (V i) 0 (D i).length:=Z2 hin;have sI:∀G G',setQ (fF 1 e1 n V D++[G]) i G'=some ((fF 1 e1 n V D).set i G'++[G]):=λG G'=>LK (by omega);have gR2:∀G G',((fF 1 e1 n V D).set i G'++[G]).getD n default=G:=λG G'=>by rw[GC (by rw[CV];exact hFl)];rfl
  have hSB:∀R G,Dd 5 [i+5] (fF 1 e1 n V D++[R]) ((fF 1 e1 n V D).set i G++[R]):=λR G=>Ld (by omega) (by simp;omega);have hEx:=Vg (e:=e1) (D i);have hel:(D i).length<=k:=by rw[hD];exact OC k i
  have eT:(fT 5 n V D).set i (.ref (i+5) (V i+1) 0 ((D i).length+1))=fT 5 n (setV V i (V i+1)) (setD D i (D i++[k])):=by
   have:=PU (o:=5) (V:=V) (D:=D) (l:=D i++[k]) hin
   rwa [Ak] at this
  have eF:(fF 1 e1 n V D).set i ⟨1,V i+1,false,(D i).map e1++[.int .i64 k]⟩=fF 1 e1 n (setV V i (V i+1)) (setD D i (D i++[k])):=by
   have:=PV (V:=V) (D:=D) (w:=1) (e:=e1) (l:=D i++[k]) (by simp) hin;rw[A9] at this;exact this
  have hsu:=hsu i hi;rw[<-hD] at hsu;rw[zcw,<-hD];unfold rnB;have hni:¬n=i:=by omega
  simp only[gG] at gI;refine W_T ?_;(with_reducible repeat'(first|(simp(disch:=omega)only[push_cast,↓zz,seval,xx,Ag,Am,A5,Bg,B9,Ay,B0,Bz,pR,pFi,pX,hdn,hre,hi,hgr,hot,hFl,hTl,gI,gR,sR,tI,sI,gR2,hEx,hni])|refine Aa ?_ ?_|(first|refine Ac ?_ ?_|refine Ab ?_ ?_)<;>intro hc<;>(try simp only[push_cast] at hc)|refine De [i+5] ?_|omega|intro _))
  ·exact hSB _ _
  refine⟨(k+1,setV V i (V i+1)),Eu (gar:=[⟨5,1,true,[.agg [.int .i64 i,.int .i64 r.to_,Bs r.guards,.int .i64 r.eat,C9 r.out]]⟩]) _ ?_ (AD _) (Z9 _ _ _ _ _) ?_,by simp only;omega,by simp only;omega⟩
  ·rw[zcw,hsu,<-eT,<-eF]
   unfold rnB;rw[hdn];rfl
  ·have hRv:ltV (n+5) (DF d.rules):=Ce _ _ pR
   have hXv:ltV (n+5) (Bf x):=Ce _ _ pX;rw[Vz];exact⟨rfl,hXv,rfl,(show 4<n+5 by omega),rfl,(show 0<n+5 by omega),rfl,hRv,rfl,trivial,rfl,trivial,trivial⟩
 obtain rfl:k=d.rules.length:=by omega
 have cl1:∀G∈bgL d x (ruV d.rules n) (.ref 3 1 0 n) n ⟨0,2,false,[]⟩ ⟨1,1,true,List.replicate n .nilS⟩,ltL 5 G.xs:=I5 (by omega) (Ce _ _ (show AT _=true from E9 λ_=>rfl)) (show 3<5 by omega) trivial (CS _ _ pN);refine Jr ((ZB d x n V).trans (Eu (l0:=bgL d x (ruV d.rules n) (.ref 3 1 0 n) n ⟨0,2,false,[]⟩ ⟨1,1,true,List.replicate n .nilS⟩) [(1,Bf x),(2,.ptr 4 1 0 0),(5,.ptr 0 1 0 0),(29,DF d.rules),(30,.int .i64 d.rules.length),(31,.int .i64 d.rules.length)] rfl (AD _) cl1 ?_)) ?_
 ·have hRv:ltV 5 (DF d.rules):=Ce _ _ pR
  have hXv:ltV 5 (Bf x):=Ce _ _ pX;exact⟨rfl,hXv,rfl,(show 4<5 by omega),rfl,(show 0<5 by omega),rfl,hRv,rfl,trivial,rfl,trivial,trivial⟩
 clear cl1 V;unfold bgL rnB;refine W_T ?_;(with_reducible repeat'(first|(simp(disch:=omega)only[push_cast,↓zz,seval,pR,pFi,pX,hdn])|refine Aa ?_ ?_|(first|refine Ac ?_ ?_|refine Ab ?_ ?_)<;>intro hc<;>(try simp only[push_cast] at hc)|omega|intro _));have cl2:∀G∈bgL d x (ruV d.rules n) (.ref 3 1 0 n) n ⟨0,2,false,[]⟩ ⟨1,1,true,List.replicate n .nilS⟩,ltL 5 G.xs:=I5 (by omega) (Ce _ _ (show AT _=true from E9 λ_=>rfl)) (show 3<5 by omega) trivial (CS _ _ pN);refine B4 (Jr ((Eu (l0:=bgL d x (ruV d.rules n) (.ref 3 1 0 n) n ⟨0,2,false,[]⟩ ⟨1,1,true,List.replicate n .nilS⟩) (gar:=[]) [(1,Bf x),(2,.ptr 4 1 0 0),(5,.ptr 0 1 0 0),(56,Fb d.finals),(57,.int .i64 d.finals.length),(58,.int .i64 0)] ?_ (AD _) cl2 ?_).trans (LL (α:=Nat) (w:=1) (e:=e1) (n:=n) (t:=3) (by decide) (by simp[bgL]) rfl)) ?_)
 ·unfold bgL rnB
  rw[hdn];rfl
 ·have hFv:ltV 5 (Fb d.finals):=Ce _ _ pFi
  have hXv:ltV 5 (Bf x):=Ce _ _ pX;exact⟨rfl,hXv,rfl,(show 4<5 by omega),rfl,(show 0<5 by omega),rfl,hFv,rfl,trivial,rfl,trivial,trivial⟩
 clear cl2
 refine Hi (λ(q:Nat × (Nat->Nat))=>q.1<=d.finals.length) (λq=>d.finals.length-q.1)
  (λq=>E4 [(1,Bf x),(2,.ptr 4 1 0 0),(5,.ptr 0 1 0 0),(56,Fb d.finals),(57,.int .i64 d.finals.length),(58,.int .i64 q.1)]) (λq=>Abs.hl (bgF d x n q.1 q.2)) (0,λ_=>1) (by simp) Ent.refl ?_
 rintro⟨k,V⟩ hk;simp only at hk ⊢;rcases An k d.finals.length with hkl|hkl
 ·have hr:=hlf _ (B2 hkl)
  have hsu:=λi=>Qp (fr:=λ(r:Es)=>r.from_) (l:=d.finals) (k:=k) (i:=i);generalize hre:nth d.finals k=r at *;have hgr:=AL r.guards;have hot:=B5 r.out;obtain⟨i,hi⟩:∃i:Nat,r.from_=i:=⟨r.from_.toNat,by omega⟩;have hin:i<n:=by omega
  obtain⟨D,hD⟩:∃D,D=IQ (λ(r:Es)=>r.from_) d.finals k:=⟨_,rfl⟩;have hFl:(fF 1 e1 n V D).length=n:=He;have hTl:(fT 5 n V D).length=n:=PT;have gI:∀G,(fF 1 e1 n V D++[G]).getD i default=gG 1 e1 (V i) (D i):=λG=>by rw[T5 hFl hin];exact M8 hin
  have gR:∀G,(fF 1 e1 n V D++[G]).getD n default=G:=λG=>by rw[GC hFl];rfl
  have sR:∀G G',setQ (fF 1 e1 n V D++[G]) n G'=some (fF 1 e1 n V D++[G']):=λG G'=>by rw[I2 _ _ hFl];rfl
  have tI:(fT 5 n V D).getD i .any=.ref (i+5) (V i) 0 (D i).length:=Z2 hin;have sI:∀G G',setQ (fF 1 e1 n V D++[G]) i G'=some ((fF 1 e1 n V D).set i G'++[G]):=λG G'=>LK (by omega);have gR2:∀G G',((fF 1 e1 n V D).set i G'++[G]).getD n default=G:=λG G'=>by rw[GC (by rw[CV];exact hFl)];rfl
  have hSB:∀R G,Dd 5 [i+5] (fF 1 e1 n V D++[R]) ((fF 1 e1 n V D).set i G++[R]):=λR G=>Ld (by omega) (by simp;omega);have hEx:=Vg (e:=e1) (D i);have hel:(D i).length<=k:=by rw[hD];exact OC k i
  have eT:(fT 5 n V D).set i (.ref (i+5) (V i+1) 0 ((D i).length+1))=fT 5 n (setV V i (V i+1)) (setD D i (D i++[k])):=by
   have:=PU (o:=5) (V:=V) (D:=D) (l:=D i++[k]) hin
   rwa [Ak] at this
  have eF:(fF 1 e1 n V D).set i ⟨1,V i+1,false,(D i).map e1++[.int .i64 k]⟩=fF 1 e1 n (setV V i (V i+1)) (setD D i (D i++[k])):=by
   have:=PV (V:=V) (D:=D) (w:=1) (e:=e1) (l:=D i++[k]) (by simp) hin;rw[A9] at this;exact this
  have hsu:=hsu i hi;rw[<-hD] at hsu;rw[zcx,<-hD];unfold rnB;have hni:¬n=i:=by omega
  simp only[gG] at gI;refine W_T ?_;(with_reducible repeat'(first|(simp(disch:=omega)only[push_cast,↓zz,seval,xx,Ag,Am,A5,Bg,B9,Ay,B0,Bz,pR,pFi,pX,hdn,hre,hi,hgr,hot,hFl,hTl,gI,gR,sR,tI,sI,gR2,hEx,hni])|refine Aa ?_ ?_|(first|refine Ac ?_ ?_|refine Ab ?_ ?_)<;>intro hc<;>(try simp only[push_cast] at hc)|refine De [i+5] ?_|omega|intro _))
  ·exact hSB _ _
  refine⟨(k+1,setV V i (V i+1)),Eu (gar:=[⟨3,1,true,[.agg [.int .i64 i,Bs r.guards,C9 r.out]]⟩]) _ ?_ (AD _) (ZA _ _ _ _ _) ?_,by simp only;omega,by simp only;omega⟩
  ·rw[zcx,hsu,<-eT,<-eF]
   unfold rnB;rw[hdn];rfl
  ·have hFv:ltV (n+5) (Fb d.finals):=Ce _ _ pFi
   have hXv:ltV (n+5) (Bf x):=Ce _ _ pX;rw[V0];exact⟨rfl,hXv,rfl,(show 4<n+5 by omega),rfl,(show 0<n+5 by omega),rfl,hFv,rfl,trivial,rfl,trivial,trivial⟩
 obtain rfl:k=d.finals.length:=by omega
 have cl1:∀G∈bgL d x (ruV d.rules n) (fiV d.finals n) n ⟨0,2,false,[]⟩ ⟨0,2,false,[]⟩,ltL 5 G.xs:=I5 (by omega) (Ce _ _ (show AT _=true from E9 λ_=>rfl)) (Ce _ _ (show AT _=true from E9 λ_=>rfl)) trivial trivial;refine Jr ((ZC d x n V).trans (Eu (l0:=bgL d x (ruV d.rules n) (fiV d.finals n) n ⟨0,2,false,[]⟩ ⟨0,2,false,[]⟩) [(1,Bf x),(2,.ptr 4 1 0 0),(5,.ptr 0 1 0 0),(56,Fb d.finals),(57,.int .i64 d.finals.length),(58,.int .i64 d.finals.length)] rfl (AD _) cl1 ?_)) ?_
 ·have hFv:ltV 5 (Fb d.finals):=Ce _ _ pFi
  have hXv:ltV 5 (Bf x):=Ce _ _ pX;exact⟨rfl,hXv,rfl,(show 4<5 by omega),rfl,(show 0<5 by omega),rfl,hFv,rfl,trivial,rfl,trivial,trivial⟩
 clear cl1 V;unfold bgL rnB;have pB:∀on,AT (spB n on)=true:=λon=>Ca.2 λy hy=>by obtain⟨i,_,rfl⟩:=Aq.1 hy;rfl
 have pRU:AT (fD 1 e1 n (ruI d.rules))=true:=E9 λ_=>rfl;have pFI:AT (fD 1 e1 n (fiI d.finals))=true:=E9 λ_=>rfl;have pFIv:(fiV d.finals n).pure=true:=pFI;refine W_T ?_;(with_reducible repeat'(first|(simp(disch:=omega)only[push_cast,↓zz,seval,pR,pFi,pX,hdn])|refine Aa ?_ ?_|(first|refine Ac ?_ ?_|refine Ab ?_ ?_)<;>intro hc<;>(try simp only[push_cast] at hc)|omega|intro _))
 refine B4 (Np (srcs:=[.grp 1,.grp 5,.virt 1,.grp 0,.grp 4]) (live:=[(1,Bf x),(2,.ptr 4 1 0 0),(5,.ptr 3 1 0 0),(10,.ref 1 1 0 n),(86,.int .i64 n),(87,.int .i64 0)])
  (heap:=bgS d x n 1 (λ_=>false) []) ?_ ?_)
 ·unfold bgS srtL rnB ruV fiV gG
  (with_reducible repeat'(first|(simp(disch:=omega)only[push_cast,↓zz,seval,pR,pFi,pX,hdn,pB,zln,pRU,pFI,List.length_nil,BF])|refine Aa ?_ ?_|(first|refine Ac ?_ ?_|refine Ab ?_ ?_)<;>intro hc<;>(try simp only[push_cast] at hc)|omega|intro _))
 refine Hi (λ(q:Nat × Nat × (Nat->Bool) × List Nat)=>q.1<=n/\Hold (Qo d.rules n q.1 q.2.2.1 q.2.2.2)) (λq=>n-q.1)
  (λq=>E4 [(1,Bf x),(2,.ptr 4 1 0 0),(5,.ptr 3 1 0 0),(10,.ref 1 1 0 n),(86,.int .i64 n),(87,.int .i64 q.1)]) (λq=>Abs.hl (bgS d x n q.2.1 q.2.2.1 q.2.2.2)) (0,1,(λ_=>false),[]) ⟨AD _,⟨Vv _ _⟩⟩ Ent.refl ?_
 rintro⟨k,v,dn,ord⟩ ⟨hk,⟨hA⟩⟩;simp only at hk hA ⊢;have hXv:ltV 5 (Bf x):=Ce _ _ pX;rcases An k n with hkn|hkn
 ·have hS:=zb6 d x hn hrl hl2 hcy (fiV d.finals n) pFIv (J5 dn n) k v dn ord (Ae _) hkn (Z7 hA)
  rw[bgS,srtL];refine W_T ?_;(with_reducible repeat'(first|(simp(disch:=omega)only[push_cast,↓zz,seval])|refine Aa ?_ ?_|(first|refine Ac ?_ ?_|refine Ab ?_ ?_)<;>intro hc<;>(try simp only[push_cast] at hc)|omega|intro _));refine T8 (l0:=srtL d x n (fiV d.finals n) v dn ord) (extra:=[⟨1,1,true,[.ptr 0 1 0 0]⟩,⟨6,1,true,[Dm d]⟩]) rfl hS ?_ (Ga d x n _ pFIv _ _ _) ?_
  ·exact⟨(show 0<3 by omega),trivial,(show 1<3 by omega),trivial⟩
  rintro y H' ⟨v2,dn2,new,rfl,rfl,hpost⟩;refine⟨_,rfl,rfl,trivial,Ga d x n _ pFIv _ _ _,?_⟩;have hA2:=Vw hA hpost;(with_reducible repeat'(first|(simp(disch:=omega)only[push_cast,↓zz,seval])|refine Aa ?_ ?_|(first|refine Ac ?_ ?_|refine Ab ?_ ?_)<;>intro hc<;>(try simp only[push_cast] at hc)|omega|intro _));refine⟨(k+1,v2,dn2,ord++new),Eu (gar:=[]) _ (A8 _).symm (AD _) (ZD d x n _ _ _) ?_,⟨by omega,⟨hA2⟩⟩,by simp only;omega⟩;exact⟨rfl,hXv,rfl,(show 4<5 by omega),rfl,(show 3<5 by omega),rfl,(show 1<5 by omega),rfl,trivial,rfl,trivial,trivial⟩
 obtain rfl:k=n:=by omega
 have hT:=Vx hA
 refine Jr (ZE d x k v dn ord) (Np (srcs:=[.grp 0,.grp 3,.grp 4]) (live:=[(1,Bf x),(2,.ptr 2 1 0 0),(5,.ptr 1 1 0 0),(86,.int .i64 k),(87,.int .i64 k)])
  (heap:=[⟨11,1,true,[rnB d x (ruV d.rules k) (fiV d.finals k) (.lst 1 (ord.map e1)) .nilS]⟩,⟨1,1,true,[.ptr 0 1 0 0]⟩,⟨6,1,true,[Dm d]⟩]) ?_ ?_)
 ·have pO:AT (ord.map e1)=true:=Dz (λ_=>rfl) _
  unfold rnB ruV fiV;(with_reducible repeat'(first|(simp(disch:=omega)only[push_cast,↓zz,seval,pR,pFi,pX,hdn,pRU,pFI,pO])|refine Aa ?_ ?_|(first|refine Ac ?_ ?_|refine Ab ?_ ?_)<;>intro hc<;>(try simp only[push_cast] at hc)|omega|intro _))
 have pO:AT (ord.map e1)=true:=Dz (λ_=>rfl) _;have hmx:(x.length+1) * k<=1025 * 1024:=CN (by omega) hn;obtain⟨m,hm⟩:∃m,m=(x.length+1) * k:=⟨_,rfl⟩;have hmi:((x.length:Int)+1) * (k:Int)=(m:Int):=by rw[hm];norm_cast
 rw[<-hm] at hmx;obtain⟨s0,hs0⟩:∃s0:Nat,d.start=s0:=⟨d.start.toNat,by omega⟩
 have hsm:s0<m:=by
  have:=Hr (a:=0) (k:=x.length) (t:=s0) (n:=k) (by omega) (AD _);rw[hm];omega
 have hst:(List.replicate m (AV.bool false)).set s0 (.bool true)=lvB k m (setP (λ_ _=>false) 0 s0 true):=by
  have:=z5h (n:=k) (m:=m) (a:=0) (t:=s0) (L:=λ_ _=>false) (v:=true) (by omega) (by omega);rw[F9,Bn,<-zb7] at this;exact this
 have pLv:∀L,AT (lvB k m L)=true:=λL=>MP;unfold rnB;refine W_T ?_;(with_reducible repeat'(first|(simp(disch:=omega)only[push_cast,↓zz,seval,pR,pFi,pX,hdn,hmi,hs0,hst,pLv,List.length_replicate])|refine Aa ?_ ?_|(first|refine Ac ?_ ?_|refine Ab ?_ ?_)<;>intro hc<;>(try simp only[push_cast] at hc)|omega|intro _));have hstn:d.start.toNat=s0:=by omega
 refine B4 (BK (λ(q:Nat × (Nat->Nat->Bool))=>q.1<=x.length+1/\Hold (Liv d x k ord q.1 0 q.2)) (λq=>x.length+1-q.1)
  (λq=>[(1,Bf x),(2,.ptr 2 1 0 0),(5,.ptr 1 1 0 0),(12,.ptr 4 1 0 0)]) (λq=>bgV d x k m ord q.1 q.2) (λenv _=>[.grp 0,.grp 1,.grp 2,.grp 3,C0 1 (env 12)]) (0,setP (λ_ _=>false) 0 d.start.toNat true) ⟨AD _,⟨zb8 hs (Fj hT)⟩⟩ ?_ ?_)
 ·unfold bgV rnB ruV fiV
  (with_reducible repeat'(first|(simp(disch:=omega)only[push_cast,↓zz,seval,pR,pFi,pX,hdn,hs0,hstn,pLv,pRU,pFI,pO,Int.toNat_natCast])|refine Aa ?_ ?_|(first|refine Ac ?_ ?_|refine Ab ?_ ?_)<;>intro hc<;>(try simp only[push_cast] at hc)|omega|intro _))
 rintro⟨at_,L⟩ ⟨ha,⟨hI⟩⟩;simp only at ha hI ⊢;have hol:=Fj hT;rcases An at_ (x.length+1) with hal|hal
 ·have hB:=OB ord (by omega)
  have hit:=z5p ord (by omega);unfold bgV rnB ruV fiV;refine W_T ?_;(with_reducible repeat'(first|(simp(disch:=omega)only[push_cast,↓zz,seval,pR,pFi,pX,hdn,pLv,pRU,pFI,pO])|refine Aa ?_ ?_|(first|refine Ac ?_ ?_|refine Ab ?_ ?_)<;>intro hc<;>(try simp only[push_cast] at hc)|refine eK hB ?_|refine eQ hB ?_|refine eG hB ?_|((first|refine cK hB ?_|refine cQ hB ?_|refine cG hB ?_);(simp(disch:=omega)only[push_cast,↓zz,seval,pR,pFi,pX,hdn,pLv,pRU,pFI,pO]);(fail_if_success change False))|omega|intro _))
  refine QQ (Wr (σ:=Nat->Nat->Bool) (λj L=>Hold (Liv d x k ord at_ j L)) [(1,Bf x),(2,.ptr 2 1 0 0),(5,.ptr 1 1 0 0),(12,.ptr 4 1 0 0),(122,.fn 134 [.cptr (.lst 1 (ord.map e1))])] (λL=>bgV d x k m ord at_ L)
   [.grp 0,.grp 1,.grp 2,.grp 3,.grp 4] 5 L hit ?_ (λ_=>rfl) rfl ?_ rfl rfl (Z8 _) (z5o _) (by simp) ⟨hI⟩ ?_ ?_)
  ·unfold bgV rnB ruV fiV
   (with_reducible repeat'(first|(simp(disch:=omega)only[push_cast,↓zz,seval,pR,pFi,pX,hdn,pLv,pRU,pFI,pO])|refine Aa ?_ ?_|(first|refine Ac ?_ ?_|refine Ab ?_ ?_)<;>intro hc<;>(try simp only[push_cast] at hc)|omega|intro _))
  ·(with_reducible repeat'(first|(simp(disch:=omega)only[push_cast,↓zz,seval,pO])|refine Aa ?_ ?_|(first|refine Ac ?_ ?_|refine Ab ?_ ?_)<;>intro hc<;>(try simp only[push_cast] at hc)|omega|intro _))
  ·rintro j row L hrow ⟨hI⟩
   obtain⟨hj,rfl⟩:=z5n hrow;clear hrow hit;have hjk:j<k:=by omega
   obtain⟨s,hse⟩:∃s,s=nth ord (k-1-j):=⟨_,rfl⟩;have hsn:s<k:=(hT.all _).1 (by rw[hse];exact B2 (by omega));rw[hol,<-hse,show e1 s=AV.int .i64 ((s:Nat):Int) from rfl];have hat:at_<=x.length:=by omega
   have hpm:=Hr hsn hat;rw[<-hm] at hpm;have aL:∀L,(lvB k m L).getD (at_ * k+s) .any=.bool (L at_ s):=λL=>zcv hsn hpm;have lL:∀L,(lvB k m L).length=m:=λL=>K1;have hmul:(at_:Int) * (k:Int)=((at_ * k:Nat):Int):=by norm_cast
   have hmulb:at_ * k<=1024 * 1024:=CN (by omega) hn
   have hset:∀L e t,at_+e<=x.length->t<k->(lvB k m L).set ((at_+e) * k+t) (.bool true)=lvB k m (setP L (at_+e) t true)/\(at_+e) * k+t<m:=λL e t he htk=>by
    have:=Hr htk he;rw[<-hm] at this;exact⟨z5h htk this,this⟩
   generalize hpe:at_ * k+s=p at *;generalize at_ * k=an at *;have hpi:(an:Int)+(s:Int)=(p:Int):=by omega
   have aLv:=aL L;have aR:(fD 1 e1 k (ruI d.rules)).getD s .any=.lst 1 ((ruI d.rules s).map e1):=Rt hsn;have aR2:(fD 1 e1 k (ruI d.rules))[s]? = some (.lst 1 ((ruI d.rules s).map e1)):=Lc hsn;have lRU:(fD 1 e1 k (ruI d.rules)).length=k:=Lb;have pRI:AT ((ruI d.rules s).map e1)=true:=Dz (λ_=>rfl) _;refine W_T ?_;(with_reducible repeat'(first|(simp(disch:=omega)only[push_cast,↓zz,seval])|refine Aa ?_ ?_|(first|refine Ac ?_ ?_|refine Ab ?_ ?_)<;>intro hc<;>(try simp only[push_cast] at hc)|omega|intro _));unfold bgV rnB ruV fiV;refine W_T ?_;cases hLs:L at_ s with
   |false =>
    rw[hLs] at aLv;(with_reducible repeat'(first|(simp(disch:=omega)only[push_cast,↓zz,seval,pR,pFi,pX,hdn,pLv,lL,pRU,pFI,pO,hmul,hpi,aLv,aR,aR2,lRU,pRI])|refine Aa ?_ ?_|(first|refine Ac ?_ ?_|refine Ab ?_ ?_)<;>intro hc<;>(try simp only[push_cast] at hc)|omega|intro _));exact⟨L,Ck _ _,⟨zbb hI hT hjk hse hLs⟩⟩
   |true =>
    rw[hLs] at aLv;(with_reducible repeat'(first|(simp(disch:=omega)only[push_cast,↓zz,seval,pR,pFi,pX,hdn,pLv,lL,pRU,pFI,pO,hmul,hpi,aLv,aR,aR2,lRU,pRI])|refine Aa ?_ ?_|(first|refine Ac ?_ ?_|refine Ab ?_ ?_)<;>intro hc<;>(try simp only[push_cast] at hc)|omega|intro _))
    refine B4 (BK (λ(q:Nat × (Nat->Nat->Bool))=>q.1<=(ruI d.rules s).length/\Hold (LivS d x k ord at_ j s q.1 q.2)) (λq=>(ruI d.rules s).length-q.1)
     (λq=>[(1,Bf x),(2,.ptr 2 1 0 0),(5,.ptr 1 1 0 0),(12,.ptr 4 1 0 0),(144,.lst 1 ((ruI d.rules s).map e1)),(145,.int .i64 (ruI d.rules s).length),(146,.int .i64 q.1)]) (λq=>bgV d x k m ord at_ q.2) (λ_ _=>[]) (0,L) ⟨AD _,⟨z5i hI hLs⟩⟩ ?_ ?_)
    ·unfold bgV rnB ruV fiV
     (with_reducible repeat'(first|(simp(disch:=omega)only[push_cast,↓zz,seval,pR,pFi,pX,hdn,pLv,pRU,pFI,pO,pRI])|refine Aa ?_ ?_|(first|refine Ac ?_ ?_|refine Ab ?_ ?_)<;>intro hc<;>(try simp only[push_cast] at hc)|omega|intro _))
    rintro⟨i0,L2⟩ ⟨hi0,⟨hI2⟩⟩;simp only at hi0 hI2 ⊢;unfold bgV rnB ruV fiV;have hIl:=Vs d.rules s;rcases An i0 (ruI d.rules s).length with hil|hil
    ·obtain⟨i,hi⟩:∃i,i=nth (ruI d.rules s) i0:=⟨_,rfl⟩
     have him:i∈ruI d.rules s:=by rw[hi];exact B2 hil
     obtain⟨i1,i2⟩:=Ig.1 him;have aI:((ruI d.rules s).map e1).getD i0 .any=.int .i64 i:=by rw[hi];simp[nth,List.getD,hil]
     have hr:=B2 i1;obtain⟨hg1,hg2⟩:=hgb _ hr;obtain⟨_,htt,_,_⟩:=hgo.r _ hr;have hF:=R4 d x (.lst 1 (fD 1 e1 k (ruI d.rules))) (.lst 1 (fD 1 e1 k (fiI d.finals))) (.lst 1 (ord.map e1)) (.lst 1 (lvB k m L2)) (nth d.rules i).guards at_ pRU pFI pO (pLv L2) (by omega) h32 hg1.2 hg1.1 (by omega);simp only[EA,hdn] at hF;have hyes:=λhg=>zb9 hI2 hgo hT hjk hse hil hg;have hno:=λhg=>zhd hI2 (k:=i0) hg;rw[<-hi] at hyes hno;have tL:List.take m (lvB k m L2)=lvB k m L2:=Ar (by rw[K1];exact Ae _);generalize hre:nth d.rules i=r at *;have hgr:=AL r.guards;have hot:=B5 r.out;obtain⟨e,he⟩:∃e:Nat,r.eat=e:=⟨r.eat.toNat,by omega⟩;obtain⟨t,htq⟩:∃t:Nat,r.to_=t:=⟨r.to_.toNat,by omega⟩;have het:r.eat.toNat=e:=by omega
     have htt2:r.to_.toNat=t:=by omega
     rw[het,htt2] at hyes;cases hb:goB x r.guards at_ with
     |false =>
      rw[hb] at hF;have hno:=hno hb;refine W_T ?_;(with_reducible repeat'(first|(simp(disch:=omega)only[push_cast,↓zz,seval,pR,pFi,pX,hdn,pLv,lL,pRU,pFI,pO,pRI,aI,hre,hgr,hot,tL])|refine Aa ?_ ?_|(first|refine Ac ?_ ?_|refine Ab ?_ ?_)<;>intro hc<;>(try simp only[push_cast] at hc)|refine eK hF ?_|refine eQ hF ?_|refine eG hF ?_|((first|refine cK hF ?_|refine cQ hF ?_|refine cG hF ?_);(simp(disch:=omega)only[push_cast,↓zz,seval,pR,pFi,pX,hdn,pLv,lL,pRU,pFI,pO,pRI,aI,hre,hgr,hot,tL]);(fail_if_success change False))|omega|intro _));exact⟨(i0+1,L2),⟨by simp,Ck _ _⟩,⟨by omega,⟨hno⟩⟩,by simp only;omega⟩
     |true =>
      rw[hb] at hF;have hyes:=hyes hb;have hle:=Kf hb;have hge:=(hgo.r _ hr).2.2.1;rw[het] at hge;obtain⟨hs1,hs2⟩:=hset L2 e t (by omega) (by omega);have hae:(at_:Int)+(e:Int)=((at_+e:Nat):Int):=by norm_cast
      have hmul2:((at_+e:Nat):Int) * (k:Int)=(((at_+e) * k:Nat):Int):=by norm_cast
      have hmulb2:(at_+e) * k<=1024 * 1024:=CN (by omega) hn;generalize hpe2:(at_+e) * k+t=p2 at *;generalize (at_+e) * k=an2 at *;have hpi2:(an2:Int)+(t:Int)=(p2:Int):=by omega
      generalize hbe:at_+e=b2 at *;refine W_T ?_;(with_reducible repeat'(first|(simp(disch:=omega)only[push_cast,↓zz,seval,pR,pFi,pX,hdn,pLv,lL,pRU,pFI,pO,pRI,aI,hre,hgr,hot,tL,he,htq,hae,hmul2,hpi2,hs1])|refine Aa ?_ ?_|(first|refine Ac ?_ ?_|refine Ab ?_ ?_)<;>intro hc<;>(try simp only[push_cast] at hc)|refine eK hF ?_|refine eQ hF ?_|refine eG hF ?_|((first|refine cK hF ?_|refine cQ hF ?_|refine cG hF ?_);(simp(disch:=omega)only[push_cast,↓zz,seval,pR,pFi,pX,hdn,pLv,lL,pRU,pFI,pO,pRI,aI,hre,hgr,hot,tL,he,htq,hae,hmul2,hpi2,hs1]);(fail_if_success change False))|omega|intro _));exact⟨(i0+1,setP L2 b2 t true),⟨by simp,Ck _ _⟩,⟨by omega,⟨hyes⟩⟩,by simp only;omega⟩
    ·obtain rfl:i0=(ruI d.rules s).length:=by omega
     have hend:=zba hI2 hT hjk hse;refine W_T ?_;(with_reducible repeat'(first|(simp(disch:=omega)only[push_cast,↓zz,seval,pR,pFi,pX,hdn,pLv,lL,pRU,pFI,pO,pRI])|refine Aa ?_ ?_|(first|refine Ac ?_ ?_|refine Ab ?_ ?_)<;>intro hc<;>(try simp only[push_cast] at hc)|omega|intro _));exact⟨L2,Ck _ _,⟨hend⟩⟩
  ·rintro L ⟨hI⟩
   rw[OA,hol] at hI;have hI2:=zhe hI hT;unfold bgV rnB ruV fiV;(with_reducible repeat'(first|(simp(disch:=omega)only[push_cast,↓zz,seval,pR,pFi,pX,hdn,pLv,pRU,pFI,pO])|refine Aa ?_ ?_|(first|refine Ac ?_ ?_|refine Ab ?_ ?_)<;>intro hc<;>(try simp only[push_cast] at hc)|omega|intro _));refine⟨(at_+1,L),⟨Ck _ _,by simp⟩,⟨by omega,⟨hI2⟩⟩,by simp only;omega⟩
 ·obtain rfl:at_=x.length+1:=by omega
  have hE:=zhf hI;have tL:∀L,List.take m (lvB k m L)=lvB k m L:=λL=>Ar (by rw[K1];exact Ae _);unfold bgV rnB ruV fiV;refine W_T ?_;(with_reducible repeat'(first|(simp(disch:=omega)only[push_cast,↓zz,seval,pR,pFi,pX,hdn,pLv,pRU,pFI,pO])|refine Aa ?_ ?_|(first|refine Ac ?_ ?_|refine Ab ?_ ?_)<;>intro hc<;>(try simp only[push_cast] at hc)|omega|intro _));refine⟨_,_,zbi 4 [0,3] (z:=EA d x (ruV d.rules k) (fiV d.finals k) (.lst 1 (ord.map e1)) (.lst 1 (lvB k m L))) ?_ ?_ ?_,rfl,ord,L,?_,hT,hE⟩
  ·(simp(disch:=omega)only[push_cast,↓zz,seval,pR,pFi,pX,pLv,pRU,pFI,pO,K1,tL])
  ·(simp(disch:=omega)only[push_cast,↓zz,seval,pR,pFi,pX,pLv,pRU,pFI,pO,K1,tL])
   have e:(k:Int)=d.states:=hdn.symm;rw[e];rfl
  ·simp[AV.pure,AT,pR,pFi,pX,pLv,pRU,pFI,pO,ruV,fiV]
  ·rw[hm];rfl
set_option maxRecDepth 100000
def E3:List Int->List Int->Nat
 |[],_=>0
 |_,[]=>0
 |a::l,b::m=>if a=b then E3 l m+1 else 0
def cmpL:List Int->List Int->Int
 |[],[]=>0
 |[],_::_=>-1
 |_::_,[]=>1
 |a::l,b::m=>if a<b then -1 else if b<a then 1 else cmpL l m
theorem XK:∀a b:List Int,E3 a b<=a.length/\E3 a b<=b.length
 |[],_=>by simp[E3]
 |_::_,[]=>by simp[E3]
 |a::l,b::m=>by
  have:=XK l m;simp only[E3];split<;>simp<;>omega
theorem ZF{a b:List Int}{k:Nat}(h1:k<a.length)(h2:k<b.length)(he:nth a k=nth b k):E3 (a.drop k) (b.drop k)=E3 (a.drop (k+1)) (b.drop (k+1))+1:=by
 rw[drop_at h1,drop_at h2,E3,Ai he]
theorem ZG{a b:List Int}{k:Nat}(h:¬(k<a.length/\k<b.length/\nth a k=nth b k)):E3 (a.drop k) (b.drop k)=0:=by
 by_cases h1:k<a.length
 ·by_cases h2:k<b.length
  ·rw[drop_at h1,drop_at h2,E3,Ah λe=>h ⟨h1,h2,e⟩]
  ·rw[A6 (l:=b) (by omega)]
   cases a.drop k<;>rfl
 ·rw[A6 (l:=a) (by omega)];rfl
theorem TU:∀a b:List Int,cmpL a b=if E3 a b=a.length/\E3 a b=b.length then 0 else if E3 a b=a.length then -1 else if E3 a b=b.length then 1 else if nth a (E3 a b)<nth b (E3 a b) then -1 else if nth b (E3 a b)<nth a (E3 a b) then 1 else 0
 |[],[]=>rfl
 |[],_::_=>by simp[cmpL,E3]
 |_::_,[]=>by simp[cmpL,E3]
 |a::l,b::m=>by
  by_cases e:a=b
  ·subst e
   have h1:E3 (a::l) (a::m)=E3 l m+1:=by rw[E3,Ai rfl]
   have h2:cmpL (a::l) (a::m)=cmpL l m:=by rw[cmpL,Ah (Int.lt_irrefl _),Ah (Int.lt_irrefl _)]
   rw[h1,h2,TU l m];simp only[List.length_cons,Nat.add_right_cancel_iff,z8b];rfl
  ·have h1:E3 (a::l) (b::m)=0:=by rw[E3,Ah e]
   have n1:¬(0=l.length+1):=by omega
   have n2:¬(0=m.length+1):=by omega
   rw[h1,cmpL];rw[List.length_cons,List.length_cons,Ah (show ¬(0=l.length+1/\0=m.length+1) from λh=>n1 h.1),Ah n1,Ah n2];by_cases h2:a<b
   ·rw[Ai h2,Ai (show nth (a::l) 0<nth (b::m) 0 from h2)]
   ·have h3:b<a:=by omega
    rw[Ah h2,Ah (show ¬nth (a::l) 0<nth (b::m) 0 from h2),Ai h3,Ai (show nth (b::m) 0<nth (a::l) 0 from h3)]
theorem ZH(a b:List Int)(hl:a.length<=1000000000):PC Tryz.prog 114 [Bf a,Bf b] (.int .i64 (E3 a b)):=by
 have pa:AT (a.map (AV.int .i32))=true:=Cv .i32 _;have pb:AT (b.map (AV.int .i32))=true:=Cv .i32 _;refine BV S6 ?_;unfold Mc;(with_reducible repeat'(first|(simp(disch:=omega)only[push_cast,↓zz,seval])|refine Aa ?_ ?_|(first|refine Ac ?_ ?_|refine Ab ?_ ?_)<;>intro hc<;>(try simp only[push_cast] at hc)|omega|intro _))
 refine B4 (BK (λ(k:Nat)=>k<=a.length/\E3 a b=k+E3 (a.drop k) (b.drop k)) (λk=>a.length-k)
  (λk=>[(0,Bf a),(1,Bf b),(5,.int .i64 k)]) (λs=>[]) (λenv _=>[]) 0 (by simp) ?_ ?_)
 ·(with_reducible repeat'(first|(simp(disch:=omega)only[push_cast,↓zz,seval,pa,pb])|refine Aa ?_ ?_|(first|refine Ac ?_ ?_|refine Ab ?_ ?_)<;>intro hc<;>(try simp only[push_cast] at hc)|omega|intro _))
 rintro k ⟨hk,hr⟩;refine W_T ?_;by_cases h:k<a.length/\k<b.length/\nth a k=nth b k
 ·obtain⟨h1,h2,h3⟩:=h
  have hs:=ZF h1 h2 h3;(with_reducible repeat'(first|(simp(disch:=omega)only[push_cast,↓zz,seval,pa,pb,h3])|refine Aa ?_ ?_|(first|refine Ac ?_ ?_|refine Ab ?_ ?_)<;>intro hc<;>(try simp only[push_cast] at hc)|omega|intro _))
  all_goals
   refine⟨k+1,?_⟩;(with_reducible repeat'(first|(simp(disch:=omega)only[push_cast,↓zz,seval,pa,pb])|refine Aa ?_ ?_|(first|refine Ac ?_ ?_|refine Ab ?_ ?_)<;>intro hc<;>(try simp only[push_cast] at hc)|omega|intro _))
 ·have hs:=ZG h
  rw[hs] at hr;by_cases h1:k<a.length
  ·by_cases h2:k<b.length
   ·have h3:¬nth a k=nth b k:=λe=>h ⟨h1,h2,e⟩
    (with_reducible repeat'(first|(simp(disch:=omega)only[push_cast,↓zz,seval,pa,pb,h3])|refine Aa ?_ ?_|(first|refine Ac ?_ ?_|refine Ab ?_ ?_)<;>intro hc<;>(try simp only[push_cast] at hc)|omega|intro _))
    all_goals first|omega|trace_state
   ·(with_reducible repeat'(first|(simp(disch:=omega)only[push_cast,↓zz,seval,pa,pb])|refine Aa ?_ ?_|(first|refine Ac ?_ ?_|refine Ab ?_ ?_)<;>intro hc<;>(try simp only[push_cast] at hc)|omega|intro _))
    all_goals first|omega|trace_state
  ·(with_reducible repeat'(first|(simp(disch:=omega)only[push_cast,↓zz,seval,pa,pb])|refine Aa ?_ ?_|(first|refine Ac ?_ ?_|refine Ab ?_ ?_)<;>intro hc<;>(try simp only[push_cast] at hc)|omega|intro _))
   all_goals first|omega|trace_state
theorem TV(x:Int):PC Tryz.prog 144 [.int .i32 x] (.bool false):=by
 refine BV M4 ?_;unfold IW;(with_reducible repeat'(first|(simp(disch:=omega)only[push_cast,↓zz,seval])|refine Aa ?_ ?_|(first|refine Ac ?_ ?_|refine Ab ?_ ?_)<;>intro hc<;>(try simp only[push_cast] at hc)|omega|intro _))
 all_goals trace_state
theorem zbj(x y:Int):PC Tryz.prog 115 [.int .i32 x,.int .i32 y] (.int .i64 (if x<y then -1 else if y<x then 1 else 0)):=by
 have hx:=TV x;have hy:=TV y;refine BV KH ?_;unfold HO;by_cases h1:x<y
 ·rw[Ai h1]
  (with_reducible repeat'(first|(simp(disch:=omega)only[push_cast,↓zz,seval,h1])|refine Aa ?_ ?_|(first|refine Ac ?_ ?_|refine Ab ?_ ?_)<;>intro hc<;>(try simp only[push_cast] at hc)|refine eK hx ?_|refine eQ hx ?_|refine eG hx ?_|refine eK hy ?_|refine eQ hy ?_|refine eG hy ?_|((first|refine cK hx ?_|refine cQ hx ?_|refine cG hx ?_|refine cK hy ?_|refine cQ hy ?_|refine cG hy ?_);(simp(disch:=omega)only[push_cast,↓zz,seval,h1]);(fail_if_success change False))|omega|intro _))
 ·rw[Ah h1]
  by_cases h2:y<x
  ·rw[Ai h2]
   (with_reducible repeat'(first|(simp(disch:=omega)only[push_cast,↓zz,seval,h1,h2])|refine Aa ?_ ?_|(first|refine Ac ?_ ?_|refine Ab ?_ ?_)<;>intro hc<;>(try simp only[push_cast] at hc)|refine eK hx ?_|refine eQ hx ?_|refine eG hx ?_|refine eK hy ?_|refine eQ hy ?_|refine eG hy ?_|((first|refine cK hx ?_|refine cQ hx ?_|refine cG hx ?_|refine cK hy ?_|refine cQ hy ?_|refine cG hy ?_);(simp(disch:=omega)only[push_cast,↓zz,seval,h1,h2]);(fail_if_success change False))|omega|intro _))
  ·rw[Ah h2]
   (with_reducible repeat'(first|(simp(disch:=omega)only[push_cast,↓zz,seval,h1,h2])|refine Aa ?_ ?_|(first|refine Ac ?_ ?_|refine Ab ?_ ?_)<;>intro hc<;>(try simp only[push_cast] at hc)|refine eK hx ?_|refine eQ hx ?_|refine eG hx ?_|refine eK hy ?_|refine eQ hy ?_|refine eG hy ?_|((first|refine cK hx ?_|refine cQ hx ?_|refine cG hx ?_|refine cK hy ?_|refine cQ hy ?_|refine cG hy ?_);(simp(disch:=omega)only[push_cast,↓zz,seval,h1,h2]);(fail_if_success change False))|omega|intro _))
   all_goals trace_state
theorem My(a b:List Int)(ha:a.length<=1000000000)(hb:b.length<=1000000000):PC Tryz.prog 77 [Bf a,Bf b] (.int .i64 (cmpL a b)):=by
 have pa:AT (a.map (AV.int .i32))=true:=Cv .i32 _;have pb:AT (b.map (AV.int .i32))=true:=Cv .i32 _;have hF:=ZH a b ha;have hfl:=XK a b;have hC:=zbj (nth a (E3 a b)) (nth b (E3 a b));rw[TU];generalize hf:E3 a b=f at *;refine BV OP ?_;unfold Ka;by_cases h1:f=a.length
 ·by_cases h2:f=b.length
  ·rw[Ai ⟨h1,h2⟩]
   (with_reducible repeat'(first|(simp(disch:=omega)only[push_cast,↓zz,seval,pa,pb])|refine Aa ?_ ?_|(first|refine Ac ?_ ?_|refine Ab ?_ ?_)<;>intro hc<;>(try simp only[push_cast] at hc)|refine eK hF ?_|refine eQ hF ?_|refine eG hF ?_|((first|refine cK hF ?_|refine cQ hF ?_|refine cG hF ?_);(simp(disch:=omega)only[push_cast,↓zz,seval,pa,pb]);(fail_if_success change False))|omega|intro _))
   all_goals first|omega|trace_state
  ·rw[Ah (λh=>h2 h.2),Ai h1]
   (with_reducible repeat'(first|(simp(disch:=omega)only[push_cast,↓zz,seval,pa,pb])|refine Aa ?_ ?_|(first|refine Ac ?_ ?_|refine Ab ?_ ?_)<;>intro hc<;>(try simp only[push_cast] at hc)|refine eK hF ?_|refine eQ hF ?_|refine eG hF ?_|((first|refine cK hF ?_|refine cQ hF ?_|refine cG hF ?_);(simp(disch:=omega)only[push_cast,↓zz,seval,pa,pb]);(fail_if_success change False))|omega|intro _))
   all_goals first|omega|trace_state
 ·rw[Ah (λh=>h1 h.1),Ah h1]
  by_cases h2:f=b.length
  ·rw[Ai h2]
   (with_reducible repeat'(first|(simp(disch:=omega)only[push_cast,↓zz,seval,pa,pb])|refine Aa ?_ ?_|(first|refine Ac ?_ ?_|refine Ab ?_ ?_)<;>intro hc<;>(try simp only[push_cast] at hc)|refine eK hF ?_|refine eQ hF ?_|refine eG hF ?_|((first|refine cK hF ?_|refine cQ hF ?_|refine cG hF ?_);(simp(disch:=omega)only[push_cast,↓zz,seval,pa,pb]);(fail_if_success change False))|omega|intro _))
   all_goals first|omega|trace_state
  ·rw[Ah h2]
   (with_reducible repeat'(first|(simp(disch:=omega)only[push_cast,↓zz,seval,pa,pb])|refine Aa ?_ ?_|(first|refine Ac ?_ ?_|refine Ab ?_ ?_)<;>intro hc<;>(try simp only[push_cast] at hc)|refine eK hF ?_|refine eQ hF ?_|refine eG hF ?_|refine eK hC ?_|refine eQ hC ?_|refine eG hC ?_|((first|refine cK hF ?_|refine cQ hF ?_|refine cG hF ?_|refine cK hC ?_|refine cQ hC ?_|refine cG hC ?_);(simp(disch:=omega)only[push_cast,↓zz,seval,pa,pb]);(fail_if_success change False))|omega|intro _))
   all_goals first|omega|trace_state
set_option maxRecDepth 100000
theorem XL:∀a b:List Int,cmpL a b=0↔a=b
 |[],[]=>by simp[cmpL]
 |[],_::_=>by simp[cmpL]
 |_::_,[]=>by simp[cmpL]
 |a::l,b::m=>by
  simp only[cmpL,F1];by_cases h1:a<b
  ·rw[Ai h1];constructor
   ·intro h;cases h
   ·intro h;omega
  ·rw[Ah h1]
   by_cases h2:b<a
   ·rw[Ai h2];constructor
    ·intro h;cases h
    ·intro h;omega
   ·rw[Ah h2,XL l m]
    have:a=b:=by omega
    simp[this]
theorem z5r:∀a b:List Int,cmpL a b<0↔ltW a b=true
 |[],[]=>by simp[cmpL,ltW]
 |[],_::_=>by simp[cmpL,ltW]
 |_::_,[]=>by simp[cmpL,ltW]
 |a::l,b::m=>by
  simp only[cmpL,ltW];by_cases h1:a<b
  ·rw[Ai h1,Ai h1];simp
  ·rw[Ah h1,Ah h1]
   by_cases h2:b<a
   ·rw[Ai h2,Ai h2];simp
   ·rw[Ah h2,Ah h2];exact z5r l m
theorem z5s(a b:List Int)(ha:a.length<=1000000000)(hb:b.length<=1000000000):PC Tryz.prog 109 [Bf a,Bf b] (.bool (decide (a=b))):=by
 have hC:=My a b ha hb;have hz:decide (cmpL a b=0)=decide (a=b):=DC.2 (XL a b);refine BV QJ ?_;unfold KG;rw[<-hz];generalize cmpL a b=c at *;(with_reducible repeat'(first|(simp(disch:=omega)only[push_cast,↓zz,seval])|refine Aa ?_ ?_|(first|refine Ac ?_ ?_|refine Ab ?_ ?_)<;>intro hc<;>(try simp only[push_cast] at hc)|refine eK hC ?_|refine eQ hC ?_|refine eG hC ?_|((first|refine cK hC ?_|refine cQ hC ?_|refine cG hC ?_);(simp(disch:=omega)only[push_cast,↓zz,seval]);(fail_if_success change False))|omega|intro _))
 all_goals trace_state
def CK(l:List (List Int)):Nat->List (List Int)
 |0=>[]
 |k+1=>if 0<k/\nth l k=nth l (k-1) then CK l k else CK l k++[nth l k]
theorem OE{l:List (List Int)}:∀(k:Nat),k<=l.length->∀w,w∈CK l k↔w∈l.take k
 |0,_,w=>by simp[CK]
 |k+1,hk,w=>by
  have ih:=OE (l:=l) k (by omega) w;rw[take_at (by omega),CK];split
  ·rename_i h
   rw[ih,Au,As];constructor
   ·exact .inl
   ·rintro (h1|rfl)
    ·exact h1
    ·rw[h.2]
     have e:l.take k=l.take (k-1)++[nth l (k-1)]:=by
      have:=take_at (l:=l) (i:=k-1) (by omega)
      rwa [show k-1+1=k by omega] at this
     rw[e];simp
  ·rw[Au,ih,Au]
theorem TW{l:List (List Int)}{k:Nat}(hk:k<=l.length){w:List Int}(h:w∈l.take k):∃i,i<k/\w=nth l i:=by
 obtain⟨i,hi,rfl⟩:=Bw h;rw[Db] at hi;refine⟨i,by omega,?_⟩;rw[GK (by omega),List.getElem_take]
theorem Qq{l:List (List Int)}(hs:l.Pairwise λa b=>ltW b a=false):∀(k:Nat),k<=l.length->O8 (CK l k)
 |0,_=>List.Pairwise.nil
 |k+1,hk=>by
  have ih:=Qq hs k (by omega)
  have hle:∀i j,i<j->j<l.length->ltW (nth l j) (nth l i)=false:=λi j hij hj=>by
   rw[GK hj,GK (by omega)];exact En.1 hs i j (by omega) hj hij
  rw[CK];split
  ·exact ih
  ·rename_i hne
   refine Dt.2 ⟨ih,D4 _ _,λa ha b hb=>?_⟩;rw[As.1 hb];obtain⟨i,hi,rfl⟩:=TW (by omega) ((OE k (by omega) a).1 ha);cases hlt:ltW (nth l i) (nth l k) with
   |true=>rfl
   |false =>
    exfalso;have e:=J3 _ _ hlt (hle i k hi (by omega));refine hne ⟨by omega,?_⟩;by_cases h1:i=k-1
    ·rw[<-e,h1]
    ·have h2:=hle i (k-1) (by omega) (by omega)
     have h3:=hle (k-1) k (by omega) (by omega);rw[<-e] at h3 ⊢;exact J3 _ _ h3 h2
theorem TX(l:List (List Int)):∀k,(CK l k).length<=k
 |0=>by simp[CK]
 |k+1=>by
  have:=TX l k;rw[CK];split
  ·omega
  ·simp;omega
theorem ZI{l m:List (List Int)}(h:m.Pairwise λa b=>ltW b a=false)(hp:m.Perm l):JW l=CK m m.length:=XD (Qq h _ (Ae _)) λw=>by
 rw[OE _ (Ae _),AH];exact hp.mem_iff
theorem z5t{α:Type}[Inhabited α](a b:List α)(k:Nat):nth (a++b) (a.length+k)=nth b k:=by
 simp[nth,List.getD,AG]
theorem XM{α:Type}[Inhabited α](l:List α)(i k:Nat):nth (l.drop i) k=nth l (i+k):=by
 simp[nth,List.getD]
theorem set_mid{α:Type}(C J D:List α)(h v:α):(C++(h::J)++D).set C.length v=(C++[v])++J++D:=by simp
theorem Ln(ex:Bool)(l:List (List Int))(hl:l.length<=1000000000)(hw:∀w∈l,w.length<=1000000000):BZ Tryz.prog 108 [.ref 0 1 0 l.length,.fn 109 []] (Abs.hl [⟨1,1,ex,l.map Bf⟩]) λy H' =>
 y=.ref 0 1 0 (CK l l.length).length/\∃z,AT z=true/\H'=Abs.hl [⟨1,1,ex,(CK l l.length).map Bf++z⟩]:=by
 have pL:=CI l;have hc1:=TX l l.length;refine Wt (b:=1) GD rfl ?_;unfold Fe;by_cases h2:l.length<2
 ·have hce:CK l l.length=l:=by
   match l,h2 with
   |[],_=>rfl
   |[a],_=>rfl
  (with_reducible repeat'(first|(simp(disch:=omega)only[push_cast,↓zz,seval,pL])|refine Aa ?_ ?_|(first|refine Ac ?_ ?_|refine Ab ?_ ?_)<;>intro hc<;>(try simp only[push_cast] at hc)|omega|intro _))
  all_goals
   refine SQ [] (.ref 0 1 0 (CK l l.length).length) [⟨1,1,ex,(CK l l.length).map Bf++[]⟩] ?_ ⟨rfl,[],rfl,rfl⟩;rw[hce,A8];(with_reducible repeat'(first|(simp(disch:=omega)only[push_cast,↓zz,seval,pL])|refine Aa ?_ ?_|(first|refine Ac ?_ ?_|refine Ab ?_ ?_)<;>intro hc<;>(try simp only[push_cast] at hc)|omega|intro _))
 ·have hcl:∀i,(∀j,1<=j->j<i->nth l j≠nth l (j-1))->i<=l.length->CK l i=l.take i:=λi=>by
   induction i with
   |zero=>intro _ _;simp[CK]
   |succ i ih =>
    intro hj hi;rw[CK,ih (λj h1 h2=>hj j h1 (by omega)) (by omega),take_at (by omega)];by_cases h0:0<i
    ·rw[Ah λh=>hj i (by omega) (by omega) h.2]
    ·rw[Ah λh=>h0 h.1]
  have hfn:∀a∈l,∀b∈l,PC Tryz.prog 109 [Bf a,Bf b] (.bool (decide (a=b))):=λa ha b hb=>z5s a b (hw a ha) (hw b hb);(with_reducible repeat'(first|(simp(disch:=omega)only[push_cast,↓zz,seval,pL])|refine Aa ?_ ?_|(first|refine Ac ?_ ?_|refine Ab ?_ ?_)<;>intro hc<;>(try simp only[push_cast] at hc)|omega|intro _))
  refine B4 (BK (λ(i:Nat)=>(1<=i/\i<=l.length)/\Hold (∀j,1<=j->j<i->nth l j≠nth l (j-1))) (λi=>l.length-i)
   (λi=>[(0,.ref 0 1 0 l.length),(1,.fn 109 []),(5,.int .i64 i)]) (λ_=>[⟨1,1,ex,l.map Bf⟩]) (λ_ _=>[]) 1 ⟨by omega,⟨λj h1 h2=>by omega⟩⟩ ?_ ?_)
  ·(with_reducible repeat'(first|(simp(disch:=omega)only[push_cast,↓zz,seval,pL])|refine Aa ?_ ?_|(first|refine Ac ?_ ?_|refine Ab ?_ ?_)<;>intro hc<;>(try simp only[push_cast] at hc)|omega|intro _))
  rintro i ⟨⟨hi1,hi⟩,⟨hno⟩⟩;rcases An i l.length with hil|hil
  ·have m1:nth l i∈l:=B2 hil
   have m2:nth l (i-1)∈l:=B2 (by omega);have hF:=hfn _ m1 _ m2;have a1:((l.map Bf).getD i .any)=Bf (nth l i):=by simp[nth,List.getD,hil]
   have a2:((l.map Bf).getD (i-1) .any)=Bf (nth l (i-1)):=by
    have:i-1<l.length:=by omega
    simp[nth,List.getD,this]
   have hci:=hcl i hno (by omega);have hi0:((i:Int)-1).toNat=i-1:=by omega
   generalize hu:nth l i=u at *;generalize hv:nth l (i-1)=v at *;have pu:AT (u.map (AV.int .i32))=true:=Cv .i32 _;have pv:AT (v.map (AV.int .i32))=true:=Cv .i32 _;refine W_T ?_;by_cases he:u=v
   ·rw[Ba he] at hF
    (with_reducible repeat'(first|(simp(disch:=omega)only[push_cast,↓zz,seval,pL,hu,hv,pu,pv,hi0,a1,a2])|refine Aa ?_ ?_|(first|refine Ac ?_ ?_|refine Ab ?_ ?_)<;>intro hc<;>(try simp only[push_cast] at hc)|refine eK hF ?_|refine eQ hF ?_|refine eG hF ?_|((first|refine cK hF ?_|refine cQ hF ?_|refine cG hF ?_);(simp(disch:=omega)only[push_cast,↓zz,seval,pL,hu,hv,pu,pv,hi0,a1,a2]);(fail_if_success change False))|omega|intro _));have hst:CK l (i+1)=l.take i:=by rw[CK,Ai ⟨by omega,by rw[hu,hv];exact he⟩,hci]
    have hstep:∀k,CK l (i+k+1)=if nth l (i+k)=nth l (i+k-1) then CK l (i+k) else CK l (i+k)++[nth l (i+k)]:=λk=>by
     rw[CK];by_cases h:nth l (i+k)=nth l (i+k-1)
     ·rw[Ai ⟨by omega,h⟩,Ai h]
     ·rw[Ah λhh=>h hh.2,Ah h]
    clear hno hcl hF a1 a2 pu pv
    refine B4 (BK (λ(q:Nat × List (List Int))=>(1<=q.1/\i+q.1<=l.length)/\(CK l (i+q.1)).length+q.2.length=i+q.1-1) (λq=>l.length-q.1)
     (λq=>[(0,.ref 0 1 0 l.length),(1,.fn 109 []),(5,.int .i64 (CK l (i+q.1)).length),(6,.ref 0 1 i (l.length-i)),(7,.int .i64 q.1)])
     (λq=>[⟨1,1,ex,(CK l (i+q.1)++q.2++l.drop (i+q.1-1)).map Bf⟩]) (λ_ _=>[]) (1,[]) ⟨by omega,by simp only[hst];simp;omega⟩ ?_ ?_)
    ·have hX:CK l (i+1)++[]++l.drop (i+1-1)=l:=by rw[hst,A8,Nat.add_sub_cancel,Ch]
     have hCl:(CK l (i+1)).length=i:=by rw[hst,Db];omega
     simp only[hX,hCl];(with_reducible repeat'(first|(simp(disch:=omega)only[push_cast,↓zz,seval,pL])|refine Aa ?_ ?_|(first|refine Ac ?_ ?_|refine Ab ?_ ?_)<;>intro hc<;>(try simp only[push_cast] at hc)|omega|intro _))
    rintro⟨k,J⟩ ⟨⟨hk1,hk⟩,hJ⟩;simp only at hk1 hk hJ ⊢;have hXl:(CK l (i+k)++J++l.drop (i+k-1)).length=l.length:=by simp only[Ak,List.length_drop];omega
    have hCJ:(CK l (i+k)++J).length=i+k-1:=by rw[Ak];exact hJ
    rcases An (i+k) l.length with hkl|hkl
    ·have n1:nth (CK l (i+k)++J++l.drop (i+k-1)) (i+k)=nth l (i+k):=by
      have:=z5t (CK l (i+k)++J) (l.drop (i+k-1)) 1;rw[hCJ,XM] at this
      rwa [show i+k-1+1=i+k by omega] at this
     have n2:nth (CK l (i+k)++J++l.drop (i+k-1)) (i+k-1)=nth l (i+k-1):=by
      have:=z5t (CK l (i+k)++J) (l.drop (i+k-1)) 0;rw[hCJ,XM,Nat.add_zero] at this;exact this
     have m1:nth l (i+k)∈l:=B2 hkl;have m2:nth l (i+k-1)∈l:=B2 (by omega);have hF:=hfn _ m1 _ m2;have hs:=hstep k
     have hdr:l.drop (i+k-1)=nth l (i+k-1)::l.drop (i+k):=by
      have:=drop_at (l:=l) (i:=i+k-1) (by omega)
      rwa [show i+k-1+1=i+k by omega] at this
     obtain⟨h,J',hJ'⟩:∃h J',J++[nth l (i+k-1)]=h::J':=by
      cases J with
      |nil=>exact⟨_,[],rfl⟩
      |cons a J=>exact⟨a,J++[_],rfl⟩
     have hJl:J'.length=J.length:=by have:=EL List.length hJ';simp at this;omega
     have hXe:CK l (i+k)++J++l.drop (i+k-1)=CK l (i+k)++(h::J')++l.drop (i+k):=by
      rw[hdr,<-hJ'];simp
     have hset:(CK l (i+k)++J++l.drop (i+k-1)).set (CK l (i+k)).length (nth l (i+k))=CK l (i+k)++[nth l (i+k)]++J'++l.drop (i+k):=by rw[hXe,set_mid]
     have hsame:CK l (i+k)++J++l.drop (i+k-1)=CK l (i+k)++(J++[nth l (i+k-1)])++l.drop (i+k):=by rw[hdr];simp
     have pX:=CI (CK l (i+k)++J++l.drop (i+k-1));have hmset:((CK l (i+k)++J++l.drop (i+k-1)).map Bf).set (CK l (i+k)).length (Bf (nth l (i+k)))=(CK l (i+k)++[nth l (i+k)]++J'++l.drop (i+k)).map Bf:=by rw[<-List.map_set,hset]
     have hidx:(i:Int)+k=((i+k:Nat):Int):=by omega
     have e1':i+(k-1)=i+k-1:=by omega
     have hk0:((k:Int)-1).toNat=k-1:=by omega
     have hcl2:(CK l (i+k)).length<l.length:=by omega
     generalize hX:CK l (i+k)++J++l.drop (i+k-1)=X at *;generalize hu2:nth l (i+k)=u2 at *;generalize hv2:nth l (i+k-1)=v2 at *;have pu:AT (u2.map (AV.int .i32))=true:=Cv .i32 _;have pv:AT (v2.map (AV.int .i32))=true:=Cv .i32 _;refine W_T ?_;by_cases he2:u2=v2
     ·rw[Ba he2] at hF
      rw[Ai he2] at hs;(with_reducible repeat'(first|(simp(disch:=omega)only[push_cast,↓zz,seval,pX,hXl,n1,n2,pu,pv,hk0,e1'])|refine Aa ?_ ?_|(first|refine Ac ?_ ?_|refine Ab ?_ ?_)<;>intro hc<;>(try simp only[push_cast] at hc)|refine eK hF ?_|refine eQ hF ?_|refine eG hF ?_|((first|refine cK hF ?_|refine cQ hF ?_|refine cG hF ?_);(simp(disch:=omega)only[push_cast,↓zz,seval,pX,hXl,n1,n2,pu,pv,hk0,e1']);(fail_if_success change False))|omega|intro _))
      all_goals
       refine⟨(k+1,J++[v2]),?_⟩;have e2:i+(k+1)-1=i+k:=by omega
       have hsm:(CK l (i+k)).map Bf++(J.map Bf++Bf v2::(l.drop (i+k)).map Bf)=X.map Bf:=by rw[hsame];simp
       simp only[<-Bu,hs,e2];(with_reducible repeat'(first|(simp(disch:=omega)only[push_cast,↓zz,seval,pX,hsm])|refine Aa ?_ ?_|(first|refine Ac ?_ ?_|refine Ab ?_ ?_)<;>intro hc<;>(try simp only[push_cast] at hc)|omega|intro _))
     ·rw[By he2] at hF
      rw[Ah he2] at hs;have pX1:=CI (CK l (i+k)++[u2]++J'++l.drop (i+k));(with_reducible repeat'(first|(simp(disch:=omega)only[push_cast,↓zz,seval,pX,hXl,n1,n2,pu,pv,hk0,e1',hmset])|refine Aa ?_ ?_|(first|refine Ac ?_ ?_|refine Ab ?_ ?_)<;>intro hc<;>(try simp only[push_cast] at hc)|refine eK hF ?_|refine eQ hF ?_|refine eG hF ?_|((first|refine cK hF ?_|refine cQ hF ?_|refine cG hF ?_);(simp(disch:=omega)only[push_cast,↓zz,seval,pX,hXl,n1,n2,pu,pv,hk0,e1',hmset]);(fail_if_success change False))|omega|intro _))
      all_goals
       refine⟨(k+1,J'),?_⟩;have e2:i+(k+1)-1=i+k:=by omega
       simp only[<-Bu,hs,e2];(with_reducible repeat'(first|(simp(disch:=omega)only[push_cast,↓zz,seval,pX1,Ak,List.length_cons,List.length_nil])|refine Aa ?_ ?_|(first|refine Ac ?_ ?_|refine Ab ?_ ?_)<;>intro hc<;>(try simp only[push_cast] at hc)|omega|intro _))
    ·have hkn:i+k=l.length:=by omega
     rw[hkn] at hXl hCJ hJ ⊢;have hm:(CK l l.length++J++l.drop (l.length-1)).map Bf=(CK l l.length).map Bf++(J++l.drop (l.length-1)).map Bf:=by rw[Aw,A9]
     have hmt:((CK l l.length++J++l.drop (l.length-1)).map Bf).take (CK l l.length).length=(CK l l.length).map Bf:=by rw[hm];exact DL (by simp)
     have hmd:((CK l l.length++J++l.drop (l.length-1)).map Bf).drop l.length=[]:=A6 (by rw[AM,hXl];exact Ae _);have pX:=CI (CK l l.length++J++l.drop (l.length-1));have pC:=CI (CK l l.length);have pN:=FZ (l.length-(CK l l.length).length);generalize CK l l.length++J++l.drop (l.length-1)=X at *;generalize CK l l.length=C at *;have hcn:C.length+(l.length-C.length)=l.length:=by omega
     refine W_T ?_;(with_reducible repeat'(first|(simp(disch:=omega)only[push_cast,↓zz,seval,pX,hXl,hmt,hmd,hcn,A8])|refine Aa ?_ ?_|(first|refine Ac ?_ ?_|refine Ab ?_ ?_)<;>intro hc<;>(try simp only[push_cast] at hc)|omega|intro _))
     all_goals
      refine SQ [] (.ref 0 1 0 C.length) [⟨1,1,ex,C.map Bf++List.replicate (l.length-C.length) .nilS⟩] ?_ ⟨rfl,_,pN,rfl⟩;(with_reducible repeat'(first|(simp(disch:=omega)only[push_cast,↓zz,seval,pX,pC,pN])|refine Aa ?_ ?_|(first|refine Ac ?_ ?_|refine Ab ?_ ?_)<;>intro hc<;>(try simp only[push_cast] at hc)|omega|intro _))
   ·rw[By he] at hF
    have hnx:Hold (∀j,1<=j->j<i+1->nth l j≠nth l (j-1)):=⟨λj h1 h2=>by
     by_cases e:j=i
     ·subst e;rw[hu,hv];exact he
     ·exact hno j h1 (by omega)⟩
    clear hno hcl;(with_reducible repeat'(first|(simp(disch:=omega)only[push_cast,↓zz,seval,pL,hu,hv,pu,pv,hi0,a1,a2])|refine Aa ?_ ?_|(first|refine Ac ?_ ?_|refine Ab ?_ ?_)<;>intro hc<;>(try simp only[push_cast] at hc)|refine eK hF ?_|refine eQ hF ?_|refine eG hF ?_|((first|refine cK hF ?_|refine cQ hF ?_|refine cG hF ?_);(simp(disch:=omega)only[push_cast,↓zz,seval,pL,hu,hv,pu,pv,hi0,a1,a2]);(fail_if_success change False))|omega|intro _))
    all_goals
     refine⟨i+1,?_⟩;(with_reducible repeat'(first|(simp(disch:=omega)only[push_cast,↓zz,seval,pL])|refine Aa ?_ ?_|(first|refine Ac ?_ ?_|refine Ab ?_ ?_)<;>intro hc<;>(try simp only[push_cast] at hc)|omega|intro _))
     all_goals first|exact⟨by omega,hnx⟩|exact hnx|trace_state
  ·obtain rfl:i=l.length:=by omega
   have hce:=hcl l.length hno (Ae _);rw[AH] at hce;clear hno hcl;refine W_T ?_;(with_reducible repeat'(first|(simp(disch:=omega)only[push_cast,↓zz,seval,pL])|refine Aa ?_ ?_|(first|refine Ac ?_ ?_|refine Ab ?_ ?_)<;>intro hc<;>(try simp only[push_cast] at hc)|omega|intro _))
   all_goals
    refine SQ [] (.ref 0 1 0 (CK l l.length).length) [⟨1,1,ex,(CK l l.length).map Bf++[]⟩] ?_ ⟨rfl,[],rfl,rfl⟩;rw[hce,A8];(with_reducible repeat'(first|(simp(disch:=omega)only[push_cast,↓zz,seval,pL])|refine Aa ?_ ?_|(first|refine Ac ?_ ?_|refine Ab ?_ ?_)<;>intro hc<;>(try simp only[push_cast] at hc)|omega|intro _))
   all_goals trace_state
theorem V4{l:List Es}{s i:Nat}:i∈fiI l s↔i<l.length/\(nth l i).from_=s:=by simp[fiI,IQ]
theorem zhi(l:List Es)(s:Nat):(fiI l s).length<=l.length:=OC _ _
section
variable (d:Desc)(x:List Int)(S:Nat->Nat->List (List Int))(at_ s:Nat)
def finW(k:Nat):List (List Int):=((fiI d.finals s).take k).flatMap λi=>if (nth d.finals i).guards.length+at_=x.length/\goB x (nth d.finals i).guards at_=true then [EC x (nth d.finals i).out (nth d.finals i).guards at_] else []
def toW(i:Nat):List (List Int):=S (at_+(nth d.rules i).eat.toNat) (nth d.rules i).to_.toNat
def rulW(k:Nat):List (List Int):=((ruI d.rules s).take k).flatMap λi=>if goB x (nth d.rules i).guards at_=true then (toW d S at_ i).map (EC x (nth d.rules i).out (nth d.rules i).guards at_++·) else []
def allW:List (List Int):=finW d x at_ s (fiI d.finals s).length++rulW d x S at_ s (ruI d.rules s).length
variable {d x S at_ s}{k:Nat}
theorem z5u:finW d x at_ s 0=[]:=rfl
theorem z5v:rulW d x S at_ s 0=[]:=rfl
theorem zbk(hk:k<(fiI d.finals s).length){f:Es}(hf:nth d.finals (nth (fiI d.finals s) k)=f)(h:(decide (f.guards.length+at_=x.length)&&goB x f.guards at_)=true):finW d x at_ s (k+1)=finW d x at_ s k++[EC x f.out f.guards at_]:=by
 simp only[Ad,Aj] at h;rw[finW,take_at hk,BU,CZ,hf,Ai h];rfl
theorem zhj(hk:k<(fiI d.finals s).length){f:Es}(hf:nth d.finals (nth (fiI d.finals s) k)=f)(h:(decide (f.guards.length+at_=x.length)&&goB x f.guards at_)=false):finW d x at_ s (k+1)=finW d x at_ s k:=by
 rw[finW,take_at hk,BU,CZ,hf,Ah,A8]
 ·rfl
 rintro⟨h1,h2⟩;rw[h2,Ba h1] at h;cases h
theorem XN(hk:k<(ruI d.rules s).length){r:Rule}(hf:nth d.rules (nth (ruI d.rules s) k)=r)(h:goB x r.guards at_=true):rulW d x S at_ s (k+1)=rulW d x S at_ s k++(S (at_+r.eat.toNat) r.to_.toNat).map (EC x r.out r.guards at_++·):=by
 rw[rulW,take_at hk,BU,CZ,hf,Ai h,toW,hf];rfl
theorem z5w(hk:k<(ruI d.rules s).length){r:Rule}(hf:nth d.rules (nth (ruI d.rules s) k)=r)(h:goB x r.guards at_=false):rulW d x S at_ s (k+1)=rulW d x S at_ s k:=by
 rw[rulW,take_at hk,BU,CZ,hf,Ah (by rw[h];simp),A8];rfl
theorem XO:(finW d x at_ s k).length<=k:=by
 induction k with
 |zero=>simp[finW]
 |succ k ih =>
  rcases An k (fiI d.finals s).length with h|h
  ·rw[finW,take_at h,BU,Ak,CZ]
   rw[finW] at ih;split
   ·rw[List.length_singleton];omega
   ·rw[List.length_nil];omega
  ·rw[finW,Ar (by omega)]
   rw[finW,Ar h] at ih;omega
theorem zbl{w:List Int}:w∈finW d x at_ s (fiI d.finals s).length↔∃f∈d.finals,f.from_=(s:Nat)/\(f.guards.length+at_=x.length/\goB x f.guards at_=true)/\w=EC x f.out f.guards at_:=by
 rw[finW,AH,Cn];constructor
 ·rintro⟨i,hi,hw⟩
  obtain⟨i1,i2⟩:=V4.1 hi;split at hw
  ·rename_i h
   exact⟨_,B2 i1,i2,h,by simpa using hw⟩
  ·cases hw
 ·rintro⟨f,hf,h1,h2,rfl⟩
  obtain⟨i,hi,rfl⟩:=Bw hf;have e:nth d.finals i=d.finals[i]:=GK hi;exact⟨i,V4.2 ⟨hi,by rw[e];exact h1⟩,by rw[e,Ai h2];simp⟩
theorem zbm{w:List Int}:w∈rulW d x S at_ s (ruI d.rules s).length↔∃r∈d.rules,r.from_=(s:Nat)/\goB x r.guards at_=true/\∃v∈S (at_+r.eat.toNat) r.to_.toNat,w=EC x r.out r.guards at_++v:=by
 rw[rulW,AH,Cn];constructor
 ·rintro⟨i,hi,hw⟩
  obtain⟨i1,i2⟩:=Ig.1 hi;split at hw
  ·rename_i h
   obtain⟨v,hv,rfl⟩:=Aq.1 hw;exact⟨_,B2 i1,i2,h,v,hv,rfl⟩
  ·cases hw
 ·rintro⟨r,hr,h1,h2,v,hv,rfl⟩
  obtain⟨i,hi,rfl⟩:=Bw hr;have e:nth d.rules i=d.rules[i]:=GK hi;refine⟨i,Ig.2 ⟨hi,by rw[e];exact h1⟩,?_⟩;rw[e,Ai h2,toW,e];exact Aq.2 ⟨v,hv,rfl⟩
theorem z5x:JW (allW d x S at_ s)=JW (outL d x (λa t=>S a t.toNat) at_ (s:Nat)):=by
 refine (XD (JR _) λw=>?_);rw[J4,allW,Au,zbl,zbm,outL,Au,Aq,Cn];constructor
 ·rintro (⟨f,hf,rfl⟩|⟨r,hr,hw⟩)
  ·obtain⟨h1,h2⟩:=AX.1 hf
   simp only[Ad,Aj] at h2;exact .inl ⟨f,h1,h2.1,h2.2,rfl⟩
  ·obtain⟨h1,h2⟩:=AX.1 hr
   simp only[Ad,Aj] at h2;obtain⟨v,hv,rfl⟩:=Aq.1 hw;exact .inr ⟨r,h1,h2.1,h2.2,v,hv,rfl⟩
 ·rintro (⟨f,h1,h2,h3,rfl⟩|⟨r,h1,h2,h3,v,hv,rfl⟩)
  ·exact .inl ⟨f,AX.2 ⟨h1,by simp[h2,h3.1,h3.2]⟩,rfl⟩
  ·exact .inr ⟨r,AX.2 ⟨h1,by simp[h2,h3]⟩,Aq.2 ⟨v,hv,rfl⟩⟩
end
def Jc(o:Option (List Int))(w:List Int):Option (List Int):=match o with
 |none=>some w
 |some m=>if cmpL w m<0 then some w else some m
structure LeastI(C:List (List Int))(o:Option (List Int)):Prop where
 no:o=none->C=[]
 yes:∀m,o=some m->m∈C/\∀c∈C,ltW c m=false
section
variable {d:Desc}{x:List Int}{n:Nat}{ord:List Nat}{L:Nat->Nat->Bool}{at_ j:Nat}
structure LeaI(d:Desc)(x:List Int)(L:Nat->Nat->Bool)(ord:List Nat)(at_ j:Nat)(B:Nat->Nat->Option (List Int)):Prop where
 past:∀a t,a<=x.length->L a t=true->Past ord at_ j a t->B a t=(outW d x a t).head?
 rest:∀a t,¬Past ord at_ j a t->B a t=none
variable {B:Nat->Nat->Option (List Int)}
variable {y:List Int}{M:Nat->Nat->Nat->Bool}
end
set_option maxRecDepth 100000
theorem zbn{σ:Type}(d:Desc)(x:List Int){n:Nat}{ord:List Nat}{L:Nat->Nat->Bool}(RU FI:AV)(hRU:RU.pure=true)(hFI:FI.pure=true)(hdn:d.states=n)(hn:n<=1024)(hx:x.length<=1024)(ht:Topo d.rules n ord)
 (f:Nat) (caps:List AV) (N:Nat) (heap:σ->List Grp) (hN:∀s,(heap s).length=N) (hcl:∀s,∀G∈heap s,ltL N G.xs) (hcaps:ltL N caps)
 (Inv:Nat->Nat->σ->Prop) (s0:σ) (h0:Inv x.length 0 s0)
 (call:∀a j s,a<=x.length->j<n->Inv a j s->L a (nth ord j)=true->BZ Tryz.prog f (.int .i64 a::.int .i64 (nth ord j:Nat)::caps) (Abs.hl (heap s)) λy H'=>y=.tup []/\∃s',H'=Abs.hl (heap s')/\Inv a (j+1) s')
 (skip:∀a j s,a<=x.length->j<n->Inv a j s->L a (nth ord j)=false->Inv a (j+1) s)
 (row:∀a s,a+1<=x.length->Inv (a+1) n s->Inv a 0 s) :
 BZ Tryz.prog 61 [EA d x RU FI (.lst 1 (ord.map e1)) (.lst 1 (lvB n ((x.length+1) * n) L)),.fn f caps] (Abs.hl (heap s0)) λy H'=>y=.tup []/\∃s,H'=Abs.hl (heap s)/\Inv 0 n s:=by
 have pR:=B8 d.rules;have pFi:=B6 d.finals;have pX:AT (x.map (AV.int .i32))=true:=Cv .i32 _;have pO:AT (ord.map e1)=true:=Dz (λ_=>rfl) _;have hol:=Fj ht;have lL:(lvB n ((x.length+1) * n) L).length=(x.length+1) * n:=K1;have pL:AT (lvB n ((x.length+1) * n) L)=true:=MP;have hmx:(x.length+1) * n<=1025 * 1024:=CN (by omega) hn;have pN:(EA d x RU FI (.lst 1 (ord.map e1)) (.lst 1 (lvB n ((x.length+1) * n) L))).pure=true:=by simp[AV.pure,AT,pR,pFi,pX,pO,pL,hRU,hFI]
 have aL:∀a t,a<=x.length->t<n->(lvB n ((x.length+1) * n) L).getD (a * n+t) .any=.bool (L a t):=λa t ha htn=>zcv htn (Hr htn ha);have pl:∀a t,a<=x.length->t<n->a * n+t<(x.length+1) * n:=λa t ha htn=>Hr htn ha;generalize hm:(x.length+1) * n=m at *;generalize hLV:lvB n m L=LV at *;refine I3 (LQ Lz (W_T ?_));unfold Iq;(with_reducible repeat'(first|(simp(disch:=omega)only[push_cast,↓zz,seval,pR,pFi,pX,pO,pL,hRU,hFI])|refine Aa ?_ ?_|(first|refine Ac ?_ ?_|refine Ab ?_ ?_)<;>intro hc<;>(try simp only[push_cast] at hc)|omega|intro _))
 refine B4 (Hi (λ(q:Nat × σ)=>q.1<=x.length+1/\Hold ((q.1=0->Inv 0 n q.2)/\∀a,q.1=a+1->Inv a 0 q.2)) (λq=>q.1)
  (λq=>E4 [(0,EA d x RU FI (.lst 1 (ord.map e1)) (.lst 1 LV)),(1,.fn f caps),(4,.int .i64 ((q.1:Int)-1))]) (λq=>Abs.hl (heap q.2)) (x.length+1,s0) ⟨Ae _,⟨⟨λh=>(by cases h),λa h=>?_⟩⟩⟩ ?_ ?_)
 ·obtain rfl:x.length=a:=by simpa using h
  exact h0
 ·refine Eu (gar:=[]) _ (A8 _).symm (Eo ((hN _).trans (hN _).symm)) (by rw[hN];exact hcl _) ?_
  rw[hN];refine⟨rfl,trivial,rfl,hcaps,?_,trivial,trivial⟩;show AV.int _ _=_;congr 1;simp only;omega
 rintro⟨k,s⟩ ⟨hk,⟨⟨hI0,hI⟩⟩⟩;simp only at hk hI0 hI ⊢;rcases Nat.eq_zero_or_pos k with rfl|hk0
 ·have hI0:=hI0 rfl
  refine W_T ?_;(with_reducible repeat'(first|(simp(disch:=omega)only[push_cast,↓zz,seval,pR,pFi,pX,pO,pL,hRU,hFI])|refine Aa ?_ ?_|(first|refine Ac ?_ ?_|refine Ab ?_ ?_)<;>intro hc<;>(try simp only[push_cast] at hc)|omega|intro _))
  all_goals exact⟨_,_,Ent.refl,rfl,s,rfl,hI0⟩
 ·obtain⟨a,rfl⟩:∃a,k=a+1:=⟨k-1,by omega⟩
  have hIa:=hI a rfl;clear hI0 hI;have ha:a<=x.length:=by omega
  refine W_T ?_;(with_reducible repeat'(first|(simp(disch:=omega)only[push_cast,↓zz,seval,pR,pFi,pX,pO,pL,hRU,hFI])|refine Aa ?_ ?_|(first|refine Ac ?_ ?_|refine Ab ?_ ?_)<;>intro hc<;>(try simp only[push_cast] at hc)|omega|intro _))
  refine B4 (Hi (λ(q:Nat × σ)=>q.1<=n/\Hold (Inv a q.1 q.2)) (λq=>n-q.1)
   (λq=>E4 [(0,EA d x RU FI (.lst 1 (ord.map e1)) (.lst 1 LV)),(1,.fn f caps),(4,.int .i64 a),(19,.lst 1 (ord.map e1)),(20,.int .i64 n),(21,.int .i64 q.1)]) (λq=>Abs.hl (heap q.2)) (0,s) ⟨AD _,⟨hIa⟩⟩ ?_ ?_)
  ·refine Eu (gar:=[]) _ (A8 _).symm (Eo ((hN _).trans (hN _).symm)) (by rw[hN];exact hcl _) ?_
   rw[hN];have hO:ltV N (.lst 1 (ord.map e1)):=Ce _ _ pO;refine⟨rfl,trivial,rfl,hcaps,?_,trivial,rfl,hO,?_,trivial,rfl,trivial,trivial⟩
   ·show AV.int _ _=_
    congr 1;omega
   ·show AV.int _ _=_
    congr 1;omega
  rintro⟨j,s1⟩ ⟨hj,⟨hI⟩⟩;simp only at hj hI ⊢;have hO:ltV N (.lst 1 (ord.map e1)):=Ce _ _ pO;rcases An j n with hjn|hjn
  ·have aO:(ord.map e1).getD j .any=.int .i64 (nth ord j:Nat):=by simp[nth,List.getD,hol,hjn]
   have htn:nth ord j<n:=(ht.all _).1 (B2 (by omega));have hcall:=call a j s1 ha hjn hI;have hskip:=skip a j s1 ha hjn hI;have aK:=aL a _ ha htn;have hpm:=pl a _ ha htn;generalize nth ord j=t at *;have hmul:((a:Int) * (n:Int))=((a * n:Nat):Int):=by norm_cast
   generalize hpe:a * n+t=p at *;generalize a * n=an at *;have hpi:(an:Int)+(t:Int)=(p:Int):=by omega
   cases hL:L a t with
   |true =>
    rw[hL] at aK;refine W_T ?_;(with_reducible repeat'(first|(simp(disch:=omega)only[push_cast,↓zz,seval,pR,pFi,pX,pO,pL,hRU,hFI,aO,hdn,hmul,hpi,aK])|refine Aa ?_ ?_|(first|refine Ac ?_ ?_|refine Ab ?_ ?_)<;>intro hc<;>(try simp only[push_cast] at hc)|omega|intro _));refine T8 (extra:=[]) (A8 _).symm (hcall hL) ?_ (by rw[hN];exact hcl _) ?_
    ·rw[hN];exact⟨trivial,trivial,hcaps⟩
    rintro y H' ⟨rfl,s2,rfl,hI2⟩;refine⟨_,rfl,by rw[hN,hN],trivial,by rw[hN];exact hcl _,?_⟩;rw[A8];(with_reducible repeat'(first|(simp(disch:=omega)only[push_cast,↓zz,seval])|refine Aa ?_ ?_|(first|refine Ac ?_ ?_|refine Ab ?_ ?_)<;>intro hc<;>(try simp only[push_cast] at hc)|omega|intro _));refine⟨(j+1,s2),Eu (gar:=[]) _ (A8 _).symm (Eo ((hN _).trans (hN _).symm)) (by rw[hN];exact hcl _) ?_,⟨by omega,⟨hI2⟩⟩,by simp only;omega⟩;rw[hN];exact⟨rfl,trivial,rfl,hcaps,rfl,trivial,rfl,hO,rfl,trivial,rfl,trivial,trivial⟩
   |false =>
    rw[hL] at aK;refine W_T ?_;(with_reducible repeat'(first|(simp(disch:=omega)only[push_cast,↓zz,seval,pR,pFi,pX,pO,pL,hRU,hFI,aO,hdn,hmul,hpi,aK])|refine Aa ?_ ?_|(first|refine Ac ?_ ?_|refine Ab ?_ ?_)<;>intro hc<;>(try simp only[push_cast] at hc)|omega|intro _));refine⟨(j+1,s1),Eu (gar:=[]) _ (A8 _).symm (Eo ((hN _).trans (hN _).symm)) (by rw[hN];exact hcl _) ?_,⟨by omega,⟨hskip hL⟩⟩,by simp only;omega⟩;rw[hN];exact⟨rfl,trivial,rfl,hcaps,rfl,trivial,rfl,hO,rfl,trivial,rfl,trivial,trivial⟩
  ·obtain rfl:j=n:=by omega
   refine W_T ?_;(with_reducible repeat'(first|(simp(disch:=omega)only[push_cast,↓zz,seval,pR,pFi,pX,pO,pL,hRU,hFI])|refine Aa ?_ ?_|(first|refine Ac ?_ ?_|refine Ab ?_ ?_)<;>intro hc<;>(try simp only[push_cast] at hc)|omega|intro _));refine⟨(a,s1),Eu (gar:=[]) _ (A8 _).symm (Eo ((hN _).trans (hN _).symm)) (by rw[hN];exact hcl _) ?_,⟨by omega,⟨⟨λh=>?_,λa' h=>?_⟩⟩⟩,by simp only;omega⟩
   ·rw[hN]
    exact⟨rfl,trivial,rfl,hcaps,rfl,trivial,trivial⟩
   ·have h:a=0:=h
    subst h;exact hI
   ·have h:a=a'+1:=h
    subst h;exact row a' s1 (by omega) hI
end Go.Proofs.YtbcjoeadpjfcfaaGreat
namespace Go.Proofs
open Go.Shelf
def Tryz.sortWd_ren:Go.Shelf.Ren:=⟨fun|6=>107|15=>139|14=>138|28=>162|29=>163|20=>154|21=>155|22=>156|23=>157|24=>158|25=>159|26=>160|27=>161|46=>176|47=>177|48=>178|49=>179|50=>180|57=>189|n=>n,fun|22=>42|24=>39|25=>130|3=>3|39=>187|0=>0|53=>205|55=>207|4=>4|46=>199|45=>198|50=>32|5=>5|9=>9|66=>216|70=>220|76=>224|77=>84|n=>n,fun|n=>n⟩
theorem Tryz.sortWd:Go.Proofs.SlLaysF.n6 Tryz.prog Tryz.sortWd_ren:={
 mixed:=by kernel_rfl
 f6:=⟨Tryz.f107.name,by decide,Tryz.func107.trans (congrArg some (by kernel_rfl))⟩
 f14:=⟨Tryz.f138.name,by decide,Tryz.func138.trans (congrArg some (by kernel_rfl))⟩
 f15:=Tryz.func139.trans (congrArg some (by kernel_rfl))
 f20:=⟨Tryz.f154.name,by decide,Tryz.func154.trans (congrArg some (by kernel_rfl))⟩
 f21:=⟨Tryz.f155.name,by decide,Tryz.func155.trans (congrArg some (by kernel_rfl))⟩
 f22:=⟨Tryz.f156.name,by decide,Tryz.func156.trans (congrArg some (by kernel_rfl))⟩
 f23:=⟨Tryz.f157.name,by decide,Tryz.func157.trans (congrArg some (by kernel_rfl))⟩
 f24:=⟨Tryz.f158.name,by decide,Tryz.func158.trans (congrArg some (by kernel_rfl))⟩
 f25:=⟨Tryz.f159.name,by decide,Tryz.func159.trans (congrArg some (by kernel_rfl))⟩
 f26:=⟨Tryz.f160.name,by decide,Tryz.func160.trans (congrArg some (by kernel_rfl))⟩
 f27:=⟨Tryz.f161.name,by decide,Tryz.func161.trans (congrArg some (by kernel_rfl))⟩
 f28:=Tryz.func162.trans (congrArg some (by kernel_rfl))
 f29:=Tryz.func163.trans (congrArg some (by kernel_rfl))
 f46:=⟨Tryz.f176.name,by decide,Tryz.func176.trans (congrArg some (by kernel_rfl))⟩
 f47:=Tryz.func177.trans (congrArg some (by kernel_rfl))
 f48:=Tryz.func178.trans (congrArg some (by kernel_rfl))
 f49:=⟨Tryz.f179.name,by decide,Tryz.func179.trans (congrArg some (by kernel_rfl))⟩
 f50:=⟨Tryz.f180.name,by decide,Tryz.func180.trans (congrArg some (by kernel_rfl))⟩
 f57:=⟨Tryz.f189.name,by decide,Tryz.func189.trans (congrArg some (by kernel_rfl))⟩
 t0:=Tryz.underlying0
 a0:=Tryz.isAgg0
 z0:=Tryz.sizeOf0
 v0:=Tryz.zeroValue0
 t3:=Tryz.underlying3
 a3:=Tryz.isAgg3
 z3:=Tryz.sizeOf3
 v3:=Tryz.zeroValue3
 t4:=Tryz.underlying4
 a4:=Tryz.isAgg4
 z4:=Tryz.sizeOf4
 v4:=Tryz.zeroValue4
 t5:=Tryz.underlying5
 a5:=Tryz.isAgg5
 z5:=Tryz.sizeOf5
 v5:=Tryz.zeroValue5
 t9:=Tryz.underlying9
 a9:=Tryz.isAgg9
 z9:=Tryz.sizeOf9
 v9:=Tryz.zeroValue9
 t22:=Tryz.underlying42
 a22:=Tryz.isAgg42
 z22:=Tryz.sizeOf42
 v22:=Tryz.zeroValue42
 a24:=Tryz.isAgg39
 z24:=Tryz.sizeOf39
 t25:=Tryz.underlying130
 a25:=Tryz.isAgg130
 z25:=Tryz.sizeOf130
 v25:=Tryz.zeroValue130
 t39:=Tryz.underlying187
 a39:=Tryz.isAgg187
 z39:=Tryz.sizeOf187
 v39:=Tryz.zeroValue187
 t45:=Tryz.underlying198
 a45:=Tryz.isAgg198
 z45:=Tryz.sizeOf198
 v45:=Tryz.zeroValue198
 t46:=Tryz.underlying199
 a46:=Tryz.isAgg199
 z46:=Tryz.sizeOf199
 v46:=Tryz.zeroValue199
 t50:=Tryz.underlying32
 a50:=Tryz.isAgg32
 z50:=Tryz.sizeOf32
 v50:=Tryz.zeroValue32
 t53:=Tryz.underlying205
 a53:=Tryz.isAgg205
 z53:=Tryz.sizeOf205
 v53:=Tryz.zeroValue205
 t55:=Tryz.underlying207
 a55:=Tryz.isAgg207
 z55:=Tryz.sizeOf207
 v55:=Tryz.zeroValue207
 t66:=Tryz.underlying216
 a66:=Tryz.isAgg216
 z66:=Tryz.sizeOf216
 v66:=Tryz.zeroValue216
 t70:=Tryz.underlying220
 a70:=Tryz.isAgg220
 z70:=Tryz.sizeOf220
 v70:=Tryz.zeroValue220
 t76:=Tryz.underlying224
 a76:=Tryz.isAgg224
 z76:=Tryz.sizeOf224
 v76:=Tryz.zeroValue224
 t77:=Tryz.underlying84
 a77:=Tryz.isAgg84
 z77:=Tryz.sizeOf84
 v77:=Tryz.zeroValue84 }
end Go.Proofs
