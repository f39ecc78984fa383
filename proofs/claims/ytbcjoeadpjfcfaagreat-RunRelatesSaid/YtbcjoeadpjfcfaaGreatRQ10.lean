/-
  Parts of the proof that the law holds whatever the input; without conditions.
-/
import Derived.Test.YtbcjoeadpjfcfaaGreatRQ8
import Derived.Test.YtbcjoeadpjfcfaaGreatRQ9
set_option linter.unusedSimpArgs false
set_option linter.unusedVariables false
set_option linter.unusedSectionVars false
set_option maxRecDepth 100000
namespace Go.Proofs.YtbcjoeadpjfcfaaGreat
open Abs O1 O2 O3
theorem T7(a b:List Int)(hl:a.length<=1000000000000):PC Tryz.prog 116 [A4 a,A4 b] (.bool (decide (a=b))):=by
 refine BA If ?_;unfold Gm;(with_reducible repeat'(first|simp (disch:=omega) only[push_cast,↓zz,seval]|apply Aa|refine sp_ ?_ ?_<;>intro hc<;>push_cast at hc|omega|intro _))
 ·have:a≠b:=by intro h;subst h;first|omega|simp_all
  simp[this]
 refine AQ (AX (λ(k:Nat)=>k<=a.length/\decide (a=b)=decide (a.drop k=b.drop k)) (λk=>a.length-k)
  (λk=>[(0,A4 a),(1,A4 b),(12,.int .i64 a.length),(13,.int .i64 k)]) (λs=>[]) (λenv _=>[]) 0 (by simp) ?_ ?_)
 ·(with_reducible repeat'(first|simp (disch:=omega) only[push_cast,↓zz,seval]|apply Aa|refine sp_ ?_ ?_<;>intro hc<;>push_cast at hc|omega|intro _))
 rintro k ⟨hk,hr⟩;refine W_T ?_;(with_reducible repeat'(first|simp (disch:=omega) only[push_cast,↓zz,seval]|apply Aa|refine sp_ ?_ ?_<;>intro hc<;>push_cast at hc|omega|intro _))
 all_goals first
  |(rw[hr,Aj (by omega),Aj (by omega)];simp;done)
  |(rw[hr,Ix (by omega) (by omega)];simp_all;done)
  |(refine⟨k+1,?_⟩
    (with_reducible repeat'(first|simp (disch:=omega) only[push_cast,↓zz,seval]|apply Aa|refine sp_ ?_ ?_<;>intro hc<;>push_cast at hc|omega|intro _))
    rw[hr,Ix (by omega) (by omega)];simp_all;done)
  |trace_state
def mayL(n:Nat)(f:Nat->Bool):List AV:=(List.range (n+1)).map λk=>AV.bool (f k)
def H0(n:Nat)(o:Option (Nat->Bool)):AV:=match o with
 |none=>.nilS
 |some f=>.lst 1 (mayL n f)
def J7(o:Option (Nat->Bool)):Nat->Bool:=match o with
 |none=>λk=>decide (k=0)
 |some f=>f
section
variable {n k:Nat}{f:Nat->Bool}
theorem Da:(mayL n f).length=n+1:=by simp[mayL]
theorem Fx:A6 (mayL n f)=true:=BQ.2 λx hx=>by
 obtain⟨i,_,rfl⟩:=Ar.1 hx;rfl
theorem z8y{z:AV}(hk:k<=n):(mayL n f).getD k z=.bool (f k):=by rw[mayL,Cq (by omega)]
theorem zef{v:Bool}(hk:k<=n):(mayL n f).set k (.bool v)=mayL n λm=>if m=k then v else f m:=by
 rw[mayL,CJ (by omega),mayL];refine AD λp _=>?_;by_cases e:p=k
 ·rw[Ae e,Ae e]
 ·rw[Ac e,Ac e]
theorem z8z:List.replicate (n+1) (AV.bool false)=mayL n λ_=>false:=by
 refine BI (by simp[mayL]) λi h1 h2=>?_;simp[mayL]
theorem I2{g:Nat->Bool}(h:∀m,m<=n->f m=g m):mayL n f=mayL n g:=by
 refine AD λp hp=>?_;rw[h p (by have:=Bf.1 hp;omega)]
end
theorem z2c{n:Nat}{o:Option (Nat->Bool)}:(H0 n o).pure=true:=by
 cases o with
 |none=>rfl
 |some f=>simp only[H0,AV.pure];exact Fx
theorem Ea{n b d:Nat}{H:Ax}{ks:List Nat}{o:Option (Nat->Bool)}:rnV b H ks (d+1) (H0 n o)=H0 n o:=by
 cases o<;>rfl
def Kc(y w:List Int)(may th:Nat->Bool)(k m:Nat):Bool:=may m||(decide (m<k)&&HH y w th m)
theorem z2d{y w:List Int}{may th:Nat->Bool}:Kc y w may th 0=may:=by funext m;simp[Kc]
theorem z90{n k:Nat}{y w:List Int}{may th:Nat->Bool}(hk:k<=n)(h:HH y w th k=true):(mayL n λm=>if m=k then true else Kc y w may th k m)=mayL n (Kc y w may th (k+1)):=I2 λm _=>by
 by_cases e:m=k
 ·subst e;rw[Ae rfl,Kc,h];simp
 ·rw[Ac e,Kc,Kc,show decide (m<k+1)=decide (m<k) from BC.2 (by omega)]
theorem zeg{n k:Nat}{y w:List Int}{may th:Nat->Bool}(h:HH y w th k=false):mayL n (Kc y w may th k)=mayL n (Kc y w may th (k+1)):=I2 λm _=>by
 by_cases e:m=k
 ·subst e;simp[Kc,h]
 ·rw[Kc,Kc,show decide (m<k+1)=decide (m<k) from BC.2 (by omega)]
theorem run_mark(y w:List Int)(may:Nat->Bool)(o:Option (Nat->Bool))(hy:y.length<=1000000)(hw:w.length<=1000000):
 BB Tryz.prog 81 [.ref 0 1 0 (y.length+1),A4 y,A4 w,H0 y.length o] (Abs.hl [⟨1,1,true,mayL y.length may⟩]) λa H'=>a=.tup []/\H'=Abs.hl [⟨1,1,true,mayL y.length λm=>may m||HH y w (J7 o) m⟩]:=by
 have pY:A6 (y.map (AV.int .i32))=true:=AE .i32 _;have pW:A6 (w.map (AV.int .i32))=true:=AE .i32 _;have pM:=λf=>Fx (n:=y.length) (f:=f);refine Gz (b:=1) z0b rfl ?_;unfold QC;(with_reducible repeat'(first|simp (disch:=omega) only[push_cast,↓zz,seval,pY,pW,pM,Ea,CS,Da]|apply Aa|refine sp_ ?_ ?_<;>intro hc<;>push_cast at hc|omega|intro _))
 refine AQ (AX (λ(k:Nat)=>k<=y.length+1) (λk=>y.length+1-k)
  (λk=>[(0,.ref 0 1 0 (y.length+1)),(1,A4 y),(2,A4 w),(3,H0 y.length o),(11,.int .i64 ((y.length:Int)+1)),(12,.int .i64 k)]) (λk=>[⟨1,1,true,mayL y.length (Kc y w may (J7 o) k)⟩]) (λ_ _=>[]) 0 (Aw _) ?_ ?_)
 ·(with_reducible repeat'(first|simp (disch:=omega) only[push_cast,↓zz,seval,pY,pW,pM,Da,z2d,Ea,CS]|apply Aa|refine sp_ ?_ ?_<;>intro hc<;>push_cast at hc|omega|intro _))
 intro k hk;rcases Ah k (y.length+1) with hky|hky
 ·have hyes:=z90 (n:=y.length) (y:=y) (w:=w) (may:=may) (th:=J7 o) (k:=k) (by omega)
  have hno:=zeg (n:=y.length) (y:=y) (w:=w) (may:=may) (th:=J7 o) (k:=k);have hset:=zef (n:=y.length) (k:=k) (v:=true) (f:=Kc y w may (J7 o) k) (by omega);rcases Ah k w.length with hkw|hkw
  ·have hno:=hno (by simp[HH];intro h;omega)
   refine W_T ?_;(with_reducible repeat'(first|simp (disch:=omega) only[push_cast,↓zz,seval,pY,pW,pM,Ea,CS,Da]|apply Aa|refine sp_ ?_ ?_<;>intro hc<;>push_cast at hc|omega|intro _))
   all_goals
    refine⟨k+1,?_⟩;(with_reducible repeat'(first|simp (disch:=omega) only[push_cast,↓zz,seval,pY,pW,pM,Ea,CS,Da,hno]|apply Aa|refine sp_ ?_ ?_<;>intro hc<;>push_cast at hc|omega|intro _))
  ·have hE:=T7 ((y.drop (y.length-k)).take w.length) w (by simp;omega)
   have hmw:List.drop (y.length-k) (List.take (y.length-k+w.length) (y.map (AV.int .i32)))=((y.drop (y.length-k)).take w.length).map (AV.int .i32):=by rw[List.map_take,List.map_drop,List.drop_take];simp
   have hdt:List.drop (y.length-k) (List.take (y.length-k+w.length) y)=(y.drop (y.length-k)).take w.length:=by rw[List.drop_take];simp
   have h1:((y.length:Int)-k).toNat=y.length-k:=by omega
   have h2:((y.length:Int)-k+w.length).toNat=y.length-k+w.length:=by omega
   have pS:A6 (((y.drop (y.length-k)).take w.length).map (AV.int .i32))=true:=AE .i32 _;have hah:HH y w (J7 o) k=(decide ((y.drop (y.length-k)).take w.length=w)&&J7 o (k-w.length)):=by rw[HH,A7 hkw];rfl
   generalize hq:decide ((y.drop (y.length-k)).take w.length=w)=q at *;generalize ((y.drop (y.length-k)).take w.length)=z at *;cases q with
   |false =>
    have hno:=hno (by rw[hah];rfl);refine W_T ?_;(with_reducible repeat'(first|simp (disch:=omega) only[push_cast,↓zz,seval,pY,pW,pM,Ea,CS,Da,hmw,hdt,h1,h2,pS]|apply Aa|refine sp_ ?_ ?_<;>intro hc<;>push_cast at hc|refine ee hE ?_|(refine cc hE ?_;(simp(disch:=omega)only[push_cast,↓zz,seval,pY,pW,pM,Ea,CS,Da,hmw,hdt,h1,h2,pS]);(fail_if_success change False))|omega|intro _))
    all_goals
     refine⟨k+1,?_⟩;(with_reducible repeat'(first|simp (disch:=omega) only[push_cast,↓zz,seval,pY,pW,pM,Ea,CS,Da,hno]|apply Aa|refine sp_ ?_ ?_<;>intro hc<;>push_cast at hc|omega|intro _))
   |true =>
    rw[AF] at hah;cases o with
    |none =>
     simp only[H0,J7] at *;by_cases h0:k-w.length=0
     ·rw[hah] at hyes
      have hyes:=hyes (A7 h0);refine W_T ?_;(with_reducible repeat'(first|simp (disch:=omega) only[push_cast,↓zz,seval,pY,pW,pM,Ea,CS,Da,hmw,hdt,h1,h2,pS]|apply Aa|refine sp_ ?_ ?_<;>intro hc<;>push_cast at hc|refine ee hE ?_|(refine cc hE ?_;(simp(disch:=omega)only[push_cast,↓zz,seval,pY,pW,pM,Ea,CS,Da,hmw,hdt,h1,h2,pS]);(fail_if_success change False))|omega|intro _))
      all_goals first|omega|skip
      all_goals
       refine⟨k+1,?_⟩;(with_reducible repeat'(first|simp (disch:=omega) only[push_cast,↓zz,seval,pY,pW,pM,Ea,CS,Da,hset,hyes]|apply Aa|refine sp_ ?_ ?_<;>intro hc<;>push_cast at hc|omega|intro _))
     ·have hno:=hno (by rw[hah];exact AM h0)
      refine W_T ?_;(with_reducible repeat'(first|simp (disch:=omega) only[push_cast,↓zz,seval,pY,pW,pM,Ea,CS,Da,hmw,hdt,h1,h2,pS]|apply Aa|refine sp_ ?_ ?_<;>intro hc<;>push_cast at hc|refine ee hE ?_|(refine cc hE ?_;(simp(disch:=omega)only[push_cast,↓zz,seval,pY,pW,pM,Ea,CS,Da,hmw,hdt,h1,h2,pS]);(fail_if_success change False))|omega|intro _))
      all_goals first|omega|skip
      all_goals
       refine⟨k+1,?_⟩;(with_reducible repeat'(first|simp (disch:=omega) only[push_cast,↓zz,seval,pY,pW,pM,Ea,CS,Da,hno]|apply Aa|refine sp_ ?_ ?_<;>intro hc<;>push_cast at hc|omega|intro _))
    |some f =>
     simp only[H0,J7] at *;have pF:=Fx (n:=y.length) (f:=f);have lF:=Da (n:=y.length) (f:=f);have aF:=z8y (n:=y.length) (f:=f) (z:=.any) (k:=k-w.length) (by omega);have h3:((k:Int)-w.length).toNat=k-w.length:=by omega
     have hne:mayL y.length f≠[]:=by intro h;rw[h] at lF;simp at lF
     generalize mayL y.length f=F at *;cases hf:f (k-w.length) with
     |true =>
      rw[hf] at aF hah;have hyes:=hyes hah;refine W_T ?_;(with_reducible repeat'(first|simp (disch:=omega) only[push_cast,↓zz,seval,pY,pW,pM,Ea,CS,Da,hmw,hdt,h1,h2,h3,pS,pF,lF,aF,hne]|apply Aa|refine sp_ ?_ ?_<;>intro hc<;>push_cast at hc|refine ee hE ?_|(refine cc hE ?_;(simp(disch:=omega)only[push_cast,↓zz,seval,pY,pW,pM,Ea,CS,Da,hmw,hdt,h1,h2,h3,pS,pF,lF,aF,hne]);(fail_if_success change False))|omega|intro _))
      all_goals
       refine⟨k+1,?_⟩;(with_reducible repeat'(first|simp (disch:=omega) only[push_cast,↓zz,seval,pY,pW,pM,Ea,CS,Da,hset,hyes,pF]|apply Aa|refine sp_ ?_ ?_<;>intro hc<;>push_cast at hc|omega|intro _))
     |false =>
      rw[hf] at aF hah;have hno:=hno hah;refine W_T ?_;(with_reducible repeat'(first|simp (disch:=omega) only[push_cast,↓zz,seval,pY,pW,pM,Ea,CS,Da,hmw,hdt,h1,h2,h3,pS,pF,lF,aF,hne]|apply Aa|refine sp_ ?_ ?_<;>intro hc<;>push_cast at hc|refine ee hE ?_|(refine cc hE ?_;(simp(disch:=omega)only[push_cast,↓zz,seval,pY,pW,pM,Ea,CS,Da,hmw,hdt,h1,h2,h3,pS,pF,lF,aF,hne]);(fail_if_success change False))|omega|intro _))
      all_goals
       refine⟨k+1,?_⟩;(with_reducible repeat'(first|simp (disch:=omega) only[push_cast,↓zz,seval,pY,pW,pM,Ea,CS,Da,hno,pF]|apply Aa|refine sp_ ?_ ?_<;>intro hc<;>push_cast at hc|omega|intro _))
 ·obtain rfl:k=y.length+1:=by omega
  have hfin:mayL y.length (Kc y w may (J7 o) (y.length+1))=mayL y.length λm=>may m||HH y w (J7 o) m:=I2 λm hm=>by rw[Kc,A7 (by omega),AF]
  rw[hfin];refine W_T ?_;(with_reducible repeat'(first|simp (disch:=omega) only[push_cast,↓zz,seval,pY,pW,pM,Ea,CS,Da]|apply Aa|refine sp_ ?_ ?_<;>intro hc<;>push_cast at hc|omega|intro _))
  all_goals trace_state
set_option maxRecDepth 100000
def lefT(ny n m:Nat)(M:Nat->Nat->Option (Nat->Bool)):List AV:=(List.range m).map λp=>H0 ny (M (p / n) (p % n))
section
variable {ny n m a t:Nat}{M:Nat->Nat->Option (Nat->Bool)}
theorem Z3:(lefT ny n m M).length=m:=by simp[lefT]
theorem PL:A6 (lefT ny n m M)=true:=BQ.2 λx hx=>by
 obtain⟨i,_,rfl⟩:=Ar.1 hx;exact z2c
theorem z91{z:AV}(ht:t<n)(hp:a * n+t<m):(lefT ny n m M).getD (a * n+t) z=H0 ny (M a t):=by
 rw[lefT,Cq hp,Gc ht,Gd ht]
theorem zeh{v:Option (Nat->Bool)}(ht:t<n)(hp:a * n+t<m):(lefT ny n m M).set (a * n+t) (H0 ny v)=lefT ny n m (setP M a t v):=by
 rw[lefT,CJ hp,lefT];refine AD λp _=>?_;simp only[setP];by_cases e:p=a * n+t
 ·subst e;rw[Ae rfl,Gc ht,Gd ht,Ae ⟨rfl,rfl⟩]
 ·rw[Ac e,Ac λh=>e (LP ht h)]
theorem z92:List.replicate m AV.nilS=lefT ny n m λ_ _=>none:=by
 refine BI (by simp[lefT]) λi h1 h2=>?_;simp[lefT,H0]
end
def relH(d:Desc)(R:AV)(y:List Int)(n m:Nat)(M:Nat->Nat->Option (Nat->Bool)):List Grp:=[⟨6,1,true,[Cu d]⟩,⟨1,1,true,[A4 y]⟩,⟨1,1,true,[R]⟩,⟨1,1,true,lefT y.length n m M⟩,⟨1,1,true,[.ref 3 1 0 m]⟩]
theorem PM{d:Desc}{R:AV}(hR:R.pure=true){y:List Int}{n m:Nat}{M:Nat->Nat->Option (Nat->Bool)}:∀G∈relH d R y n m M,ltL 5 G.xs:=λG hG=>by
 simp only[relH,Ai,As,AH] at hG;rcases hG with rfl|rfl|rfl|rfl|rfl
 ·exact C0 _ _ (by simp[A6,Gp])
 ·exact C0 _ _ (by simp[A6,AV.pure,AE])
 ·exact C0 _ _ (by simp[A6,hR])
 ·exact C0 _ _ PL
 ·exact⟨(show 3<5 by omega),trivial⟩
theorem z2e{k b:Nat}{env:Env}{A B C E:Grp}{T:List AV}{p ny:Nat}{f:Nat->Bool}(hp:p<T.length):
 Ent k b env (Abs.hl [A,B,C,⟨1,1,true,T.set p (.ref 5 1 0 (ny+1))⟩,E,⟨1,1,true,mayL ny f⟩]) env (Abs.hl [A,B,C,⟨1,1,true,T.set p (H0 ny (some f))⟩,E,⟨0,2,false,[]⟩]):=by
 refine LO (g:=3) (w:=1) (v:=1) (d:=1) (ex:=true) (xs:=T.set p (.ref 5 1 0 (ny+1))) (ys:=T.set p (H0 ny (some f))) [5] (by decide) (by simp) rfl (by decide) ?_ ?_
 ·have h:=FrzM.set (d:=1) (H:=Abs.hl [A,B,C,⟨1,1,true,T.set p (.ref 5 1 0 (ny+1))⟩,E,⟨1,1,true,mayL ny f⟩]) (ks:=[5]) (y:=H0 ny (some f)) (xs:=T.set p (.ref 5 1 0 (ny+1))) (i:=p) (by simpa using hp) ?_
  ·rw[List.set_set] at h;exact h
  ·rw[show (T.set p (AV.ref 5 1 0 (ny+1))).getD p .any=.ref 5 1 0 (ny+1) by simp[List.getD,hp]]
   refine .inl (.inr ?_);have hat:((Abs.hl [A,B,C,⟨1,1,true,T.set p (.ref 5 1 0 (ny+1))⟩,E,⟨1,1,true,mayL ny f⟩]).only [5]).at_ 5=⟨1,1,true,mayL ny f⟩:=rfl;have hpz:=GN ((Abs.hl [A,B,C,⟨1,1,true,T.set p (.ref 5 1 0 (ny+1))⟩,E,⟨1,1,true,mayL ny f⟩]).only [5]) 0 (Fx (n:=ny) (f:=f));have htk:List.take (ny+1) (mayL ny f)=mayL ny f:=Al (by rw[Da];exact Af _);constructor
   ·simp only[Dv]
    rw[hat];simp only[Cd,htk];exact⟨trivial,by decide,by rw[Da];omega,hpz.1⟩
   ·simp only[frzV]
    rw[hat];simp only[Cd,htk];simp[H0,frzV]
 ·rfl
section
variable {d:Desc}{x y:List Int}{n:Nat}{ord:List Nat}{L:Nat->Nat->Bool}{at_ j s k:Nat}
def offM(M:Nat->Nat->Option (Nat->Bool))(a t:Nat):Nat->Bool:=(M a t).getD λ_=>false
structure LefO(d:Desc)(x y:List Int)(L:Nat->Nat->Bool)(ord:List Nat)(at_ j:Nat)(M:Nat->Nat->Option (Nat->Bool)):Prop where
 on:∀a t,a<=x.length->L a t=true->Past ord at_ j a t->M a t=some (offM M a t)
 lef:LefI d x y L ord at_ j (offM M)
variable {M:Nat->Nat->Option (Nat->Bool)}
theorem z93:LefO d x y L ord x.length 0 M:=by
 refine⟨λa t ha _ hp=>?_,z8a⟩;rcases hp with h|⟨_,h⟩
 ·omega
 ·simp at h
theorem z94(h:LefO d x y L ord at_ j M)(hj:j<ord.length)(ho:L at_ (nth ord j)=false):LefO d x y L ord at_ (j+1) M:=by
 refine⟨λa t ha hl hp=>?_,z8b h.lef hj ho⟩;rcases GQ hj hp with h1|⟨rfl,rfl⟩
 ·exact h.on a t ha hl h1
 ·rw[ho] at hl;cases hl
theorem zei(h:LefO d x y L ord (at_+1) n M)(hl:LivE d x n L)(ht:Topo d.rules n ord):LefO d x y L ord at_ 0 M :=
 ⟨λa t ha hlt hp=>h.on a t ha hlt (NB (C5 ht) ((ht.all t).2 (hl.lead a t hlt).1) hp),ze0 h.lef hl ht⟩
theorem z95(h:LefO d x y L ord at_ j M)(hl:LivE d x n L)(hg:Goes d n)(ht:Topo d.rules n ord)(hj:j<n)(ha:at_<=x.length)(hlv:L at_ (nth ord j)=true):
 LefO d x y L ord at_ (j+1) (setP M at_ (nth ord j) (some (mayR d x y (offM M) at_ (nth ord j) (ruI d.rules (nth ord j)).length))):=by
 have e:offM (setP M at_ (nth ord j) (some (mayR d x y (offM M) at_ (nth ord j) (ruI d.rules (nth ord j)).length)))=setP (offM M) at_ (nth ord j) (mayR d x y (offM M) at_ (nth ord j) (ruI d.rules (nth ord j)).length):=by
  funext a t;simp only[offM,setP];split<;>rfl
 refine⟨λa t hal hlt hp=>?_,by rw[e];exact z8c h.lef hl hg ht hj ha hlv⟩;rw[e];simp only[setP];by_cases e2:a=at_/\t=nth ord j
 ·rw[Ae e2,Ae e2]
 ·rw[Ac e2,Ac e2]
  rcases GQ (by rw[C5 ht];exact hj) hp with h1|h1
  ·exact h.on a t hal hlt h1
  ·exact absurd h1 e2
theorem zkr(h:LefO d x y L ord at_ j M)(hl:LivE d x n L)(hg:Goes d n)(ht:Topo d.rules n ord)(hj:j<n)(ha:at_<=x.length)(hlv:L at_ (nth ord j)=true){r:Rule}(hr:r∈d.rules)(hf:r.from_=(nth ord j:Nat))(hgo:goB x r.guards at_=true):
 M (at_+r.eat.toNat) r.to_.toNat=some (offM M (at_+r.eat.toNat) r.to_.toNat)/\at_+r.eat.toNat<=x.length/\r.to_.toNat<n:=by
 obtain⟨_,htt,e1,e2⟩:=hg.r r hr;have hle:=FE hgo;exact⟨h.on _ _ (by omega) (hl.clos _ _ hlv r hr hf hgo) (IM hg ht hj hr hf),by omega,by omega⟩
theorem z96{w:List Int}{m:Nat}(hm:m<=y.length):HH y w (J7 none) m=decide (y.drop (y.length-m)=w):=by
 have:=PD (y:=y) (w:=w) (th:=J7 none) (m:=m) hm (T:=λv=>v=[]) λk hk=>by
  simp only[J7,Ad,List.drop_eq_nil_iff];omega
 rw[BN,this,Ad];constructor
 ·rintro⟨v,rfl,h⟩;rw[h,A5]
 ·intro h;exact⟨[],rfl,by rw[h,A5]⟩
theorem z97:mayL y.length (mayF d x y at_ s 0)=mayL y.length λ_=>false:=I2 λm _=>by simp[mayF,VG]
theorem zej{w:List Int}(h:finW d x at_ s (k+1)=finW d x at_ s k++[w]):(mayL y.length λm=>mayF d x y at_ s k m||HH y w (J7 none) m)=mayL y.length (mayF d x y at_ s (k+1)):=I2 λm hm=>by
 rw[z96 hm,mayF,mayF,h,List.any_append];simp
theorem zks(h:finW d x at_ s (k+1)=finW d x at_ s k):mayF d x y at_ s (k+1)=mayF d x y at_ s k:=by
 funext m;rw[mayF,mayF,h]
theorem z98{N:Nat->Nat->Nat->Bool}:mayR d x y N at_ s 0=mayF d x y at_ s (fiI d.finals s).length:=by
 funext m;simp[mayR]
theorem zek{N:Nat->Nat->Nat->Bool}(hk:k<(ruI d.rules s).length){r:Rule}(hf:nth d.rules (nth (ruI d.rules s) k)=r)(h:goB x r.guards at_=true):
 (λm=>mayR d x y N at_ s k m||HH y (CM x r.out r.guards at_) (J7 (some (N (at_+r.eat.toNat) r.to_.toNat))) m)=mayR d x y N at_ s (k+1):=by
 funext m;rw[mayR,mayR,take_at hk,List.any_append,<-Bool.or_assoc];simp[hf,h,J7]
theorem zkt{N:Nat->Nat->Nat->Bool}(hk:k<(ruI d.rules s).length){r:Rule}(hf:nth d.rules (nth (ruI d.rules s) k)=r)(h:goB x r.guards at_=false):mayR d x y N at_ s (k+1)=mayR d x y N at_ s k:=by
 funext m;rw[mayR,mayR,take_at hk,List.any_append];simp[hf,h]
theorem zel(h:LefO d x y L ord 0 n M)(hl:LivE d x n L)(ht:Topo d.rules n ord)(hs:0<=d.start/\d.start<n):∃f,M 0 d.start.toNat=some f/\f y.length=decide (y∈outW d x 0 d.start):=by
 refine⟨_,h.on 0 d.start.toNat (Aw _) hl.start (.inr ⟨rfl,by rw[Al (by rw[C5 ht];omega)];exact (ht.all _).2 (by omega)⟩),ze1 h.lef hl ht hs⟩
end
set_option maxRecDepth 100000
theorem z99(d:Desc)(x y:List Int){n:Nat}(hk:M2 d x n){ord:List Nat}{L:Nat->Nat->Bool}(ht:Topo d.rules n ord)(hl:LivE d x n L)(hy:y.length<=1000000)
 (a j:Nat) (M:Nat->Nat->Option (Nat->Bool)) (ha:a<=x.length) (hj:j<n) (hI:LefO d x y L ord a j M) (hlv:L a (nth ord j)=true) :
 BB Tryz.prog 80 [.int .i64 a,.int .i64 (nth ord j:Nat),.ptr 1 1 0 0,.ptr 2 1 0 0,.ptr 0 1 0 0,.ptr 4 1 0 0]
  (Abs.hl (relH d (Ct d x (ruV d.rules n) (fiV d.finals n) (.lst 1 (ord.map e1)) (.lst 1 (lvB n ((x.length+1) * n) L))) y n ((x.length+1) * n) M)) λz H'=>z=.tup []/\∃M':Nat->Nat->Option (Nat->Bool),
   H'=Abs.hl (relH d (Ct d x (ruV d.rules n) (fiV d.finals n) (.lst 1 (ord.map e1)) (.lst 1 (lvB n ((x.length+1) * n) L))) y n ((x.length+1) * n) M')/\LefO d x y L ord a (j+1) M':=by
 have pR:=BF d.rules;have pFi:=B9 d.finals;have pX:A6 (x.map (AV.int .i32))=true:=AE .i32 _;have pY:A6 (y.map (AV.int .i32))=true:=AE .i32 _;have pO:A6 (ord.map e1)=true:=CU (λ_=>rfl) _;have pL:A6 (lvB n ((x.length+1) * n) L)=true:=HE;have pRU:A6 (fD 1 e1 n (ruI d.rules))=true:=Er λ_=>rfl;have pFI:A6 (fD 1 e1 n (fiI d.finals))=true:=Er λ_=>rfl;have lRU:(fD 1 e1 n (ruI d.rules)).length=n:=Nl;have lFI:(fD 1 e1 n (fiI d.finals)).length=n:=Nl;have hdn:=hk.st;have hn:=hk.n1;have hx:=hk.xl;have hol:=C5 ht;have htn:nth ord j<n:=(ht.all _).1 (AL (by omega));have hgoes:=hk.goes;have hmx:(x.length+1) * n<=1025 * 1024:=B6 (by omega) hn;have hpm:=Et htn ha;have pA:=λf=>Fx (n:=y.length) (f:=f);have pZ:A6 (List.replicate y.length (AV.bool false))=true:=BQ.2 λv hv=>by rw[CB hv];rfl
 unfold ruV fiV;refine Hj (KX Oz (W_T ?_));unfold Ji;have hto:=λr hr hf hgo=>zkr hI hl hgoes ht hj ha hlv (r:=r) hr hf hgo;have hnext:=z95 hI hl hgoes ht hj ha hlv;have aR:(fD 1 e1 n (ruI d.rules)).getD (nth ord j) .any=.lst 1 ((ruI d.rules (nth ord j)).map e1):=V5 htn;have aR2:(fD 1 e1 n (ruI d.rules))[nth ord j]? = some (.lst 1 ((ruI d.rules (nth ord j)).map e1)):=Nm htn;have aF:(fD 1 e1 n (fiI d.finals)).getD (nth ord j) .any=.lst 1 ((fiI d.finals (nth ord j)).map e1):=V5 htn;have aF2:(fD 1 e1 n (fiI d.finals))[nth ord j]? = some (.lst 1 ((fiI d.finals (nth ord j)).map e1)):=Nm htn;have pRI:A6 ((ruI d.rules (nth ord j)).map e1)=true:=CU (λ_=>rfl) _;have pFJ:A6 ((fiI d.finals (nth ord j)).map e1)=true:=CU (λ_=>rfl) _;have hrI:=Pz d.rules (nth ord j);have hfI:=Xy d.finals (nth ord j);have hrl:=hk.rl;have hfl:=hk.fl;have pST:A6 (lefT y.length n ((x.length+1) * n) M)=true:=PL;have lST:(lefT y.length n ((x.length+1) * n) M).length=(x.length+1) * n:=Z3;have aST:∀b t,b<=x.length->t<n->(lefT y.length n ((x.length+1) * n) M).getD (b * n+t) .any=H0 y.length (M b t):=λb t hb htn=>z91 htn (Et htn hb);have sST:=λv=>zeh (v:=v) (ny:=y.length) (M:=M) htn hpm;have pl:∀b t,b<=x.length->t<n->b * n+t<(x.length+1) * n:=λb t hb htn=>Et htn hb;generalize hRUe:fD 1 e1 n (ruI d.rules)=RU at *;generalize hFIe:fD 1 e1 n (fiI d.finals)=FI at *;generalize hme:(x.length+1) * n=m at *;generalize hLVe:lvB n m L=LV at *;generalize hODe:ord.map e1=OD at *;have hEnds:=λ(f:FS) (hf:f∈d.finals)=>Tn d x (.lst 1 RU) (.lst 1 FI) (.lst 1 OD) (.lst 1 LV) f a pRU pFI pO pL (by omega) hk.x32 (hk.fb f hf).1.2 (hk.fb f hf).1.1 (by omega);have hWf:=λ(f:FS) (hf:f∈d.finals) (hgo:goB x f.guards a=true)=>Hi d x (.lst 1 RU) (.lst 1 FI) (.lst 1 OD) (.lst 1 LV) f.out a f.guards.length pRU pFI pO pL (by omega) hk.x32 (by have:=(hk.fb f hf).2.1;omega) (hk.fb f hf).2.2 (by have:=FE hgo;omega);have hFits:=λ(r:Rule) (hr:r∈d.rules)=>LN d x (.lst 1 RU) (.lst 1 FI) (.lst 1 OD) (.lst 1 LV) r.guards a pRU pFI pO pL (by omega) hk.x32 (hk.rb r hr).1.2 (hk.rb r hr).1.1 (by omega);have hWr:=λ(r:Rule) (hr:r∈d.rules) (hgo:goB x r.guards a=true)=>Hi d x (.lst 1 RU) (.lst 1 FI) (.lst 1 OD) (.lst 1 LV) r.out a r.guards.length pRU pFI pO pL (by omega) hk.x32 (by have:=(hk.rb r hr).2.1.1;omega) (hk.rb r hr).2.1.2 (by have:=FE hgo;omega);have pRn:(Ct d x (.lst 1 RU) (.lst 1 FI) (.lst 1 OD) (.lst 1 LV)).pure=true:=by simp[AV.pure,A6,pR,pFi,pX,pO,pL,pRU,pFI]
 have hcl:=λM=>PM (d:=d) (R:=Ct d x (.lst 1 RU) (.lst 1 FI) (.lst 1 OD) (.lst 1 LV)) pRn (y:=y) (n:=n) (m:=m) (M:=M);generalize nth ord j=s at *;unfold relH;generalize hSTe:lefT y.length n m M=ST at *;(with_reducible repeat'(first|simp (disch:=omega) only[push_cast,↓zz,seval,pR,pFi,pX,pO,pL,pRU,pFI,aF,aF2,lFI,pST,lST,pY,pA,pZ]|apply Aa|refine sp_ ?_ ?_<;>intro hc<;>push_cast at hc|omega|intro _))
 refine AQ (AX (λ(k:Nat)=>k<=(fiI d.finals s).length) (λk=>(fiI d.finals s).length-k)
  (λk=>[(0,.int .i64 a),(1,.int .i64 s),(2,.ptr 1 1 0 0),(3,.ptr 2 1 0 0),(4,.ptr 0 1 0 0),(5,.ptr 4 1 0 0),(8,.ref 5 1 0 (y.length+1)),(25,.lst 1 ((fiI d.finals s).map e1)),(26,.int .i64 (fiI d.finals s).length),(27,.int .i64 k)])
  (λk=>[⟨6,1,true,[Cu d]⟩,⟨1,1,true,[A4 y]⟩,⟨1,1,true,[Ct d x (.lst 1 RU) (.lst 1 FI) (.lst 1 OD) (.lst 1 LV)]⟩,⟨1,1,true,ST⟩,⟨1,1,true,[.ref 3 1 0 m]⟩,⟨1,1,true,mayL y.length (mayF d x y a s k)⟩]) (λenv _=>[Cf 1 (env 8)]) 0 (Aw _) ?_ ?_)
 ·rw[z97,<-z8z]
  (with_reducible repeat'(first|simp (disch:=omega) only[push_cast,↓zz,seval,pR,pFi,pX,pO,pL,pRU,pFI,pST,pFJ,pY,pA,pZ]|apply Aa|refine sp_ ?_ ?_<;>intro hc<;>push_cast at hc|omega|intro _))
 intro k hkk;rcases Ah k (fiI d.finals s).length with hkl|hkl
 ·obtain⟨i,hi⟩:∃i,i=nth (fiI d.finals s) k:=⟨_,rfl⟩
  have him:i∈fiI d.finals s:=by rw[hi];exact AL hkl
  obtain⟨i1,i2⟩:=P8.1 him;have aI:((fiI d.finals s).map e1).getD k .any=.int .i64 i:=by rw[hi];simp[nth,List.getD,hkl]
  have hE:=hEnds _ (AL i1);have hW:=hWf _ (AL i1);have hfl2:=(hk.fb _ (AL i1)).2.1;have hyes:=λf hf h=>Tw (d:=d) (x:=x) (at_:=a) (s:=s) hkl (f:=f) hf h;have hno:=λf hf h=>Xz (d:=d) (x:=x) (at_:=a) (s:=s) hkl (f:=f) hf h;rw[<-hi] at hyes hno;have hyes:=hyes _ rfl;have hno:=hno _ rfl;generalize hfe:nth d.finals i=f at *;have hgr:=Bs f.guards;have hot:=BP f.out;cases hb:(decide (f.guards.length+a=x.length)&&goB x f.guards a) with
  |true =>
   rw[hb] at hE;have hyes:=zej (y:=y) (hyes hb);have hgo:goB x f.guards a=true:=by simp only[Ab] at hb;exact hb.2
   have hW:=hW hgo;have pw:A6 ((CM x f.out f.guards a).map (AV.int .i32))=true:=AE .i32 _;have hwl:(CM x f.out f.guards a).length<=1000000:=by simp[CM,C4];omega
   rw[show C4 f.out ((x.drop a).take f.guards.length)=CM x f.out f.guards a from rfl] at hW;generalize CM x f.out f.guards a=w at *;have hMk:=run_mark y w (mayF d x y a s k) none hy hwl;rw[hyes] at hMk;simp only[H0] at hMk;have pM:A6 (mayL y.length (mayF d x y a s k))=true:=Fx;generalize mayL y.length (mayF d x y a s k)=A at *;refine W_T ?_;(with_reducible repeat'(first|simp (disch:=omega) only[push_cast,↓zz,seval,pR,pFi,pX,pO,pL,pRU,pFI,pST,pFJ,pY,aI,hfe,hgr,hot,pw,pM]|apply Aa|refine sp_ ?_ ?_<;>intro hc<;>push_cast at hc|refine ee hE ?_|refine ee hW ?_|((first|refine cc hE ?_|refine cc hW ?_);(simp(disch:=omega)only[push_cast,↓zz,seval,pR,pFi,pX,pO,pL,pRU,pFI,pST,pFJ,pY,aI,hfe,hgr,hot,pw,pM]);(fail_if_success change False))|omega|intro _))
   (refine GU [5] (hMk) (by decide) (by simp) (by (simp(disch:=omega)only[push_cast,↓zz,seval,pR,pFi,pX,pO,pL,pRU,pFI,pST,pFJ,pY,pw,pM])) (by (simp(disch:=omega)only[push_cast,↓zz,seval,pR,pFi,pX,pO,pL,pRU,pFI,pST,pFJ,pY,pw,pM])) (by (simp(disch:=omega)only[push_cast,↓zz,seval,pR,pFi,pX,pO,pL,pRU,pFI,pST,pFJ,pY,pw,pM])) (by (simp(disch:=omega)only[push_cast,↓zz,seval,Ai,As,AH,BD,Cy,BH,pR,pFi,pX,pO,pL,pRU,pFI,pST,pFJ,pY,pw,pM])) ?_)
   rintro z H' ⟨rfl,rfl⟩;refine⟨_,rfl,by simp,?_⟩;(with_reducible repeat'(first|simp (disch:=omega) only[push_cast,↓zz,seval,pR,pFi,pX,pO,pL,pRU,pFI,pST,pFJ,pY,pA,pZ]|apply Aa|refine sp_ ?_ ?_<;>intro hc<;>push_cast at hc|omega|intro _))
   all_goals
    refine⟨k+1,?_⟩;(with_reducible repeat'(first|simp (disch:=omega) only[push_cast,↓zz,seval,pR,pFi,pX,pO,pL,pRU,pFI,pST,pFJ,pY,pA,pZ]|apply Aa|refine sp_ ?_ ?_<;>intro hc<;>push_cast at hc|omega|intro _))
  |false =>
   rw[hb] at hE;have hno:=zks (y:=y) (hno hb);have pM:A6 (mayL y.length (mayF d x y a s k))=true:=Fx;refine W_T ?_;(with_reducible repeat'(first|simp (disch:=omega) only[push_cast,↓zz,seval,pR,pFi,pX,pO,pL,pRU,pFI,pST,pFJ,pY,aI,hfe,hgr,hot,pM]|apply Aa|refine sp_ ?_ ?_<;>intro hc<;>push_cast at hc|refine ee hE ?_|(refine cc hE ?_;(simp(disch:=omega)only[push_cast,↓zz,seval,pR,pFi,pX,pO,pL,pRU,pFI,pST,pFJ,pY,aI,hfe,hgr,hot,pM]);(fail_if_success change False))|omega|intro _))
   all_goals
    refine⟨k+1,?_⟩;(with_reducible repeat'(first|simp (disch:=omega) only[push_cast,↓zz,seval,pR,pFi,pX,pO,pL,pRU,pFI,pST,pFJ,hno,pM,pY,pA]|apply Aa|refine sp_ ?_ ?_<;>intro hc<;>push_cast at hc|omega|intro _))
 obtain rfl:k=(fiI d.finals s).length:=by omega
 have pM:A6 (mayL y.length (mayF d x y a s (fiI d.finals s).length))=true:=Fx;refine W_T ?_;(with_reducible repeat'(first|simp (disch:=omega) only[push_cast,↓zz,seval,pR,pFi,pX,pO,pL,pRU,pFI,pST,pFJ,pY,aR,aR2,lRU,pM]|apply Aa|refine sp_ ?_ ?_<;>intro hc<;>push_cast at hc|omega|intro _))
 refine AQ (AX (λ(k:Nat)=>k<=(ruI d.rules s).length) (λk=>(ruI d.rules s).length-k)
  (λk=>[(0,.int .i64 a),(1,.int .i64 s),(2,.ptr 1 1 0 0),(3,.ptr 2 1 0 0),(4,.ptr 0 1 0 0),(5,.ptr 4 1 0 0),(8,.ref 5 1 0 (y.length+1)),(58,.lst 1 ((ruI d.rules s).map e1)),(59,.int .i64 (ruI d.rules s).length),(60,.int .i64 k)])
  (λk=>[⟨6,1,true,[Cu d]⟩,⟨1,1,true,[A4 y]⟩,⟨1,1,true,[Ct d x (.lst 1 RU) (.lst 1 FI) (.lst 1 OD) (.lst 1 LV)]⟩,⟨1,1,true,ST⟩,⟨1,1,true,[.ref 3 1 0 m]⟩,⟨1,1,true,mayL y.length (mayR d x y (offM M) a s k)⟩]) (λenv _=>[Cf 1 (env 8)]) 0 (Aw _) ?_ ?_)
 ·rw[z98]
  (with_reducible repeat'(first|simp (disch:=omega) only[push_cast,↓zz,seval,pR,pFi,pX,pO,pL,pRU,pFI,pST,pRI,pY,pM]|apply Aa|refine sp_ ?_ ?_<;>intro hc<;>push_cast at hc|omega|intro _))
 intro k hkk;rcases Ah k (ruI d.rules s).length with hkl|hkl
 ·obtain⟨i,hi⟩:∃i,i=nth (ruI d.rules s) k:=⟨_,rfl⟩
  have him:i∈ruI d.rules s:=by rw[hi];exact AL hkl
  obtain⟨i1,i2⟩:=G1.1 him;have aI:((ruI d.rules s).map e1).getD k .any=.int .i64 i:=by rw[hi];simp[nth,List.getD,hkl]
  have hr:=AL i1;have hE:=hFits _ hr;have hW:=hWr _ hr;have hyes:=λr hf h=>zek (d:=d) (x:=x) (y:=y) (N:=offM M) (at_:=a) (s:=s) hkl (r:=r) hf h;have hno:=λr hf h=>zkt (d:=d) (x:=x) (y:=y) (N:=offM M) (at_:=a) (s:=s) hkl (r:=r) hf h;rw[<-hi] at hyes hno;have hyes:=hyes _ rfl;have hno:=hno _ rfl;have hto:=hto _ hr i2;obtain⟨_,htt,e1',e2'⟩:=hgoes.r _ hr;have heb:=(hk.rb _ hr).2.2;have hol:=(hk.rb _ hr).2.1.1;generalize hre:nth d.rules i=r at *;have hgr:=Bs r.guards;have hot:=BP r.out;obtain⟨e,he⟩:∃e:Nat,r.eat=e:=⟨r.eat.toNat,by omega⟩;obtain⟨t,htq⟩:∃t:Nat,r.to_=t:=⟨r.to_.toNat,by omega⟩;have het:r.eat.toNat=e:=by omega
  have htt2:r.to_.toNat=t:=by omega
  rw[het,htt2] at hyes hto;have pM:A6 (mayL y.length (mayR d x y (offM M) a s k))=true:=Fx;cases hb:goB x r.guards a with
  |false =>
   rw[hb] at hE;have hno:=hno hb;refine W_T ?_;(with_reducible repeat'(first|simp (disch:=omega) only[push_cast,↓zz,seval,pR,pFi,pX,pO,pL,pRU,pFI,pST,pRI,pY,aI,hre,hgr,hot,pM]|apply Aa|refine sp_ ?_ ?_<;>intro hc<;>push_cast at hc|refine ee hE ?_|(refine cc hE ?_;(simp(disch:=omega)only[push_cast,↓zz,seval,pR,pFi,pX,pO,pL,pRU,pFI,pST,pRI,pY,aI,hre,hgr,hot,pM]);(fail_if_success change False))|omega|intro _))
   all_goals
    refine⟨k+1,?_⟩;(with_reducible repeat'(first|simp (disch:=omega) only[push_cast,↓zz,seval,pR,pFi,pX,pO,pL,pRU,pFI,pST,pRI,pY,hno,pM,pA]|apply Aa|refine sp_ ?_ ?_<;>intro hc<;>push_cast at hc|omega|intro _))
  |true =>
   rw[hb] at hE;have hyes:=hyes hb;have hW:=hW hb;obtain⟨h1,h4,h5⟩:=hto hb;have hle:=FE hb;have pw:A6 ((CM x r.out r.guards a).map (AV.int .i32))=true:=AE .i32 _;have hwl:(CM x r.out r.guards a).length<=1000000:=by simp[CM,C4];omega
   rw[show C4 r.out ((x.drop a).take r.guards.length)=CM x r.out r.guards a from rfl] at hW;have aT:=aST (a+e) t h4 h5;rw[h1] at aT;simp only[H0] at aT;have hpl:=pl (a+e) t h4 h5;have hae:(a:Int)+(e:Int)=((a+e:Nat):Int):=by norm_cast
   have hmul:((a+e:Nat):Int) * (n:Int)=(((a+e) * n:Nat):Int):=by norm_cast
   have hmulb:(a+e) * n<=1024 * 1024:=B6 (by omega) hn;generalize CM x r.out r.guards a=h at *;have hMk:=run_mark y h (mayR d x y (offM M) a s k) (some (offM M (a+e) t)) hy hwl;rw[hyes] at hMk;simp only[H0] at hMk;have pF:A6 (mayL y.length (offM M (a+e) t))=true:=Fx;generalize mayL y.length (mayR d x y (offM M) a s k)=A at *;generalize mayL y.length (offM M (a+e) t)=F at *;generalize hpe:(a+e) * n+t=p at *;generalize (a+e) * n=an at *;have hpi:(an:Int)+(t:Int)=(p:Int):=by omega
   generalize hbe:a+e=b at *;refine W_T ?_;(with_reducible repeat'(first|simp (disch:=omega) only[push_cast,↓zz,seval,pR,pFi,pX,pO,pL,pRU,pFI,pST,lST,pRI,pY,aI,hre,hgr,hot,pw,pM,pF,he,htq,hae,hdn,hmul,hpi,aT]|apply Aa|refine sp_ ?_ ?_<;>intro hc<;>push_cast at hc|refine ee hE ?_|refine ee hW ?_|((first|refine cc hE ?_|refine cc hW ?_);(simp(disch:=omega)only[push_cast,↓zz,seval,pR,pFi,pX,pO,pL,pRU,pFI,pST,lST,pRI,pY,aI,hre,hgr,hot,pw,pM,pF,he,htq,hae,hdn,hmul,hpi,aT]);(fail_if_success change False))|omega|intro _))
   (refine GU [5] (hMk) (by decide) (by simp) (by (simp(disch:=omega)only[push_cast,↓zz,seval,pR,pFi,pX,pO,pL,pRU,pFI,pST,pRI,pY,pw,pM,pF])) (by (simp(disch:=omega)only[push_cast,↓zz,seval,pR,pFi,pX,pO,pL,pRU,pFI,pST,pRI,pY,pw,pM,pF])) (by (simp(disch:=omega)only[push_cast,↓zz,seval,pR,pFi,pX,pO,pL,pRU,pFI,pST,pRI,pY,pw,pM,pF])) (by (simp(disch:=omega)only[push_cast,↓zz,seval,Ai,As,AH,BD,Cy,BH,pR,pFi,pX,pO,pL,pRU,pFI,pST,pRI,pY,pw,pM,pF])) ?_)
   rintro z H' ⟨rfl,rfl⟩;refine⟨_,rfl,by simp,?_⟩;(with_reducible repeat'(first|simp (disch:=omega) only[push_cast,↓zz,seval,pR,pFi,pX,pO,pL,pRU,pFI,pST,pRI,pY,pA,pZ]|apply Aa|refine sp_ ?_ ?_<;>intro hc<;>push_cast at hc|omega|intro _))
   all_goals
    refine⟨k+1,?_⟩;(with_reducible repeat'(first|simp (disch:=omega) only[push_cast,↓zz,seval,pR,pFi,pX,pO,pL,pRU,pFI,pST,pRI,pY,pA,pZ]|apply Aa|refine sp_ ?_ ?_<;>intro hc<;>push_cast at hc|omega|intro _))
 obtain rfl:k=(ruI d.rules s).length:=by omega
 have pM:A6 (mayL y.length (mayR d x y (offM M) a s (ruI d.rules s).length))=true:=Fx;have hmul:(a:Int) * (n:Int)=((a * n:Nat):Int):=by norm_cast
 have hmulb:a * n<=1024 * 1024:=B6 (by omega) hn;generalize mayR d x y (offM M) a s (ruI d.rules s).length=mr at *;have sM:=sST (some mr);generalize hpe:a * n+s=p at *;generalize a * n=an at *;have hpi:(an:Int)+(s:Int)=(p:Int):=by omega
 refine W_T ?_;(with_reducible repeat'(first|simp (disch:=omega) only[push_cast,↓zz,seval,pR,pFi,pX,pO,pL,pRU,pFI,pST,lST,pY,pM,hdn,hmul,hpi]|apply Aa|refine sp_ ?_ ?_<;>intro hc<;>push_cast at hc|omega|intro _));refine⟨.tup [],_,(z2e (by omega)).trans (?_:Ent _ _ _ _ _ (Abs.hl (relH d (Ct d x (.lst 1 RU) (.lst 1 FI) (.lst 1 OD) (.lst 1 LV)) y n m (setP M a s (some mr))))),rfl,_,rfl,hnext⟩;rw[sM];exact NA (gar:=[⟨0,2,false,[]⟩]) rfl (Af _) (hcl _) trivial
set_option maxRecDepth 100000
theorem VP(d:Desc)(x y:List Int){n:Nat}(hk:M2 d x n)(hq:PC Tryz.prog 59 [Cu d,A4 x] (.int .i64 0))(hy:y.length<=1000000):
 PC Tryz.prog 37 [Cu d,A4 x,A4 y] (.tup [.bool (decide (y∈outW d x 0 d.start)),.int .i64 0]):=by
 have pR:=BF d.rules;have pFi:=B9 d.finals;have pX:A6 (x.map (AV.int .i32))=true:=AE .i32 _;have pY:A6 (y.map (AV.int .i32))=true:=AE .i32 _;have hBe:=T4 hk;have hdn:=hk.st;refine BA Li ?_;unfold I9;(with_reducible repeat'(first|simp (disch:=omega) only[push_cast,↓zz,seval,pR,pFi,pX,pY]|apply Aa|refine sp_ ?_ ?_<;>intro hc<;>push_cast at hc|refine ee hq ?_|(refine cc hq ?_;(simp(disch:=omega)only[push_cast,↓zz,seval,pR,pFi,pX,pY]);(fail_if_success change False))|omega|intro _))
 (refine GU [] (hBe) (by decide) (by simp) (by (simp(disch:=omega)only[push_cast,↓zz,seval])) (by (simp(disch:=omega)only[push_cast,↓zz,seval])) (by (simp(disch:=omega)only[push_cast,↓zz,seval])) (by (simp(disch:=omega)only[push_cast,↓zz,seval,Ai,As,AH,BD,Cy,BH])) ?_)
 rintro z H' ⟨rfl,ord,L,rfl,ht,hl⟩;refine⟨_,rfl,by simp,?_⟩;have hmx:(x.length+1) * n<=1025 * 1024:=B6 (by have:=hk.xl;omega) hk.n1;have pO:A6 (ord.map e1)=true:=CU (λ_=>rfl) _;have pL:A6 (lvB n ((x.length+1) * n) L)=true:=HE;have lL:(lvB n ((x.length+1) * n) L).length=(x.length+1) * n:=IL;have pRU:A6 (fD 1 e1 n (ruI d.rules))=true:=Er λ_=>rfl;have pFI:A6 (fD 1 e1 n (fiI d.finals))=true:=Er λ_=>rfl;have pRn:(Ct d x (ruV d.rules n) (fiV d.finals n) (.lst 1 (ord.map e1)) (.lst 1 (lvB n ((x.length+1) * n) L))).pure=true:=by simp[AV.pure,A6,pR,pFi,pX,pO,pL,pRU,pFI,ruV,fiV]
 have hbk:=Ty (σ:=Nat->Nat->Option (Nat->Bool)) d x (ruV d.rules n) (fiV d.finals n) pRU pFI hdn hk.n1 hk.xl ht (L:=L) 80 [.ptr 1 1 0 0,.ptr 2 1 0 0,.ptr 0 1 0 0,.ptr 4 1 0 0] 5
  (λs=>relH d (Ct d x (ruV d.rules n) (fiV d.finals n) (.lst 1 (ord.map e1)) (.lst 1 (lvB n ((x.length+1) * n) L))) y n ((x.length+1) * n) s) (λ_=>rfl) (λ_=>PM pRn) ⟨(show 1<5 by omega),(show 2<5 by omega),(show 0<5 by omega),(show 4<5 by omega),trivial⟩
  (λa j s=>LefO d x y L ord a j s) (λ_ _=>none) z93 (λa j s ha hj hI hlv=>z99 d x y hk ht hl hy a j s ha hj hI hlv)
  (λa j s ha hj hI hlv=>z94 hI (by rw[C5 ht];exact hj) hlv) (λa s ha hI=>zei hI hl ht)
 generalize hm:(x.length+1) * n=m at *;(with_reducible repeat'(first|simp (disch:=omega) only[push_cast,↓zz,seval,pR,pFi,pX,lL,pY]|apply Aa|refine sp_ ?_ ?_<;>intro hc<;>push_cast at hc|omega|intro _));refine KI (BB.mono hbk ?_) ?_
 rotate_left
 ·unfold relH
  rw[<-z92];refine⟨⟨rfl,rfl,id,Bc _ _⟩,⟨rfl,rfl,id,Bc _ _⟩,⟨rfl,rfl,id,Bc _ _⟩,⟨rfl,rfl,id,Bc _ _⟩,⟨rfl,rfl,id,Bc _ _⟩,trivial⟩
 rintro z H' ⟨rfl,M,rfl,hI⟩;obtain⟨f,g1,g2⟩:=zel hI hl ht hk.start;unfold relH;have hst:=hk.start;obtain⟨s0,hs0⟩:∃s0:Nat,d.start=s0:=⟨d.start.toNat,by omega⟩;have hsn:s0<n:=by omega
 have hsm:0 * n+s0<m:=by rw[<-hm];exact Et hsn (Aw _)
 have hts:d.start.toNat=s0:=by omega
 rw[hts] at g1
 have aS:(lefT y.length n m M).getD s0 .any=H0 y.length (some f):=by
  have:=z91 (ny:=y.length) (M:=M) (z:=.any) hsn hsm
  rwa [Dp,Ba,g1] at this
 simp only[H0] at aS;have lS:(lefT y.length n m M).length=m:=Z3;have pS:A6 (lefT y.length n m M)=true:=PL;have hsm2:s0<m:=by omega
 have pF:=Fx (n:=y.length) (f:=f);have lF:=Da (n:=y.length) (f:=f);have aF:=z8y (n:=y.length) (f:=f) (z:=.any) (Af _);rw[g2] at aF;generalize decide (y∈outW d x 0 d.start)=q at *;generalize mayL y.length f=F at *;generalize lefT y.length n m M=T at *;(with_reducible repeat'(first|simp (disch:=omega) only[push_cast,↓zz,seval,hs0,aS,lS,pS,pF,lF,aF,pY]|apply Aa|refine sp_ ?_ ?_<;>intro hc<;>push_cast at hc|omega|intro _))
 all_goals trace_state
noncomputable def relA (d:Desc) (x y:List Int):AV:=if askV d x≠0 then .tup [.bool false,.int .i64 (askV d x)] else .tup [.bool (decide (y∈outW d x 0 d.start)),.int .i64 0]
theorem VQ(d:Desc)(x y:List Int)(hf:IH d)(hl:x.length<=9223372036854775807)(h32:∀v∈x,-2147483648<=v/\v<=2147483647)(hy:y.length<=1000000):
 PC Tryz.prog 37 [Cu d,A4 x,A4 y] (relA d x y):=by
 have hq:=Px d x hf hl h32;have pR:=BF d.rules;have pFi:=B9 d.finals;have pX:A6 (x.map (AV.int .i32))=true:=AE .i32 _;have pY:A6 (y.map (AV.int .i32))=true:=AE .i32 _;unfold relA;by_cases h:askV d x=0
 ·rw[Ac (by simp[h])]
  rw[h] at hq;obtain⟨n,hk⟩:=IP h;exact VP d x y hk hq hy
 ·rw[Ae h]
  generalize askV d x=k at *;refine BA Li ?_;unfold I9;(with_reducible repeat'(first|simp (disch:=omega) only[push_cast,↓zz,seval,pR,pFi,pX,pY,h]|apply Aa|refine sp_ ?_ ?_<;>intro hc<;>push_cast at hc|refine ee hq ?_|(refine cc hq ?_;(simp(disch:=omega)only[push_cast,↓zz,seval,pR,pFi,pX,pY,h]);(fail_if_success change False))|omega|intro _))
  all_goals trace_state
theorem Qc(d:Desc)(x y:List Int)(hl:x.length<=9223372036854775807)(h32:∀v∈x,-2147483648<=v/\v<=2147483647):PC Tryz.prog 10 [Cu d,A4 x,A4 y] (.bool true):=by
 have hA:=KN;have hG:=KJ d x hl;have pR:=BF d.rules;have pF:=B9 d.finals;have pX:A6 (x.map (AV.int .i32))=true:=AE .i32 _;have pY:A6 (y.map (AV.int .i32))=true:=AE .i32 _;cases hgr:(!Gq d||(decide (12<x.length)&&decide (x.length<=1024))) with
 |true =>
  rw[hgr] at hG;refine BA EA ?_;unfold DX;(with_reducible repeat'(first|simp (disch:=omega) only[push_cast,↓zz,seval,pR,pF,pX,pY]|apply Aa|refine sp_ ?_ ?_<;>intro hc<;>push_cast at hc|refine ee hG ?_|refine ee hA ?_|((first|refine cc hG ?_|refine cc hA ?_);(simp(disch:=omega)only[push_cast,↓zz,seval,pR,pF,pX,pY]);(fail_if_success change False))|omega|intro _))
 |false =>
 rw[hgr] at hG;by_cases hyl:200<y.length
 ·refine BA EA ?_
  unfold DX;(with_reducible repeat'(first|simp (disch:=omega) only[push_cast,↓zz,seval,pR,pF,pX,pY]|apply Aa|refine sp_ ?_ ?_<;>intro hc<;>push_cast at hc|refine ee hG ?_|refine ee hA ?_|((first|refine cc hG ?_|refine cc hA ?_);(simp(disch:=omega)only[push_cast,↓zz,seval,pR,pF,pX,pY]);(fail_if_success change False))|omega|intro _))
 have hsm:Gq d=true:=by
  cases h:Gq d with
  |true=>rfl
  |false=>rw[h] at hgr;simp at hgr
 have hsh:=KG hsm;have hC:=T6 d x hsh hl h32;have hRe:=VQ d x y hsh.fin hl h32 (by omega);unfold relA at hRe;by_cases hq:askV d x=0
 ·rw[Ac (by simp[hq])] at hRe
  rw[hq] at hC;obtain⟨n,hk⟩:=IP hq;have hO:=M3 d x hk;cases hb:bfsP d x 1501 [⟨d.start,0,[]⟩] [] 0 with
  |none =>
   rw[hb] at hO;simp only[bfsA] at hO;generalize decide (y∈outW d x 0 d.start)=q at *;refine BA EA ?_;unfold DX;(with_reducible repeat'(first|simp (disch:=omega) only[push_cast,↓zz,seval,pR,pF,pX,pY]|apply Aa|refine sp_ ?_ ?_<;>intro hc<;>push_cast at hc|refine ee hG ?_|refine ee hC ?_|refine ee hRe ?_|refine ee hO ?_|refine ee hA ?_|((first|refine cc hG ?_|refine cc hC ?_|refine cc hRe ?_|refine cc hO ?_|refine cc hA ?_);(simp(disch:=omega)only[push_cast,↓zz,seval,pR,pF,pX,pY]);(fail_if_success change False))|omega|intro _))
  |some O =>
   rw[hb] at hO;simp only[bfsA] at hO;obtain⟨e,hle⟩:=X8 hsm hb;rw[e] at hO hle;have hW:∀w∈outW d x 0 d.start,w.length<=1000000000:=λw hw=>by have:=PH hk hw;omega
   have hH:=zoq (outW d x 0 d.start) y (by omega) hW;clear hb e hW;generalize decide (y∈outW d x 0 d.start)=q at *;generalize outW d x 0 d.start=W at *;have pW:=BL W;refine BA EA ?_;unfold DX;(with_reducible repeat'(first|simp (disch:=omega) only[push_cast,↓zz,seval,pR,pF,pX,pY,pW,beq_self_eq_true]|apply Aa|refine sp_ ?_ ?_<;>intro hc<;>push_cast at hc|refine ee hG ?_|refine ee hC ?_|refine ee hRe ?_|refine ee hO ?_|refine ee hH ?_|refine ee hA ?_|((first|refine cc hG ?_|refine cc hC ?_|refine cc hRe ?_|refine cc hO ?_|refine cc hH ?_|refine cc hA ?_);(simp(disch:=omega)only[push_cast,↓zz,seval,pR,pF,pX,pY,pW,beq_self_eq_true]);(fail_if_success change False))|omega|intro _))
   all_goals first|(simp at hc;done)|trace_state
 ·rw[Ae hq] at hRe
  generalize askV d x=k at *;refine BA EA ?_;unfold DX;(with_reducible repeat'(first|simp (disch:=omega) only[push_cast,↓zz,seval,pR,pF,pX,pY,hq]|apply Aa|refine sp_ ?_ ?_<;>intro hc<;>push_cast at hc|refine ee hG ?_|refine ee hC ?_|refine ee hRe ?_|refine ee hA ?_|((first|refine cc hG ?_|refine cc hC ?_|refine cc hRe ?_|refine cc hA ?_);(simp(disch:=omega)only[push_cast,↓zz,seval,pR,pF,pX,pY,hq]);(fail_if_success change False))|omega|intro _))
  all_goals trace_state
end Go.Proofs.YtbcjoeadpjfcfaaGreat
