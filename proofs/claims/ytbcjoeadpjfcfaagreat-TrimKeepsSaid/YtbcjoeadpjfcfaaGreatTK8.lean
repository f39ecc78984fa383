/-
  Parts of the proof that the law holds whatever the input; without conditions.
-/
import Derived.Test.YtbcjoeadpjfcfaaGreatTK7
set_option linter.unusedSimpArgs false
set_option linter.unusedVariables false
set_option maxRecDepth 100000
namespace Go.Proofs.YtbcjoeadpjfcfaaGreat
open Abs
theorem z8v{d:Desc}{x:List Int}:askV d x=0↔CS d=0/\x.length<=1024/\x.all (Iy d.in_)=true:=by
 unfold askV;by_cases h:CS d=0
 ·rw[Ah (by simp[h])]
  by_cases h2:1024<x.length
  ·rw[Ai h2];constructor
   ·intro h;cases h
   ·intro h;omega
  ·rw[Ah h2]
   cases h3:x.all (Iy d.in_) with
   |true=>simp[h];omega
   |false=>simp
 ·rw[Ai h];constructor
  ·intro h;cases h
  ·intro h';exact absurd h'.1 h
theorem z8w{s v:Int}(h:Iy s v=true):0<=v/\v<1114112:=by
 simp only[Iy,Ak] at h;omega
theorem zeq{d:Desc}(h:CS d=0){n:Nat}(hn:d.states=n):Goes d n:=by
 obtain⟨h1,h2,h3⟩:=Gd h;have hw:=Iz h;refine⟨λr hr=>?_⟩;have h4:=h2 r hr;have h5:=hw.r r hr;rw[hn] at h5;simp only[Io,eatB,Ad,CI,Ck] at h4;obtain⟨_,_,_,⟨h6,h7⟩,_⟩:=h4;refine⟨h5.1,h5.2,by omega,λhe=>?_⟩;simp only[DT,Ck] at he;omega
theorem Wp{d:Desc}{x:List Int}(h:askV d x=0):∃n,Up d x n:=by
 obtain⟨h1,h2,h3⟩:=z8v.1 h;obtain⟨n,hn,hn1,hn2,hc,hl⟩:=wf_n h1;have hw:=Iz h1;have hst:=hw.start;have hff:=hw.f;rw[hn] at hst hff;obtain⟨_,k2,k3⟩:=Gd h1;refine⟨n,hn,hn2,hst,hw.rl,hw.fl,h2,λv hv=>?_,zeq h1 hn,hff,λr hr=>?_,λf hf=>?_,hc⟩
 ·have:=z8w (B0.1 h3 v hv);omega
 ·have h4:=k2 r hr
  simp only[Io,eatB,Ad,CI,Ck] at h4;obtain⟨_,_,h5,⟨h6,h7⟩,h8⟩:=h4;obtain⟨g1,g2⟩:=G9 h5;obtain⟨w1,w2⟩:=GC h8;exact⟨⟨by omega,λg hg=>by have:=g2 g hg;omega⟩,⟨w1,λt ht=>by have:=w2 t ht;omega⟩,by omega,by omega⟩
 ·have h4:=k3 f hf
  simp only[GA,Ad] at h4;obtain⟨_,h5,h8⟩:=h4;obtain⟨g1,g2⟩:=G9 h5;obtain⟨w1,w2⟩:=GC h8;exact⟨⟨by omega,λg hg=>by have:=g2 g hg;omega⟩,w1,λt ht=>by have:=w2 t ht;omega⟩
noncomputable def runA (d:Desc) (x:List Int) (mo:Int):AV:=if askV d x≠0 then .tup [.nilS,.int .i64 (askV d x)] else if mo<1 then .tup [.nilS,.int .i64 1] else outA d x mo.toNat
theorem LM(d:Desc)(x:List Int)(hf:GI d)(hl:x.length<=9223372036854775807)(h32:∀v∈x,-2147483648<=v/\v<=2147483647)(mo:Int)(hmo:mo<=9000000000000000000)(hB:askV d x=0->Nat.min mo.toNat (outW d x 0 d.start).length<=200000):
 PC Tryz.prog 26 [Dh d,AX x,.int .i64 mo] (runA d x mo):=by
 have hq:=z1n d x hf hl h32;have pR:=BS d.rules;have pFi:=BI d.finals;have pX:AY (x.map (AV.int .i32))=true:=BK .i32 _;unfold runA;by_cases h:askV d x=0
 ·rw[Ah (by simp[h])]
  rw[h] at hq;by_cases h1:mo<1
  ·rw[Ai h1]
   refine BH Ii ?_;unfold GN;(with_reducible repeat'(first|(simp(disch:=omega)only[push_cast,↓zz,seval,pR,pFi,pX])|refine Aa ?_ ?_|(first|refine Ac ?_ ?_|refine Ab ?_ ?_)<;>intro hc<;>(try simp only[push_cast] at hc)|refine eK hq ?_|refine eQ hq ?_|refine eG hq ?_|((first|refine cK hq ?_|refine cQ hq ?_|refine cG hq ?_);(simp(disch:=omega)only[push_cast,↓zz,seval,pR,pFi,pX]);(fail_if_success change False))|omega|intro _))
  ·rw[Ah h1]
   obtain⟨n,hk⟩:=Wp h;obtain⟨m,rfl⟩:∃m:Nat,mo=m:=⟨mo.toNat,by omega⟩;rw[Int.toNat_natCast] at hB ⊢;exact Ur d x hk hq m (by omega) (by omega) (hB h)
 ·rw[Ai h]
  generalize askV d x=k at *;refine BH Ii ?_;unfold GN;(with_reducible repeat'(first|(simp(disch:=omega)only[push_cast,↓zz,seval,pR,pFi,pX,h])|refine Aa ?_ ?_|(first|refine Ac ?_ ?_|refine Ab ?_ ?_)<;>intro hc<;>(try simp only[push_cast] at hc)|refine eK hq ?_|refine eQ hq ?_|refine eG hq ?_|((first|refine cK hq ?_|refine cQ hq ?_|refine cG hq ?_);(simp(disch:=omega)only[push_cast,↓zz,seval,pR,pFi,pX,h]);(fail_if_success change False))|omega|intro _))
  all_goals trace_state
theorem z3e{l:List Rule}{n:Nat}(hl:∀r∈l,(0<=r.from_/\r.from_<n)/\0<=r.to_/\r.to_<n)(hc:¬cycP l n){ord:List Nat}{s:Nat}(hs:s<n)(hso:s∉ord):∃t,t<n/\t∉ord/\∀r∈l,DT r=true->r.from_=(t:Nat)->r.to_.toNat∈ord:=by
 refine AL λhno=>?_
 have hx:∀t,t<n->t∉ord->∃i,i<l.length/\DT (nth l i)=true/\(nth l i).from_=(t:Nat)/\(nth l i).to_.toNat∉ord:=λt h1 h2=>by
  refine AL λh3=>hno ⟨t,h1,h2,λr hr he hf=>?_⟩;refine AL λh4=>h3 ?_;obtain⟨i,hi,rfl⟩:=B8 hr;exact⟨i,hi,by rw[GF hi];exact he,by rw[GF hi];exact hf,by rw[GF hi];exact h4⟩
 have key:∀k:Nat,∃(q:List Nat) (t:Nat),okP l (s:Nat) q/\endP l (s:Nat) q=(t:Nat)/\t<n/\t∉ord/\k<=q.length:=λk=>by
  induction k with
  |zero=>exact⟨[],s,trivial,rfl,hs,hso,Ae _⟩
  |succ k ih =>
   obtain⟨q,t,q1,q2,q3,q4,q5⟩:=ih;obtain⟨i,i1,i2,i3,i4⟩:=hx t q3 q4;have hr:=hl _ (BA i1);refine⟨q++[i],(nth l i).to_.toNat,?_,?_,by omega,i4,by simp;omega⟩
   ·rw[Qq,q2];exact⟨q1,Qp.2 ⟨i1,i2,i3⟩,trivial⟩
   ·rw[Me,q2]
    show (nth l i).to_=_;omega
 obtain⟨q,t,q1,_,_,_,q5⟩:=key (n+2);have:=z1o hl hc (by omega) q1;omega
theorem zer{l:List Rule}{n:Nat}(hl:∀r∈l,(0<=r.from_/\r.from_<n)/\0<=r.to_/\r.to_<n)(hc:¬cycP l n):∃ord,Topo l n ord:=by
 have hole:∀ord:List Nat,ord.Nodup->(∀a∈ord,a<n)->∀s,s<n->s∉ord->ord.length<n:=λord h1 h2 s hs hso=>by
  have:=It (l:=s::ord) (m:=List.range n) (Cj.2 ⟨hso,h1⟩) λa ha=>by
   rcases Ag.1 ha with rfl|ha
   ·exact Bm.2 hs
   ·exact Bm.2 (h2 a ha)
  simp at this;omega
 have key:∀k,k<=n->∃ord:List Nat,ord.length=k/\Ue l ord/\ord.Nodup/\∀a∈ord,a<n:=λk=>by
  induction k with
  |zero=>exact λ_=>⟨[],rfl,λi hi=>absurd hi (Ba _),Dn,λa h=>by cases h⟩
  |succ k ih =>
   intro hk;obtain⟨ord,o1,o2,o3,o4⟩:=ih (by omega)
   obtain⟨s,hs,hso⟩:∃s,s<n/\s∉ord:=by
    refine AL λhno=>?_
    have:=It (l:=List.range n) (m:=ord) Eo λa ha=>by
     refine AL λh=>hno ⟨a,Bm.1 ha,h⟩
    simp at this;omega
   obtain⟨t,t1,t2,t3⟩:=z3e hl hc hs hso;refine⟨ord++[t],by simp[o1],Sp o2 λr hr he hf=>⟨r.to_.toNat,?_,t3 r hr he hf⟩,?_,λa ha=>?_⟩
   ·have:=hl r hr;omega
   ·refine DO.2 ⟨o3,Cj.2 ⟨by simp,Dn⟩,λa ha b hb=>?_⟩
    rw[Av.1 hb];rintro rfl;exact t2 ha
   ·rcases Au.1 ha with h|h
    ·exact o4 a h
    ·rw[Av.1 h];exact t1
 obtain⟨ord,o1,o2,o3,o4⟩:=key n (Ae _);refine⟨ord,o3,λs=>⟨o4 s,λhs=>?_⟩,o2⟩;refine AL λh=>?_;have:=hole ord o3 o4 s hs h;omega
theorem Pd{d:Desc}{x:List Int}{n:Nat}(hk:Up d x n):∃ord,Topo d.rules n ord:=zer (λr hr=>⟨(hk.goes.r r hr).1,(hk.goes.r r hr).2.1⟩) hk.cyc
theorem z3f{d:Desc}{x:List Int}{n:Nat}(hk:Up d x n){a:Nat}{s:Int}(ha:a<=x.length)(hs:0<=s/\s<n):I2 d x a s (outW d x a s):=by
 obtain⟨ord,ht⟩:=Pd hk;have:=LH hk.goes ht ha (t:=s.toNat) (by omega)
 rwa [Bq hs.1] at this
theorem z3g{d:Desc}{x:List Int}{n:Nat}(hk:Up d x n){w:List Int}(hw:w∈outW d x 0 d.start):w.length<=100000000:=by
 obtain⟨ord,ht⟩:=Pd hk;have h1:=((z3f hk (AI _) hk.start).2 w).1 hw;have h2:=hk.start;have e:((d.start.toNat:Nat):Int)=d.start:=Bq h2.1;rw[<-e] at h1;exact Qs hk.goes ht ⟨λr hr=>(hk.rb r hr).2.1.1,λf hf=>(hk.fb f hf).2.1⟩ hk.n1 hk.xl (AI _) (by omega) h1
theorem Yp{d e:Desc}{x:List Int}{a:Nat}{s t:Int}(h:∀w,RelW d x a s w↔RelW e x a t w):outW d x a s=outW e x a t:=by
 have:I2 d x a s=I2 e x a t:=funext λL=>propext (and_congr_right λ_=>forall_congr' λw=>by rw[h w]);unfold outW;rw[this]
set_option maxRecDepth 100000
section
variable {d:Desc}{x:List Int}
theorem Q3{a:Nat}{s:Int}{w:List Int}(h:RelW d x a s w):Reach (bwdE d) (endE d) s:=by
 induction h with
 |fin f h1 h2 h3 h4=>exact .base (Q2.2 ⟨f,h1,h2⟩)
 |step r w h1 h2 h3 _ ih=>exact .step ih (ND.2 ⟨r,h1,h2,rfl⟩)
theorem z8x(h:CS d=0)(hg:Reach (bwdE d) (endE d) d.start){a:Nat}{s:Int}{w:List Int}(hr:RelW d x a s w):Reach (fwdE d) [d.start] s->RelW (Hm d) x a (cntB (Dr d) s.toNat:Nat) w:=by
 have hw:=Iz h
 induction hr with
 |@fin a s f h1 h2 h3 h4 =>
  intro hc;have hs:0<=s:=by have:=hw.f f h1;omega
  have hu:Dr d s.toNat=true:=(Hu hs).2 ⟨hc,.base (Q2.2 ⟨f,h1,h2⟩)⟩;refine .fin ⟨numB (Dr d) f.from_.toNat,f.guards,f.out⟩ (K9.2 ⟨f,h1,by rw[h2];exact hu,rfl⟩) ?_ h3 h4;rw[h2];exact Eb hu
 |@step a s r w h1 h2 h3 h4 ih =>
  intro hc;have hs:=hw.r r h1;have hct:Reach (fwdE d) [d.start] r.to_:=.step hc (IV.2 ⟨r,h1,h2,rfl⟩);have hut:Dr d r.to_.toNat=true:=(Hu hs.2.1).2 ⟨hct,Q3 h4⟩;have hu:Dr d s.toNat=true:=(Hu (by omega)).2 ⟨hc,.step (Q3 h4) (ND.2 ⟨r,h1,h2,rfl⟩)⟩;refine .step ⟨numB (Dr d) r.from_.toNat,numB (Dr d) r.to_.toNat,r.guards,r.eat,r.out⟩ w (IW.2 ⟨r,h1,⟨by rw[h2];exact hu,hut⟩,rfl⟩) ?_ h3 ?_
  ·rw[h2];exact Eb hu
  ·show RelW (Hm d) x (a+r.eat.toNat) (numB (Dr d) r.to_.toNat) w
   rw[Eb hut];exact ih hct
theorem z3h{a:Nat}{j:Int}{w:List Int}(h:CS d=0)(hr:RelW (Hm d) x a j w):∀s:Int,0<=s->Dr d s.toNat=true->j=(cntB (Dr d) s.toNat:Nat)->RelW d x a s w:=by
 have hw:=Iz h
 induction hr with
 |@fin a j f h1 h2 h3 h4 =>
  intro s hs hu hj;obtain⟨f0,k1,k2,rfl⟩:=K9.1 h1;have hf:=hw.f f0 k1;rw[hj] at h2;simp only at h2 h3 h4 ⊢;rw[Eb k2] at h2;have:=Q0 k2 hu (by omega);exact .fin f0 k1 (by omega) h3 h4
 |@step a j r w h1 h2 h3 h4 ih =>
  intro s hs hu hj;obtain⟨r0,k1,⟨k2,k3⟩,rfl⟩:=IW.1 h1;have hf:=hw.r r0 k1;rw[hj] at h2;simp only at h2 h3 h4 ih ⊢;rw[Eb k2] at h2;have:=Q0 k2 hu (by omega);refine .step r0 w k1 (by omega) h3 (ih r0.to_ (by omega) k3 ?_);exact Eb k3
theorem z3i{s o:Int}{a:Nat}{t:Int}{w:List Int}:¬RelW (K1 s o) x a t w:=by
 intro h;cases h with
 |fin f h1=>cases h1
 |step r w h1=>cases h1
theorem z8y(h:CS d=0):outW (GE d) x 0 (GE d).start=outW d x 0 d.start:=by
 have hst:=(Iz h).start;refine Yp λw=>?_;have hst2:((d.start.toNat:Nat):Int)=d.start:=Bq hst.1;cases hb:Fe (bwdE d) (endE d) d.start.toNat with
 |false =>
  have hn:¬Reach (bwdE d) (endE d) d.start:=λhr=>by
   have:=ER (i:=d.start.toNat).2 (by rw[hst2];exact hr);rw[hb] at this;cases this
  have e:GE d=K1 d.in_ d.out:=by unfold GE;rw[Ai hb]
  rw[e];exact⟨λhr=>absurd hr z3i,λhr=>absurd (Q3 hr) hn⟩
 |true =>
  have hg:Reach (bwdE d) (endE d) d.start:=by have:=ER.1 hb;rwa [hst2] at this
  have e:GE d=Hm d:=by unfold GE Hm;rw[Ah (by rw[hb];simp)]
  have hu:=Ld h hg;have es:(Hm d).start=(cntB (Dr d) d.start.toNat:Nat):=Eb hu;rw[e,es];exact⟨λhr=>z3h h hr d.start hst.1 hu rfl,λhr=>z8x h hg hr (.base (by simp))⟩
theorem zes:(GE d).in_=d.in_:=by
 unfold GE;split<;>rfl
theorem z8z(h:CS d=0)(mo:Int):runA (GE d) x mo=runA d x mo:=by
 have hc:=(LL h).1.check
 have ha:askV (GE d) x=askV d x:=by
  unfold askV;rw[hc,h,zes]
 unfold runA outA;rw[ha,z8y h]
end
set_option maxHeartbeats 1000000 in
theorem Q4(d:Desc)(x:List Int)(hl:x.length<=9223372036854775807)(h32:∀v∈x,-2147483648<=v/\v<=2147483647):PC Tryz.prog 13 [Dh d,AX x] (.bool true):=by
 have hA:=Uw;have hS:=TY d;have pR:=BS d.rules;have pF:=BI d.finals;have pX:AY (x.map (AV.int .i32))=true:=BK .i32 _;cases hsm:LF d with
 |false =>
  rw[hsm] at hS;refine BH Eu ?_;unfold DD;(with_reducible repeat'(first|(simp(disch:=omega)only[push_cast,↓zz,seval,pR,pF,pX])|refine Aa ?_ ?_|(first|refine Ac ?_ ?_|refine Ab ?_ ?_)<;>intro hc<;>(try simp only[push_cast] at hc)|refine eK hS ?_|refine eQ hS ?_|refine eG hS ?_|refine eK hA ?_|refine eQ hA ?_|refine eG hA ?_|((first|refine cK hS ?_|refine cQ hS ?_|refine cG hS ?_|refine cK hA ?_|refine cQ hA ?_|refine cG hA ?_);(simp(disch:=omega)only[push_cast,↓zz,seval,pR,pF,pX]);(fail_if_success change False))|omega|intro _))
 |true =>
 rw[hsm] at hS;by_cases hx:12<x.length
 ·refine BH Eu ?_
  unfold DD;(with_reducible repeat'(first|(simp(disch:=omega)only[push_cast,↓zz,seval,pR,pF,pX])|refine Aa ?_ ?_|(first|refine Ac ?_ ?_|refine Ab ?_ ?_)<;>intro hc<;>(try simp only[push_cast] at hc)|refine eK hS ?_|refine eQ hS ?_|refine eG hS ?_|refine eK hA ?_|refine eQ hA ?_|refine eG hA ?_|((first|refine cK hS ?_|refine cQ hS ?_|refine cG hS ?_|refine cK hA ?_|refine cQ hA ?_|refine cG hA ?_);(simp(disch:=omega)only[push_cast,↓zz,seval,pR,pF,pX]);(fail_if_success change False))|omega|intro _))
 have hsh:=TZ hsm;by_cases h:CS d=0
 ·have hT:=SD d hsh.fin h
  obtain⟨hTr,hst⟩:=LL h;have hf:=z3d hTr.check;have hC:=GX (GE d) hf;rw[hTr.check] at hC;have hR:=LM d x hsh.fin hl h32 200 (by omega) λ_=>By (Nat.min_le_left _ _) (by decide);have hR2:=LM (GE d) x hf hl h32 200 (by omega) λ_=>By (Nat.min_le_left _ _) (by decide);rw[z8z h] at hR2;have pcR:=BS (GE d).rules;have pcF:=BI (GE d).finals;clear hTr hf hst;generalize GE d=c at *;by_cases hq:askV d x=0
  ·obtain⟨n,hk⟩:=Wp hq
   have hW:∀w∈outW d x 0 d.start,w.length<=1000000000000:=λw hw=>by have:=z3g hk hw;omega
   have hM:=λhl=>Hl (outW d x 0 d.start) (outW d x 0 d.start) hl hW;unfold runA outA at hR hR2;rw[Ah (by simp[hq]),Ah (by omega)] at hR hR2;generalize outW d x 0 d.start=W at *;have pW:=CE W;by_cases hle:W.length<=(200:Int).toNat
   ·rw[Ai hle] at hR hR2
    have hM:=hM (by omega);rw[BC rfl] at hM;refine BH Eu ?_;unfold DD;(with_reducible repeat'(first|(simp(disch:=omega)only[push_cast,↓zz,seval,pR,pF,pcR,pcF,pX,pW])|refine Aa ?_ ?_|(first|refine Ac ?_ ?_|refine Ab ?_ ?_)<;>intro hc<;>(try simp only[push_cast] at hc)|refine eK hM ?_|refine eQ hM ?_|refine eG hM ?_|refine eK hA ?_|refine eQ hA ?_|refine eG hA ?_|refine eK hS ?_|refine eQ hS ?_|refine eK hT ?_|refine eQ hT ?_|refine eK hR ?_|refine eQ hR ?_|refine eK hR2 ?_|refine eQ hR2 ?_|refine eK hC ?_|refine eQ hC ?_|((first|refine cK hM ?_|refine cQ hM ?_|refine cG hM ?_|refine cK hA ?_|refine cQ hA ?_|refine cG hA ?_);(simp(disch:=omega)only[push_cast,↓zz,seval,pR,pF,pcR,pcF,pX,pW]);(fail_if_success change False))|omega|intro _))
   ·rw[Ah hle] at hR hR2
    have hM:=Hl [] [] (by simp) (by simp);rw[BC rfl] at hM;refine BH Eu ?_;unfold DD;(with_reducible repeat'(first|(simp(disch:=omega)only[push_cast,↓zz,seval,pR,pF,pcR,pcF,pX])|refine Aa ?_ ?_|(first|refine Ac ?_ ?_|refine Ab ?_ ?_)<;>intro hc<;>(try simp only[push_cast] at hc)|refine eK hM ?_|refine eQ hM ?_|refine eG hM ?_|refine eK hA ?_|refine eQ hA ?_|refine eG hA ?_|refine eK hS ?_|refine eQ hS ?_|refine eK hT ?_|refine eQ hT ?_|refine eK hR ?_|refine eQ hR ?_|refine eK hR2 ?_|refine eQ hR2 ?_|refine eK hC ?_|refine eQ hC ?_|((first|refine cK hM ?_|refine cQ hM ?_|refine cG hM ?_|refine cK hA ?_|refine cQ hA ?_|refine cG hA ?_);(simp(disch:=omega)only[push_cast,↓zz,seval,pR,pF,pcR,pcF,pX]);(fail_if_success change False))|omega|intro _))
  ·unfold runA at hR hR2
   rw[Ai hq] at hR hR2;generalize askV d x=k at *;have hM:=Hl [] [] (by simp) (by simp);rw[BC rfl] at hM;refine BH Eu ?_;unfold DD;(with_reducible repeat'(first|(simp(disch:=omega)only[push_cast,↓zz,seval,pR,pF,pcR,pcF,pX])|refine Aa ?_ ?_|(first|refine Ac ?_ ?_|refine Ab ?_ ?_)<;>intro hc<;>(try simp only[push_cast] at hc)|refine eK hM ?_|refine eQ hM ?_|refine eG hM ?_|refine eK hA ?_|refine eQ hA ?_|refine eG hA ?_|refine eK hS ?_|refine eQ hS ?_|refine eK hT ?_|refine eQ hT ?_|refine eK hR ?_|refine eQ hR ?_|refine eK hR2 ?_|refine eQ hR2 ?_|refine eK hC ?_|refine eQ hC ?_|((first|refine cK hM ?_|refine cQ hM ?_|refine cG hM ?_|refine cK hA ?_|refine cQ hA ?_|refine cG hA ?_);(simp(disch:=omega)only[push_cast,↓zz,seval,pR,pF,pcR,pcF,pX]);(fail_if_success change False))|omega|intro _))
 ·have hT:=SJ d hsh.fin h
  refine BH Eu ?_;unfold DD;(with_reducible repeat'(first|(simp(disch:=omega)only[push_cast,↓zz,seval,pR,pF,pX])|refine Aa ?_ ?_|(first|refine Ac ?_ ?_|refine Ab ?_ ?_)<;>intro hc<;>(try simp only[push_cast] at hc)|refine eK hS ?_|refine eQ hS ?_|refine eG hS ?_|refine eK hT ?_|refine eQ hT ?_|refine eG hT ?_|refine eK hA ?_|refine eQ hA ?_|refine eG hA ?_|((first|refine cK hS ?_|refine cQ hS ?_|refine cG hS ?_|refine cK hT ?_|refine cQ hT ?_|refine cG hT ?_|refine cK hA ?_|refine cQ hA ?_|refine cG hA ?_);(simp(disch:=omega)only[push_cast,↓zz,seval,pR,pF,pX]);(fail_if_success change False))|omega|intro _))
  all_goals trace_state
end Go.Proofs.YtbcjoeadpjfcfaaGreat
