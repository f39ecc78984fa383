/-
  Parts of the proof that the law holds whatever the input; without conditions.
-/
import Derived.Deep.Slices
import Derived.OpenShut
import Derived.Carry
import Derived.WideShapes
import Derived.ProofKit
import Derived.ChangeOld
import Derived.Test.YtflibbceibjddaaGreatProg
import Derived.KernelRfl
import Derived.Test.YtflibbceibjddaaGreatCA2
set_option linter.unusedSimpArgs false
set_option linter.unusedVariables false
set_option linter.unusedSectionVars false
namespace Go.Proofs.YtflibbceibjddaaGreat.Abs
class HK where
 f:AV->A4->Prop
class HQ where
 f:AV->Prop
class HP where
 p:Prop
class HY where
 y:AV
def Rs(P:Program)(f:Nat)(xs:List AV)(H:A4)[K:HK]:Prop:=B9 P f xs H K.f
def zen(P:Program)(f:Nat)(xs:List AV)(H:A4)[K:HQ]:Prop:=∃y,B9 P f xs H (λz H'=>z=y/\H'=H)/\K.f y
def Lr[L:HP]:Prop:=L.p
def opK(P:Program):AK->A4->List AV->[HK]->Prop
 |.call,H,.fn f caps::xs,K=>Rs P f (xs++caps) H
 |k,H,xs,K=>AI P k H xs K.f
def opQ(P:Program):AK->A4->List AV->[HQ]->Prop
 |.call,H,.fn f caps::xs,K=>zen P f (xs++caps) H
 |.bslice w len z idx,H,xs,K=>Ji w len idx xs/\0<w/\AJ (Gk idx xs (List.replicate len z))=true/\K.f (.full w (Gk idx xs (List.replicate len z)))
 |k,H,xs,K=>k.still=true/\AI P k H xs λx _=>K.f x
def GC(x:AV)(w:Bool)[p:HP][q:HP][r:HP]:Prop:=I1 x w p.p q.p r.p
def wk(P:Program):List AOp->Env->A4->(Env->A4->Prop)->Prop
 |[],env,H,K=>K env H
 |⟨dst,args,none,k⟩::l,env,H,K=>@opK P k H (args.map (·.eval env)) ⟨λx H'=>wk P l (env.put dst x) H' K⟩
 |⟨dst,args,some (d,want),k⟩::l,env,H,K=>@GC (env d) want
  ⟨@opK P k H (args.map (·.eval (env.put (some d) (.bool want)))) ⟨λx H'=>wk P l ((env.put (some d) (.bool want)).put dst x) H' K⟩⟩
  ⟨wk P l ((env.put (some d) (.bool (!want))).put dst (.tup [])) H K⟩ ⟨wk P l (env.put dst (.tup [])) H K⟩
def qk(P:Program)(H:A4):List AOp->Env->(Env->Prop)->Prop
 |[],env,K=>K env
 |⟨dst,args,none,k⟩::l,env,K=>@opQ P k H (args.map (·.eval env)) ⟨λx=>qk P H l (env.put dst x) K⟩
 |⟨dst,args,some (d,want),k⟩::l,env,K=>@GC (env d) want
  ⟨@opQ P k H (args.map (·.eval (env.put (some d) (.bool want)))) ⟨λx=>qk P H l ((env.put (some d) (.bool want)).put dst x) K⟩⟩
  ⟨qk P H l ((env.put (some d) (.bool (!want))).put dst (.tup [])) K⟩ ⟨qk P H l (env.put dst (.tup [])) K⟩
class HG where
 f:AV->List Grp->Prop
def zeo(P:Program)(f:Nat)(xs:List AV)(l:List Grp)[K:HG]:Prop:=∃y,(∀H,B9 P f xs H λz H'=>z=y/\H'=H)/\K.f y l
def opG(P:Program):AK->List Grp->List AV->[HG]->Prop
 |.call,l,.fn f caps::xs,K=>zeo P f (xs++caps) l
 |.bslice w len z idx,l,xs,K=>Ji w len idx xs/\0<w/\AJ (Gk idx xs (List.replicate len z))=true/\K.f (.full w (Gk idx xs (List.replicate len z))) l
 |k,l,xs,K=>(k.still=true/\BW (·<l.length) xs/\AI P k (hl l) xs λx _=>K.f x l)\/(k.still=false/\k.eff.isSome=true/\k.appOk=true/\Tp k xs/\AI P k (hl l) xs λx H'=>∀l',H'=hl l'->K.f x l')
def gk(P:Program):List AOp->Env->List Grp->(Env->List Grp->Prop)->Prop
 |[],env,l,K=>K env l
 |⟨dst,args,none,k⟩::r,env,l,K=>@opG P k l (args.map (·.eval env)) ⟨λx l'=>gk P r (env.put dst x) l' K⟩
 |⟨dst,args,some (d,want),k⟩::r,env,l,K=>@GC (env d) want
  ⟨@opG P k l (args.map (·.eval (env.put (some d) (.bool want)))) ⟨λx l'=>gk P r ((env.put (some d) (.bool want)).put dst x) l' K⟩⟩
  ⟨gk P r ((env.put (some d) (.bool (!want))).put dst (.tup [])) l K⟩ ⟨gk P r (env.put dst (.tup [])) l K⟩
def XP(x:AV)[p:HP][q:HP]:Prop:=XO x p.p q.p
def W(P:Program)(n b:Nat):AC->Env->A4->(Ex->Env->A4->Prop)->Prop
 |.skip,env,H,Q=>Q .normal env H
 |.reg ops,env,H,Q=>wk P ops env H λenv' H'=>Q .normal env' H'
 |.dreg ops,env,H,Q=>qk P H ops env λenv'=>Q .normal env' H
 |.dtl pre post,env,H,Q=>qk P H pre env λenv'=>wk P post env' H λenv' H'=>Q .normal env' H'
 |.greg ops,env,H,Q=>∃l,H=hl l/\gk P ops env l λenv' l'=>Q .normal env' (hl l')
 |.grx fl ops,env,H,Q=>@Lr ⟨T P n b (.grx fl ops) env H Q⟩
 |.gry fl ops,env,H,Q=>@Lr ⟨T P n b (.gry fl ops) env H Q⟩
 |.seq x y,env,H,Q=>W P n b x env H (Ex.then (λenv' H'=>W P n b y env' H' Q) Q)
 |.cond c x y,env,H,Q=>@XP (c.eval env) ⟨W P n b x env H Q⟩ ⟨W P n b y env H Q⟩
 |.block id c,env,H,Q=>W P n b c env H (Ex.inBlock id Q)
 |.loop c,env,H,Q=>@Lr ⟨T P n b (.loop c) env H Q⟩
 |.rng f ps a c,env,H,Q=>@Lr ⟨T P n b (.rng f ps a c) env H Q⟩
 |.exit id,env,H,Q=>Q (.exit id) env H
 |.ret,env,H,Q=>Q .ret env H
section
variable {P:Program}{n b:Nat}{env:Env}{H:A4}{Q:Ex->Env->A4->Prop}{K:Env->A4->Prop}
theorem ZK(P:Program)(k:AK)(H:A4)(xs:List AV)(K:AV->A4->Prop):@opK P k H xs ⟨K⟩=AI P k H xs K:=by
 unfold opK;split<;>rfl
theorem zjx(P:Program)(k:AK)(H:A4)(xs:List AV)(K:AV->Prop):@opQ P k H xs ⟨K⟩=Vd P k H xs K:=by
 unfold opQ Vd;split
 ·rfl
 ·rfl
 ·rename_i h1 h2
  split
  ·rename_i f caps ys;exact absurd rfl (h2 f caps ys rfl)
  ·rename_i w len z idx;exact absurd rfl (h1 w len z idx)
  ·rfl
theorem Ls(P:Program):∀(l:List AOp)(env:Env)(H:A4)(K:Env->A4->Prop),wk P l env H K=runK P l env H K
 |[],_,_,_=>rfl
 |⟨dst,args,none,k⟩::l,env,H,K=>by
  have h:(λx H'=>wk P l (env.put dst x) H' K)=λx H'=>runK P l (env.put dst x) H' K:=funext λx=>funext λH'=>Ls P l _ H' K;show @opK P k H (args.map (·.eval env)) ⟨_⟩=_
  rw[h,ZK];rfl
 |⟨dst,args,some (d,want),k⟩::l,env,H,K=>by
  have h:∀env:Env,(λx H'=>wk P l (env.put dst x) H' K)=λx H'=>runK P l (env.put dst x) H' K:=λenv=>funext λx=>funext λH'=>Ls P l _ H' K;show @GC (env d) want ⟨@opK P k H _ ⟨_⟩⟩ ⟨_⟩ ⟨_⟩=_;rw[h,ZK,Ls,Ls];rfl
theorem z3z(P:Program)(H:A4):∀(l:List AOp)(env:Env)(K:Env->Prop),qk P H l env K=runQ P H l env K
 |[],_,_=>rfl
 |⟨dst,args,none,k⟩::l,env,K=>by
  have h:(λx=>qk P H l (env.put dst x) K)=λx=>runQ P H l (env.put dst x) K:=funext λx=>z3z P H l _ K;show @opQ P k H (args.map (·.eval env)) ⟨_⟩=_
  rw[h,zjx];rfl
 |⟨dst,args,some (d,want),k⟩::l,env,K=>by
  have h:∀env:Env,(λx=>qk P H l (env.put dst x) K)=λx=>runQ P H l (env.put dst x) K:=λenv=>funext λx=>z3z P H l _ K;show @GC (env d) want ⟨@opQ P k H _ ⟨_⟩⟩ ⟨_⟩ ⟨_⟩=_;rw[h,zjx,z3z,z3z];rfl
theorem z7x{k:AK}(h:k.still=true):k.eff=none:=by
 cases k<;>first|rfl|(simp[AK.still] at h)
theorem Nq{k:AK}{l:List Grp}{xs:List AV}{K:AV->List Grp->Prop}(h:@opG P k l xs ⟨K⟩):if k.eff.isNone then ∃x,QG P k l xs x/\K x l else ∃x l',AI P k (hl l) xs (λy H'=>y=x/\H'=hl l')/\Comm P k l l'/\K x l':=by
 unfold opG at h;split at h
 ·obtain⟨y,h1,h2⟩:=h
  exact⟨y,.inl ⟨_,_,_,rfl,rfl,h1⟩,h2⟩
 ·exact⟨_,.inr (.inl ⟨_,_,_,_,rfl,h.1,h.2.1,h.2.2.1,rfl⟩),h.2.2.2⟩
 ·rcases h with⟨h1,h2,h3⟩|⟨_,h2,ha,ho,h3⟩
  ·rw[z7x h1]
   obtain⟨x,h4,h5⟩:=Pz h1 h3;refine⟨x,.inr (.inr ⟨h1,h2,?_⟩),h5⟩;exact still_mono h1 (λ_ _ hh=>hh.1) h4
  ·obtain⟨e,he⟩:=Option.isSome_iff_exists.1 h2
   rw[Ad (by rw[he];simp)];obtain⟨x,l',b1,b2,b3⟩:=zlo he ha ho h3;exact⟨x,l',b1,b3,b2 l' rfl⟩
theorem LN{x:AV}{w:Bool}{p q r p' q' r':Prop}(hp:p->p')(hq:q->q')(hr:r->r')(h:I1 x w p q r):I1 x w p' q' r':=by
 unfold I1 at h ⊢;split at h<;>first|exact hp h|exact hq h|exact hr h|exact h.elim
theorem P3(P:Program):∀(L:List AOp)(env:Env)(l:List Grp){K:Env->List Grp->Prop},gk P L env l K->runG P L env l K
 |[],_,_,_,h=>h
 |⟨dst,args,none,k⟩::r,env,l,K,h=>by
  have h':@opG P k l (args.map (·.eval env)) ⟨λx l'=>gk P r (env.put dst x) l' K⟩:=h
  have:=Nq h';simp only[runG,I2,AOp.vals,Br];split at this
  ·rename_i he
   rw[Ae he];obtain⟨x,h1,h2⟩:=this;exact⟨x,h1,P3 P r _ _ h2⟩
  ·rename_i he
   rw[Ad he];obtain⟨x,l',b1,b2,b3⟩:=this;exact⟨x,l',b1,b2,P3 P r _ _ b3⟩
 |⟨dst,args,some (d,want),k⟩::r,env,l,K,h=>by
  have h':I1 (env d) want (@opG P k l (args.map (·.eval (env.put (some d) (.bool want)))) ⟨λx l'=>gk P r ((env.put (some d) (.bool want)).put dst x) l' K⟩)
   (gk P r ((env.put (some d) (.bool (!want))).put dst (.tup [])) l K) (gk P r (env.put dst (.tup [])) l K):=h
  simp only[runG,I2,AOp.vals,Br,A8,Bq];refine LN (λh1=>?_) (λh1=>P3 P r _ _ h1) (λh1=>P3 P r _ _ h1) h';have:=Nq h1;split at this
  ·rename_i he
   obtain⟨x,h1,h2⟩:=this;rw[Ae he];exact⟨x,h1,P3 P r _ _ h2⟩
  ·rename_i he
   rw[Ad he];obtain⟨x,l',b1,b2,b3⟩:=this;exact⟨x,l',b1,b2,P3 P r _ _ b3⟩
theorem zjy{l l':List Grp}(h:hl l=hl l'):l=l':=by
 have h1:l.length=l'.length:=Bt A4.n h;refine BL h1 λi hi hi'=>?_;have h2:(hl l).at_ i=(hl l').at_ i:=by rw[h]
 rw[Da,Da] at h2;simpa [List.getD,hi,hi'] using h2
theorem W_T:∀{c:AC}{env:Env}{H:A4}{Q:Ex->Env->A4->Prop},W P n b c env H Q->T P n b c env H Q
 |.skip,_,_,_,h=>zr6 h
 |.reg ops,env,H,Q,h=>T_reg (by have h':wk P ops env H _:=h;rwa [Ls] at h')
 |.dreg ops,env,H,Q,h=>zr7 (by have h':qk P H ops env _:=h;rwa [z3z] at h')
 |.dtl pre post,env,H,Q,h=>T_dtl (by
  have h':qk P H pre env _:=h;rw[z3z] at h';have e:(λenv'=>wk P post env' H λenv' H'=>Q .normal env' H')=λenv'=>runK P post env' H λenv' H'=>Q .normal env' H':=funext λenv'=>Ls P post env' H _
  rwa [e] at h')
 |.greg ops,env,H,Q,h=>by
  obtain⟨l,rfl,h'⟩:=h;exact zr8 (P3 P ops env l h')
 |.grx ..,_,_,_,h=>h
 |.gry ..,_,_,_,h=>h
 |.seq x y,_,_,_,h=>DK (T.mono (W_T (c:=x) h) λz env H hh=>by cases z<;>first|exact W_T (c:=y) hh|exact hh)
 |.cond c x y,env,H,Q,h=>by
  have h':XO (c.eval env) (W P n b x env H Q) (W P n b y env H Q):=h;unfold XO at h';split at h'
  ·rename_i q hq;exact zr9 hq (λhb=>W_T (h'.1 hb)) (λhb=>W_T (h'.2 hb))
  ·exact h'.elim
 |.block id c,_,_,_,h=>zlq (W_T (c:=c) h)
 |.loop c,_,_,_,h=>h
 |.rng ..,_,_,_,h=>h
 |.exit id,_,_,_,h=>zra h
 |.ret,_,_,_,h=>T_ret h
end
section
variable {P:Program}{n b:Nat}{env:Env}{H:A4}{Q:Ex->Env->A4->Prop}{K:Env->A4->Prop}
theorem z1:W P n b .skip env H Q=Q .normal env H:=(rfl)
theorem z2{ops:List AOp}:W P n b (.reg ops) env H Q=wk P ops env H λenv' H'=>Q .normal env' H':=(rfl)
theorem z3{ops:List AOp}:W P n b (.dreg ops) env H Q=qk P H ops env λenv'=>Q .normal env' H:=(rfl)
theorem z4{pre post:List AOp}:W P n b (.dtl pre post) env H Q=qk P H pre env λenv'=>wk P post env' H λenv' H'=>Q .normal env' H':=(rfl)
theorem z5{ops:List AOp}{l:List Grp}:W P n b (.greg ops) env (hl l) Q=gk P ops env l λenv' l'=>Q .normal env' (hl l') :=
 propext ⟨λ⟨l',h1,h2⟩=>by rw[<-zjy h1] at h2;exact h2,λh=>⟨l,rfl,h⟩⟩
theorem z18{l:List Grp}{K:Env->List Grp->Prop}:gk P [] env l K=K env l:=(rfl)
theorem z19{l:List Grp}{K:Env->List Grp->Prop}{dst:Option Nat}{args:List AArg}{k:AK}{r:List AOp}:gk P (⟨dst,args,none,k⟩::r) env l K=@opG P k l (args.map (·.eval env)) ⟨λx l'=>gk P r (env.put dst x) l' K⟩:=(rfl)
theorem z20{l:List Grp}{K:Env->List Grp->Prop}{dst:Option Nat}{args:List AArg}{k:AK}{r:List AOp}{d:Nat}{want:Bool}:gk P (⟨dst,args,some (d,want),k⟩::r) env l K=@GC (env d) want
 ⟨@opG P k l (args.map (·.eval (env.put (some d) (.bool want)))) ⟨λx l'=>gk P r ((env.put (some d) (.bool want)).put dst x) l' K⟩⟩
 ⟨gk P r ((env.put (some d) (.bool (!want))).put dst (.tup [])) l K⟩ ⟨gk P r (env.put dst (.tup [])) l K⟩:=(rfl)
theorem z6{x y:AC}:W P n b (.seq x y) env H Q=W P n b x env H (Ex.then (λenv' H'=>W P n b y env' H' Q) Q):=(rfl)
theorem z7{c:AArg}{x y:AC}:W P n b (.cond c x y) env H Q=@XP (c.eval env) ⟨W P n b x env H Q⟩ ⟨W P n b y env H Q⟩:=(rfl)
theorem z8{id:Nat}{c:AC}:W P n b (.block id c) env H Q=W P n b c env H (Ex.inBlock id Q):=(rfl)
theorem z9{c:AC}:W P n b (.loop c) env H Q=@Lr ⟨T P n b (.loop c) env H Q⟩:=(rfl)
theorem z34{f:AArg}{ps:List Nat}{a c:AC}:W P n b (.rng f ps a c) env H Q=@Lr ⟨T P n b (.rng f ps a c) env H Q⟩:=(rfl)
theorem z35{fl:List Bool}{ops:List AOp}:W P n b (.grx fl ops) env H Q=@Lr ⟨T P n b (.grx fl ops) env H Q⟩:=(rfl)
theorem z36{fl:List Bool}{ops:List AOp}:W P n b (.gry fl ops) env H Q=@Lr ⟨T P n b (.gry fl ops) env H Q⟩:=(rfl)
theorem z10{id:Nat}:W P n b (.exit id) env H Q=Q (.exit id) env H:=(rfl)
theorem z11:W P n b .ret env H Q=Q .ret env H:=(rfl)
theorem z12:wk P [] env H K=K env H:=(rfl)
theorem z13{dst:Option Nat}{args:List AArg}{k:AK}{l:List AOp}:wk P (⟨dst,args,none,k⟩::l) env H K=@opK P k H (args.map (·.eval env)) ⟨λx H'=>wk P l (env.put dst x) H' K⟩:=(rfl)
theorem z14{dst:Option Nat}{args:List AArg}{k:AK}{l:List AOp}{d:Nat}{want:Bool}:wk P (⟨dst,args,some (d,want),k⟩::l) env H K=@GC (env d) want
 ⟨@opK P k H (args.map (·.eval (env.put (some d) (.bool want)))) ⟨λx H'=>wk P l ((env.put (some d) (.bool want)).put dst x) H' K⟩⟩
 ⟨wk P l ((env.put (some d) (.bool (!want))).put dst (.tup [])) H K⟩ ⟨wk P l (env.put dst (.tup [])) H K⟩:=(rfl)
theorem z15{K:Env->Prop}:qk P H [] env K=K env:=(rfl)
theorem z16{K:Env->Prop}{dst:Option Nat}{args:List AArg}{k:AK}{l:List AOp}:qk P H (⟨dst,args,none,k⟩::l) env K=@opQ P k H (args.map (·.eval env)) ⟨λx=>qk P H l (env.put dst x) K⟩:=(rfl)
theorem z17{K:Env->Prop}{dst:Option Nat}{args:List AArg}{k:AK}{l:List AOp}{d:Nat}{want:Bool}:qk P H (⟨dst,args,some (d,want),k⟩::l) env K=@GC (env d) want
 ⟨@opQ P k H (args.map (·.eval (env.put (some d) (.bool want)))) ⟨λx=>qk P H l ((env.put (some d) (.bool want)).put dst x) K⟩⟩
 ⟨qk P H l ((env.put (some d) (.bool (!want))).put dst (.tup [])) K⟩ ⟨qk P H l (env.put dst (.tup [])) K⟩:=(rfl)
theorem z21{p q r:Prop}:@GC (.bool true) true ⟨p⟩ ⟨q⟩ ⟨r⟩=p:=(rfl)
theorem z22{p q r:Prop}:@GC (.bool false) false ⟨p⟩ ⟨q⟩ ⟨r⟩=p:=(rfl)
theorem z23{p q r:Prop}:@GC (.bool true) false ⟨p⟩ ⟨q⟩ ⟨r⟩=q:=(rfl)
theorem z24{p q r:Prop}:@GC (.bool false) true ⟨p⟩ ⟨q⟩ ⟨r⟩=q:=(rfl)
theorem z25{w:Bool}{p q r:Prop}:@GC (.tup []) w ⟨p⟩ ⟨q⟩ ⟨r⟩=r:=by cases w<;>rfl
theorem NX{b w:Bool}{p q r:Prop}(hp:b=w->p)(hq:b=(!w)->q):@GC (.bool b) w ⟨p⟩ ⟨q⟩ ⟨r⟩:=Vb hp hq
theorem z26{p q:Prop}:@XP (.bool true) ⟨p⟩ ⟨q⟩=p:=by simp[XP,XO]
theorem z27{p q:Prop}:@XP (.bool false) ⟨p⟩ ⟨q⟩=q:=by simp[XP,XO]
theorem P4{b:Bool}{p q:Prop}(hp:b=true->p)(hq:b=false->q):@XP (.bool b) ⟨p⟩ ⟨q⟩:=⟨hp,hq⟩
end
theorem P5{P:Program}{env:Env}{H:A4}:∀{res:List ARes}{K K':List AV->Prop},(∀xs,K xs->K' xs)->resK P res env H K->resK P res env H K'
 |[],_,_,hk,h=>hk _ h
 |.slot t::l,_,_,hk,h=>P5 (res:=l) (λxs hh=>hk _ hh) h
 |.cell t a s::l,_,_,hk,h=>still_mono (k:=.load a s) rfl (λx _ hh=>P5 (res:=l) (λxs hh=>hk _ hh) hh) h
theorem T8{P:Program}{res:List ARes}{K K':AV->A4->Prop}(hk:∀z H,K z H->K' z H){x:Ex}{env:Env}{H:A4}(h:Ret P res K x env H):Ret P res K' x env H:=⟨h.1,P5 (λxs hh=>hk _ _ hh) h.2⟩
def nx(x:AV)(H:A4)[K:HK]:Prop:=K.f x H
theorem zlt(x:AV)(H:A4)(f:AV->A4->Prop):@nx x H ⟨f⟩=f x H:=(rfl)
class HF (α:Type) where
 f:α->Prop
def optN{α:Type}(o:Option α)[F:HF α]:Prop:=optK o F.f
theorem z7y{α:Type}(x:α)(f:α->Prop):@optN α (some x) ⟨f⟩=f x:=(rfl)
def ifN(c:Bool)[p:HP][q:HP]:Prop:=match c with
 |false=>p.p
 |true=>q.p
theorem zep{p q:Prop}:@ifN true ⟨p⟩ ⟨q⟩=q:=(rfl)
theorem z7z{p q:Prop}:@ifN false ⟨p⟩ ⟨q⟩=p:=(rfl)
def appN(w bytes:Nat)(s:AV)(news:List AV)(H:A4)[K:HK]:Prop:=LD w bytes s news H K.f
def slcN(w:Nat)(x:AV)(lo hi mx:Option Int)(H:A4)[K:HK]:Prop:=HE w x lo hi mx H λy=>K.f y H
def nq(x:AV)[K:HQ]:Prop:=K.f x
theorem zlu(x:AV)(f:AV->Prop):@nq x ⟨f⟩=f x:=(rfl)
section
variable {P:Program}{H:A4}{K:AV->A4->Prop}{k:IntKind}{a b c:Int}{x y z:AV}{xs ys cs:List AV}{w s o i g v off len n:Nat}{p q r:Bool}
theorem K_mv:@opK P .mv H [x] ⟨K⟩=@nx x H ⟨K⟩:=(rfl)
theorem zrd:@opK P .pick H [.bool p,x,y] ⟨K⟩=@nx (bif p then x else y) H ⟨K⟩:=(rfl)
theorem zlv:@opK P (.alloc z w) H [] ⟨K⟩=@nx (.ptr H.n 1 0 0) (H.push ⟨w,1,true,[z]⟩) ⟨K⟩:=(rfl)
theorem K_box:@opK P .box H [x] ⟨K⟩=(GB x.cells=true/\0<x.cells.length/\@nx (.ptr H.n 1 0 0) (H.push ⟨x.cells.length,1,true,[x]⟩) ⟨K⟩):=(rfl)
theorem zlw{zs:List AV}{pl:List (Nat × Nat)}{idx:List Nat}:@opK P (.build zs pl idx) H xs ⟨K⟩=@optN _ (To pl idx xs zs) ⟨λcs=>@nx (.agg cs) H ⟨K⟩⟩:=(rfl)
theorem zeq{idx:List Nat}:@opK P (.bslice w len z idx) H xs ⟨K⟩=(Ji w len idx xs/\@nx (.ref H.n 1 0 len) (H.push ⟨w,1,true,Gk idx xs (List.replicate len z)⟩) ⟨K⟩):=(rfl)
theorem zer:@opK P (.load p s) H [.cptr x] ⟨K⟩=(x.isAny=false/\x.cells.length=s/\(p=false->s=1)/\@nx (Dp p 0 s x) H ⟨K⟩):=(rfl)
theorem zes:@opK P (.load p s) H [.ptr g v i o] ⟨K⟩=((H.at_ g).ver=v/\i<(H.at_ g).xs.length/\((H.at_ g).xs.getD i .any).isAny=false/\((H.at_ g).xs.getD i .any).cells.length=(H.at_ g).w/\0<s/\o+s<=(H.at_ g).w /\
 (p=false->s=1)/\@nx (Dp p o s ((H.at_ g).xs.getD i .any)) H ⟨K⟩):=(rfl)
theorem zlx:@opK P (.store s) H [.ptr g v i o,x] ⟨K⟩=((H.at_ g).ver=v/\i<(H.at_ g).xs.length/\0<s/\o+s<=(H.at_ g).w/\x.cells.length=s/\GB x.cells=true /\
 (s=(H.at_ g).w\/((H.at_ g).xs.getD i .any).isAny=false/\((H.at_ g).xs.getD i .any).cells.length=(H.at_ g).w) /\
 @nx .any (H.set g ⟨(H.at_ g).w,v,(H.at_ g).exact,(H.at_ g).xs.set i (LC (H.at_ g).w o s ((H.at_ g).xs.getD i .any) x)⟩) ⟨K⟩):=(rfl)
theorem zre:@opK P .nilCheck H [.cptr x] ⟨K⟩=@nx (.cptr x) H ⟨K⟩:=(rfl)
theorem zrf:@opK P .nilCheck H [.ptr g v i o] ⟨K⟩=@nx (.ptr g v i o) H ⟨K⟩:=(rfl)
theorem zrg{f:Nat}:@opK P .nilCheck H [.fn f xs] ⟨K⟩=@nx (.fn f xs) H ⟨K⟩:=(rfl)
theorem K_add:@opK P (.bin .add) H [.int k a,.int k b] ⟨K⟩=@nx (.int k (k.wrap (a+b))) H ⟨K⟩:=by simp[opK,AI,binI,nx]
theorem K_sub:@opK P (.bin .sub) H [.int k a,.int k b] ⟨K⟩=@nx (.int k (k.wrap (a-b))) H ⟨K⟩:=by simp[opK,AI,binI,nx]
theorem K_mul:@opK P (.bin .mul) H [.int k a,.int k b] ⟨K⟩=@nx (.int k (k.wrap (a * b))) H ⟨K⟩:=by simp[opK,AI,binI,nx]
theorem K_quo:@opK P (.bin .quo) H [.int k a,.int k b] ⟨K⟩=(b≠0/\@nx (.int k (k.wrap (a.tdiv b))) H ⟨K⟩):=by simp[opK,AI,binI,nx]
theorem K_rem:@opK P (.bin .rem) H [.int k a,.int k b] ⟨K⟩=(b≠0/\@nx (.int k (a.tmod b)) H ⟨K⟩):=by simp[opK,AI,binI,nx]
theorem K_and:@opK P (.bin .and) H [.int k a,.int k b] ⟨K⟩=@nx (.int k (JF .and k a b)) H ⟨K⟩:=by simp[opK,AI,binI,nx]
theorem K_or:@opK P (.bin .or) H [.int k a,.int k b] ⟨K⟩=@nx (.int k (JF .or k a b)) H ⟨K⟩:=by simp[opK,AI,binI,nx]
theorem K_xor:@opK P (.bin .xor) H [.int k a,.int k b] ⟨K⟩=@nx (.int k (JF .xor k a b)) H ⟨K⟩:=by simp[opK,AI,binI,nx]
theorem zet:@opK P (.bin .andNot) H [.int k a,.int k b] ⟨K⟩=@nx (.int k (JF .andNot k a b)) H ⟨K⟩:=by simp[opK,AI,binI,nx]
theorem K_shl{k':IntKind}:@opK P (.bin .shl) H [.int k a,.int k' b] ⟨K⟩=(0<=b/\@nx (.int k (k.wrap (a * 2 ^ (Min.min b.toNat k.bits)))) H ⟨K⟩):=(rfl)
theorem K_shr{k':IntKind}:@opK P (.bin .shr) H [.int k a,.int k' b] ⟨K⟩=(0<=b/\@nx (.int k (a.fdiv (2 ^ (Min.min b.toNat k.bits)))) H ⟨K⟩):=(rfl)
theorem K_eql:@opK P (.bin .eql) H [.int k a,.int k b] ⟨K⟩=@nx (.bool (decide (a=b))) H ⟨K⟩:=by simp[opK,AI,binI,nx]
theorem K_neq:@opK P (.bin .neq) H [.int k a,.int k b] ⟨K⟩=@nx (.bool (!decide (a=b))) H ⟨K⟩:=by simp[opK,AI,binI,nx]
theorem K_lss:@opK P (.bin .lss) H [.int k a,.int k b] ⟨K⟩=@nx (.bool (decide (a<b))) H ⟨K⟩:=by simp[opK,AI,binI,nx]
theorem K_leq:@opK P (.bin .leq) H [.int k a,.int k b] ⟨K⟩=@nx (.bool (decide (a<=b))) H ⟨K⟩:=by simp[opK,AI,binI,nx]
theorem K_gtr:@opK P (.bin .gtr) H [.int k a,.int k b] ⟨K⟩=@nx (.bool (decide (b<a))) H ⟨K⟩:=by simp[opK,AI,binI,nx]
theorem K_geq:@opK P (.bin .geq) H [.int k a,.int k b] ⟨K⟩=@nx (.bool (decide (b<=a))) H ⟨K⟩:=by simp[opK,AI,binI,nx]
theorem zrh{s t:List UInt8}:@opK P (.bin .eql) H [.str s,.str t] ⟨K⟩=@nx (.bool (decide (s=t))) H ⟨K⟩:=(rfl)
theorem zri{s t:List UInt8}:@opK P (.bin .neq) H [.str s,.str t] ⟨K⟩=@nx (.bool (!decide (s=t))) H ⟨K⟩:=(rfl)
theorem K_eqb:@opK P (.eqb p) H [.bool q,.bool r] ⟨K⟩=@nx (.bool (if p then !(q == r) else q == r)) H ⟨K⟩:=(rfl)
theorem K_eqs{ks:List Nat}:@opK P (.eqs p ks) H [.agg xs,.agg ys] ⟨K⟩=@optN _ (eqL ks xs ys) ⟨λb=>@nx (.bool (if p then !b else b)) H ⟨K⟩⟩:=(rfl)
theorem z80:@opK P (.eqn p) H [.nilS,.nilS] ⟨K⟩=@nx (.bool (!p)) H ⟨K⟩:=(rfl)
theorem z81:@opK P (.eqn p) H [.lst w xs,.nilS] ⟨K⟩=(xs≠[]/\@nx (.bool p) H ⟨K⟩):=(rfl)
theorem z82:@opK P (.eqn p) H [.ref g v off len,.nilS] ⟨K⟩=(0<len/\@nx (.bool p) H ⟨K⟩):=(rfl)
theorem K_not:@opK P (.un .not) H [.bool p] ⟨K⟩=@nx (.bool (!p)) H ⟨K⟩:=(rfl)
theorem K_neg:@opK P (.un .neg) H [.int k a] ⟨K⟩=@nx (.int k (k.wrap (0-a))) H ⟨K⟩:=(rfl)
theorem zrj{k':IntKind}:@opK P (.conv k) H [.int k' a] ⟨K⟩=@nx (.int k (k.wrap a)) H ⟨K⟩:=(rfl)
theorem zly:@opK P .toStr H [x] ⟨K⟩=(Hw H 1 x/\(match x with|.str _=>False|_=>True)/\∃bs:List UInt8,Hv H x=some (bs.map λb=>.int .u8 b.toNat)/\@nx (.str bs) H ⟨K⟩):=(rfl)
theorem zeu:@opK P .runStr H [x] ⟨K⟩=(Hw H 1 x/\(match x with|.str _=>False|_=>True)/\∃zs:List Int,Hv H x=some (zs.map (AV.int .i32))/\@nx (.str (LG zs)) H ⟨K⟩):=(rfl)
theorem zlz{lo hi mx:Bool}:@opK P (.slice w lo hi mx) H (x::xs) ⟨K⟩=@optN _ (optA lo xs) ⟨λp=>@optN _ (optA hi p.2) ⟨λq=>@optN _ (optA mx q.2) ⟨λr=>r.2=[]/\@slcN w x p.1 q.1 r.1 H ⟨K⟩⟩⟩⟩:=(rfl)
theorem z83:@opK P (.faddr p off s) H [.cptr x] ⟨K⟩=(x.isAny=false/\off+s<=x.cells.length/\(p=false->s=1)/\0<s/\@nx (.cptr (Dp p off s x)) H ⟨K⟩):=(rfl)
theorem z84:@opK P (.faddr p off s) H [.ptr g v i o] ⟨K⟩=((H.at_ g).ver=v/\@nx (.ptr g v i (o+off)) H ⟨K⟩):=(rfl)
theorem zm0:@opK P (.field p off s) H [.agg cs] ⟨K⟩=(off+s<=cs.length/\(p=false->s=1)/\@nx (Dp p off s (.agg cs)) H ⟨K⟩):=(rfl)
theorem z85{w':Nat}:@opK P (.iaddr w) H [.lst w' xs,.int k a] ⟨K⟩=(w'=w/\0<=a/\a<xs.length/\@nx (.cptr (xs.getD a.toNat .any)) H ⟨K⟩):=(rfl)
theorem z86:@opK P (.iaddr w) H [.ref g v off len,.int k a] ⟨K⟩=((H.at_ g).ver=v/\(H.at_ g).w=w/\0<=a/\a<len/\@nx (.ptr g v (off+a.toNat) 0) H ⟨K⟩):=(rfl)
theorem z40:@opK P (.iaddrA n w p) H [.ptr g v i o,.int k a] ⟨K⟩=((H.at_ g).ver=v/\0<=a/\a<n/\@nx (.ptr g v i (o+a.toNat * w)) H ⟨K⟩):=(rfl)
theorem z41:@opK P (.iaddrA n w p) H [.cptr x,.int k a] ⟨K⟩=(x.isAny=false/\0<=a/\a<n/\n * w<=x.cells.length/\(p=false->w=1)/\0<w/\@nx (.cptr (Dp p (a.toNat * w) w x)) H ⟨K⟩):=(rfl)
theorem zm1:@opK P (.index n w p) H [.agg cs,.int k a] ⟨K⟩=(0<=a/\a<n/\n * w<=cs.length/\(p=false->w=1)/\@nx (Dp p (a.toNat * w) w (.agg cs)) H ⟨K⟩):=(rfl)
theorem z42{s:List UInt8}:@opK P .indexStr H [.str s,.int k a] ⟨K⟩=(0<=a/\a<s.length/\@nx (.int .u8 (s.getD a.toNat 0).toNat) H ⟨K⟩):=(rfl)
theorem z87:@opK P (.extract i) H [.tup xs] ⟨K⟩=(i<xs.length/\@nx (xs.getD i .any) H ⟨K⟩):=(rfl)
theorem z88:@opK P (.len false) H [.nilS] ⟨K⟩=@nx (.int .i64 0) H ⟨K⟩:=(rfl)
theorem z89:@opK P (.len false) H [.nul] ⟨K⟩=@nx (.int .i64 0) H ⟨K⟩:=(rfl)
theorem z8a:@opK P (.len false) H [.lst w xs] ⟨K⟩=@nx (.int .i64 xs.length) H ⟨K⟩:=(rfl)
theorem z8b:@opK P (.len false) H [.ref g v off len] ⟨K⟩=@nx (.int .i64 len) H ⟨K⟩:=(rfl)
theorem z8c{s:List UInt8}:@opK P (.len true) H [.str s] ⟨K⟩=@nx (.int .i64 s.length) H ⟨K⟩:=(rfl)
theorem K_app:@opK P (.app w n z) H [x,y] ⟨K⟩=(Hw H w y/\@optN _ (Hv H y) ⟨λnews=>@appN w n x news H ⟨K⟩⟩):=(rfl)
theorem zev:@appN w n .nilS xs H ⟨K⟩=(xs.length * n<=140737488355328/\@nx (.ref H.n 1 0 xs.length) (H.push ⟨w,1,xs.isEmpty,xs⟩) ⟨K⟩):=(rfl)
theorem zm2:@appN w n .nul xs H ⟨K⟩=(xs.length * n<=140737488355328/\@nx (.ref H.n 1 0 xs.length) (H.push ⟨w,1,xs.isEmpty,xs⟩) ⟨K⟩):=(rfl)
theorem zm3:@appN w n (.ref g v off len) xs H ⟨K⟩=((H.at_ g).ver=v/\(H.at_ g).w=w/\(len+xs.length) * n<=140737488355328/\off+len<=(H.at_ g).xs.length/\@ifN (!(H.at_ g).exact||(H.at_ g).xs.isEmpty)
 ⟨(off+len+xs.length<=(H.at_ g).xs.length->@nx (.ref g v off (len+xs.length)) (H.set g ⟨w,v,true,(H.at_ g).xs.take (off+len)++xs++(H.at_ g).xs.drop (off+len+xs.length)⟩) ⟨K⟩) /\
  ((H.at_ g).xs.length<off+len+xs.length->@nx (.ref H.n 1 0 (len+xs.length)) (H.push ⟨w,1,false,((H.at_ g).xs.drop off).take len++xs⟩) ⟨K⟩)⟩
 ⟨(off=0\/off+len=(H.at_ g).xs.length)/\(off+len=(H.at_ g).xs.length->@nx (.ref g (v+1) off (len+xs.length)) (H.set g ⟨w,v+1,(H.at_ g).exact&&xs.isEmpty,(H.at_ g).xs++xs⟩) ⟨K⟩) /\
  (off+len<(H.at_ g).xs.length->off+len+xs.length<=(H.at_ g).xs.length/\@nx (.ref g v off (len+xs.length)) (H.set g ⟨w,v,(H.at_ g).exact,(H.at_ g).xs.take (off+len)++xs++(H.at_ g).xs.drop (off+len+xs.length)⟩) ⟨K⟩) /\
  (off≠0->@nx (.ref g (v+1) 0 (len+xs.length)) (H.set g ⟨w,v+1,(H.at_ g).exact&&xs.isEmpty,(H.at_ g).xs.drop off++xs⟩) ⟨K⟩)⟩):=by
 simp only[appN,LD,ifN];generalize (!(H.at_ g).exact||(H.at_ g).xs.isEmpty)=c;cases c<;>rfl
theorem zm4{w':Nat}{lo hi:Option Int}:@slcN w (.lst w' xs) lo hi none H ⟨K⟩=(w'=w/\0<=lo.getD 0/\lo.getD 0<=hi.getD xs.length/\hi.getD xs.length<=xs.length/\@nx (.lst w' ((xs.take (hi.getD xs.length).toNat).drop (lo.getD 0).toNat)) H ⟨K⟩):=(rfl)
theorem zm5{lo hi:Option Int}:@slcN w .nilS lo hi none H ⟨K⟩=((lo=none\/lo=some 0)/\(hi=none\/hi=some 0)/\@nx .nilS H ⟨K⟩):=(rfl)
theorem zm6{lo hi:Option Int}:@slcN w (.ref g v off len) lo hi none H ⟨K⟩=((H.at_ g).ver=v/\(H.at_ g).w=w/\0<w/\0<=lo.getD 0/\lo.getD 0<=hi.getD len/\(hi.getD len<=len\/(H.at_ g).exact=true/\off+hi.getD len<=(H.at_ g).xs.length) /\
 @nx (.ref g v (off+(lo.getD 0).toNat) ((hi.getD len).toNat-(lo.getD 0).toNat)) H ⟨K⟩):=(rfl)
theorem zew{w':Nat}{lo hi:Option Int}{m:Int}:@slcN w (.lst w' xs) lo hi (some m) H ⟨K⟩=(m=0/\hi=some 0/\(lo=none\/lo=some 0)/\@nx .nul H ⟨K⟩):=(rfl)
theorem zex{lo hi:Option Int}{m:Int}:@slcN w .nilS lo hi (some m) H ⟨K⟩=(m=0/\hi=some 0/\(lo=none\/lo=some 0)/\@nx .nilS H ⟨K⟩):=(rfl)
theorem zey{lo hi:Option Int}{m:Int}:@slcN w .nul lo hi (some m) H ⟨K⟩=(m=0/\hi=some 0/\(lo=none\/lo=some 0)/\@nx .nul H ⟨K⟩):=(rfl)
theorem zez{lo hi:Option Int}{m:Int}:@slcN w (.ref g v off len) lo hi (some m) H ⟨K⟩=(m=0/\hi=some 0/\(lo=none\/lo=some 0)/\@nx .nul H ⟨K⟩):=(rfl)
theorem K_cap:@opK P .cap H [.nilS] ⟨K⟩=@nx (.int .i64 0) H ⟨K⟩:=(rfl)
theorem K_clr{g v off len:Nat}:@opK P (.clr w z) H [.ref g v off len] ⟨K⟩=((H.at_ g).ver=v/\(H.at_ g).w=w/\off+len<=(H.at_ g).xs.length/\@nx (.tup []) (H.set g ⟨w,v,(H.at_ g).exact,(H.at_ g).xs.take off++List.replicate len z++(H.at_ g).xs.drop (off+len)⟩) ⟨K⟩):=(rfl)
theorem zrk{m:Nat}{k:IntKind}:@opK P (.appZ w m z) H [.nilS,.int k a] ⟨K⟩=(0<a/\a * m<=140737488355328/\@nx (.ref H.n 1 0 a.toNat) (H.push ⟨w,1,false,List.replicate a.toNat z⟩) ⟨K⟩):=(rfl)
theorem K_max:@opK P .max H [.int k a,.int k b] ⟨K⟩=@nx (.int k (Max.max a b)) H ⟨K⟩:=by simp[opK,AI,nx,maxF,optK]
theorem zrl{c d:Int}:@opK P .max H [.int k a,.int k b,.int k c,.int k d] ⟨K⟩=@nx (.int k (Max.max (Max.max (Max.max a b) c) d)) H ⟨K⟩:=by simp[opK,AI,nx,maxF,optK]
theorem K_min:@opK P .min H [.int k a,.int k b] ⟨K⟩=@nx (.int k (Min.min a b)) H ⟨K⟩:=by simp[opK,AI,nx]
theorem z8d{k':IntKind}:@opK P (.mkSlice w n z) H [.int k a,.int k' b] ⟨K⟩=(0<=a/\a<=b/\b * n<=140737488355328/\@nx (.ref H.n 1 0 a.toNat) (H.push ⟨w,1,true,List.replicate b.toNat z⟩) ⟨K⟩):=(rfl)
theorem zf0{f:Nat}:@opK P (.mkFunc f) H xs ⟨K⟩=@nx (.fn f xs) H ⟨K⟩:=(rfl)
theorem zm7:@opK P .mkMap H [] ⟨K⟩=@nx (.map H.n 1) (H.push ⟨0,1,true,[]⟩) ⟨K⟩:=(rfl)
theorem zf1:@opK P (.mapGet z) H [.map g v,.int k a] ⟨K⟩=(k=.i64/\(H.at_ g).ver=v/\(H.at_ g).w=0/\(H.at_ g).exact=true/\@optN _ (HR z a (H.at_ g).xs) ⟨λy=>@nx y H ⟨K⟩⟩):=(rfl)
theorem zf2:@opK P .mapSet H [.map g v,.int k a,x] ⟨K⟩=(k=.i64/\(H.at_ g).ver=v/\(H.at_ g).w=0/\(H.at_ g).exact=true/\@optN _ (setM a x (H.at_ g).xs) ⟨λys=>@nx .any (H.set g ⟨0,v,true,ys⟩) ⟨K⟩⟩):=(rfl)
theorem z43:@opK P (.len false) H [.full w xs] ⟨K⟩=@nx (.int .i64 xs.length) H ⟨K⟩:=(rfl)
theorem z8e{w':Nat}:@opK P (.iaddr w) H [.full w' xs,.int k a] ⟨K⟩=(w'=w/\0<=a/\a<xs.length/\@nx (.cptr (xs.getD a.toNat .any)) H ⟨K⟩):=(rfl)
theorem z44:@opK P (.eqn p) H [.full w xs,.nilS] ⟨K⟩=(xs≠[]/\@nx (.bool p) H ⟨K⟩):=(rfl)
theorem zf3{w':Nat}{lo hi:Option Int}:@slcN w (.full w' xs) lo hi none H ⟨K⟩=(w'=w/\0<=lo.getD 0/\lo.getD 0<=hi.getD xs.length/\hi.getD xs.length<=xs.length/\@nx (.lst w' ((xs.take (hi.getD xs.length).toNat).drop (lo.getD 0).toNat)) H ⟨K⟩):=(rfl)
theorem z8f{w':Nat}{lo hi:Option Int}{m:Int}:@slcN w (.full w' xs) lo hi (some m) H ⟨K⟩=(m=0/\hi=some 0/\(lo=none\/lo=some 0)/\@nx .nul H ⟨K⟩):=(rfl)
theorem zf4{w':Nat}:@appN w n (.full w' xs) ys H ⟨K⟩=(w'=w/\(ys.length=0->@nx (.full w' xs) H ⟨K⟩)/\(0<ys.length->(xs.length+ys.length) * n<=140737488355328/\@nx (.ref H.n 1 0 (xs.length+ys.length)) (H.push ⟨w,1,false,xs++ys⟩) ⟨K⟩)):=(rfl)
theorem z8g:HR z a []=some z:=rfl
theorem Jm:HR z a (.int .i64 b::y::xs)=if b=a then some y else HR z a xs:=rfl
theorem zf5:setM a x []=some [.int .i64 a,x]:=rfl
theorem M3:setM a x (.int .i64 b::y::xs)=if b=a then some (.int .i64 b::x::xs) else (setM a x xs).map λr'=>.int .i64 b::y::r':=rfl
theorem zrm{f:Nat}:@opK P .call H (.fn f cs::xs) ⟨K⟩=@Rs P f (xs++cs) H ⟨K⟩:=(rfl)
end
section
variable {P:Program}{H:A4}{K:AV->Prop}{xs cs:List AV}{z:AV}{w len:Nat}
theorem Es{k:AK}(h:k.still=true):@opQ P k H xs ⟨K⟩=@opK P k H xs ⟨λx _=>K x⟩:=by
 cases k<;>first|(exact propext ⟨λh=>h.2,λh=>⟨rfl,h⟩⟩)|(simp[AK.still] at h)
theorem Q_mv  : @opQ P .mv H xs ⟨K⟩=@opK P .mv H xs ⟨λx _=>K x⟩:=Es rfl
theorem zrn  : @opQ P .pick H xs ⟨K⟩=@opK P .pick H xs ⟨λx _=>K x⟩:=Es rfl
theorem zm8{zs:List AV}{pl:List (Nat × Nat)}{idx:List Nat}:@opQ P (.build zs pl idx) H xs ⟨K⟩=@opK P (.build zs pl idx) H xs ⟨λx _=>K x⟩:=Es rfl
theorem zro{a:Bool}{s:Nat}:@opQ P (.load a s) H xs ⟨K⟩=@opK P (.load a s) H xs ⟨λx _=>K x⟩:=Es rfl
theorem z47  : @opQ P .nilCheck H xs ⟨K⟩=@opK P .nilCheck H xs ⟨λx _=>K x⟩:=Es rfl
theorem Q_bin{op:BinOp}:@opQ P (.bin op) H xs ⟨K⟩=@opK P (.bin op) H xs ⟨λx _=>K x⟩:=Es rfl
theorem Q_eqb{n:Bool}:@opQ P (.eqb n) H xs ⟨K⟩=@opK P (.eqb n) H xs ⟨λx _=>K x⟩:=Es rfl
theorem Q_eqs{n:Bool}{ks:List Nat}:@opQ P (.eqs n ks) H xs ⟨K⟩=@opK P (.eqs n ks) H xs ⟨λx _=>K x⟩:=Es rfl
theorem Q_eqn{n:Bool}:@opQ P (.eqn n) H xs ⟨K⟩=@opK P (.eqn n) H xs ⟨λx _=>K x⟩:=Es rfl
theorem Q_un{op:UnOp}:@opQ P (.un op) H xs ⟨K⟩=@opK P (.un op) H xs ⟨λx _=>K x⟩:=Es rfl
theorem zrp{k:IntKind}:@opQ P (.conv k) H xs ⟨K⟩=@opK P (.conv k) H xs ⟨λx _=>K x⟩:=Es rfl
theorem zm9{w:Nat}{lo hi mx:Bool}:@opQ P (.slice w lo hi mx) H xs ⟨K⟩=@opK P (.slice w lo hi mx) H xs ⟨λx _=>K x⟩:=Es rfl
theorem zma{a:Bool}{o s:Nat}:@opQ P (.faddr a o s) H xs ⟨K⟩=@opK P (.faddr a o s) H xs ⟨λx _=>K x⟩:=Es rfl
theorem zmb{a:Bool}{o s:Nat}:@opQ P (.field a o s) H xs ⟨K⟩=@opK P (.field a o s) H xs ⟨λx _=>K x⟩:=Es rfl
theorem zmc{w:Nat}:@opQ P (.iaddr w) H xs ⟨K⟩=@opK P (.iaddr w) H xs ⟨λx _=>K x⟩:=Es rfl
theorem zf6{n w:Nat}{a:Bool}:@opQ P (.iaddrA n w a) H xs ⟨K⟩=@opK P (.iaddrA n w a) H xs ⟨λx _=>K x⟩:=Es rfl
theorem zmd{n w:Nat}{a:Bool}:@opQ P (.index n w a) H xs ⟨K⟩=@opK P (.index n w a) H xs ⟨λx _=>K x⟩:=Es rfl
theorem z48  : @opQ P .indexStr H xs ⟨K⟩=@opK P .indexStr H xs ⟨λx _=>K x⟩:=Es rfl
theorem z8h{i:Nat}:@opQ P (.extract i) H xs ⟨K⟩=@opK P (.extract i) H xs ⟨λx _=>K x⟩:=Es rfl
theorem Q_cap:@opQ P .cap H xs ⟨K⟩=@opK P .cap H xs ⟨λx _=>K x⟩:=Es rfl
theorem Q_len{b:Bool}:@opQ P (.len b) H xs ⟨K⟩=@opK P (.len b) H xs ⟨λx _=>K x⟩:=Es rfl
theorem Q_max  : @opQ P .max H xs ⟨K⟩=@opK P .max H xs ⟨λx _=>K x⟩:=Es rfl
theorem Q_min  : @opQ P .min H xs ⟨K⟩=@opK P .min H xs ⟨λx _=>K x⟩:=Es rfl
theorem zf7:@opQ P (.mapGet z) H xs ⟨K⟩=@opK P (.mapGet z) H xs ⟨λx _=>K x⟩:=Es rfl
theorem zf8{f:Nat}:@opQ P (.mkFunc f) H xs ⟨K⟩=@opK P (.mkFunc f) H xs ⟨λx _=>K x⟩:=Es rfl
theorem zme  : @opQ P .toStr H xs ⟨K⟩=@opK P .toStr H xs ⟨λx _=>K x⟩:=Es rfl
theorem zf9  : @opQ P .runStr H xs ⟨K⟩=@opK P .runStr H xs ⟨λx _=>K x⟩:=Es rfl
theorem zmf{f:Nat}:@opQ P .call H (.fn f cs::xs) ⟨K⟩=@zen P f (xs++cs) H ⟨K⟩:=(rfl)
theorem Q_bsl{idx:List Nat}:@opQ P (.bslice w len z idx) H xs ⟨K⟩=(Ji w len idx xs/\0<w/\AJ (Gk idx xs (List.replicate len z))=true/\@nq (.full w (Gk idx xs (List.replicate len z))) ⟨K⟩):=(rfl)
end
section
variable {H:A4}{G:Grp}{g j:Nat}
end
section
variable {P:Program}{H:A4}{env:Env}{K:List AV->Prop}{l:List ARes}{t s:Nat}{a:Bool}
theorem zmg:resK P [] env H K=K []:=(rfl)
theorem zfa:resK P (.slot t::l) env H K=resK P l env H λxs=>K (env t::xs):=(rfl)
theorem zfb:resK P (.cell t a s::l) env H K=@opK P (.load a s) H [env t] ⟨λx _=>resK P l env H λxs=>K (x::xs)⟩:=(rfl)
end
theorem ZL{p:Prop}[Decidable p](h:p):true=decide p:=(Bv h).symm
theorem ZM{p:Prop}[Decidable p](h:¬p):false=decide p:=(By h).symm
theorem P6{p q:Prop}[Decidable p][Decidable q](h:p↔q):decide p=decide q:=Dv.2 h
theorem getD_map{α:Type}[Inhabited α](f:α->AV)(l:List α)(i:Nat):(l.map f).getD i .any=if i<l.length then f (l.getD i default) else .any:=by
 by_cases h:i<l.length<;>simp[List.getD,h]
def nth{α:Type}[Inhabited α](l:List α)(i:Nat):α:=l.getD i default
theorem z8i{α:Type}[Inhabited α](f:α->AV)(l:List α)(i:Nat)(h:i<l.length):(l.map f).getD i .any=f (nth l i):=by rw[getD_map,Ae h];rfl
theorem zfc{α:Type}(f:α->AV)(l:List α)(i:Nat):(l.map f).drop i=(l.drop i).map f:=List.map_drop.symm
theorem zfd{α:Type}(f:α->AV)(l:List α)(i:Nat):(l.map f).take i=(l.take i).map f:=List.map_take.symm
theorem CO{α:Type}{f:α->AV}(h:∀x,(f x).pure=true):∀l:List α,AJ (l.map f)=true
 |[]=>rfl
 |x::l=>by simp[AJ,h x,CO h l]
theorem C4(k:IntKind)(l:List Int):AJ (l.map (AV.int k))=true:=CO (λ_=>rfl) l
theorem z8j(k:IntKind)(l:List Int):AJ (l.map λx=>AV.int k x)=true:=CO (λ_=>rfl) l
theorem z8k(l:List Bool):AJ (l.map AV.bool)=true:=CO (λ_=>rfl) l
attribute [push_cast] z34 z35 z36 zm7 zf1 zf2 z43 z8e z44 zf3 z8f zf4 z8g Jm zf5 M3 zf7
attribute [push_cast] zrl K_clr zrk K_cap Q_cap zlt zlu z7y zep z7z zev zm2 zm3 zm4 zm5 zm6 zew zex zey zez K_mv zrd zlv K_box zlw zeq zer zes zlx zre zrf zrg K_add K_sub K_mul K_quo K_rem K_and K_or K_xor zet K_shl K_shr K_eql K_neq K_lss K_leq K_gtr K_geq zrh zri K_eqb K_eqs z80 z81 z82 K_not K_neg zrj zly zeu zlz z83 z84 zm0 z85 z86 z40 z41 zm1 z42 z87 z88 z89 z8a z8b z8c K_app K_max K_min z8d zf0 zrm Q_mv zrn zm8 zro z47 Q_bin Q_eqb Q_eqs Q_eqn Q_un zrp zm9 zma zmb zmc zf6 zmd z48 z8h Q_len Q_max Q_min zf8 zme zf9 zmf Q_bsl
attribute [push_cast] z21 z22 z23 z24 z25 z26 z27 zek
attribute [push_cast] Dp AV.cells AV.isAny GB AV.one LC eqL eq1 Hw Hv Ji Gk To optA List.replicate AJ AV.pure Ret zmg zfa zfb resV zfc zfd C4 z8j z8k
def pos:List Nat->Nat->Option Nat
 |[],_=>none
 |k::ks,g=>if g=k then some 0 else (pos ks g).map (·+1)
theorem OW:∀{ks:List Nat}{g j:Nat},pos ks g=some j->j<ks.length/\ks.getD j 0=g
 |[],g,j,h=>by simp[pos] at h
 |k::ks,g,j,h=>by
  rw[pos] at h;split at h
  ·rename_i hk;cases h;exact⟨oc,by simp[hk]⟩
  ·obtain⟨i,hi,rfl⟩:=Ag.1 h
   obtain⟨h1,h2⟩:=OW hi;exact⟨by simp;omega,by simpa using h2⟩
theorem T9:∀{ks:List Nat}{g:Nat},pos ks g=none->g∉ks
 |[],g,_=>by simp
 |k::ks,g,h=>by
  rw[pos] at h;split at h
  ·cases h
  ·rename_i hk
   have:=T9 (Option.map_eq_none_iff.1 h);simp[hk,this]
def frzL(w:Nat)(ys:List AV):AV:=bif AJ ys then .lst w ys else .any
def frzP(y:AV):AV:=bif y.pure then .cptr y else .any
def rnV(b:Nat)(H:A4)(ks:List Nat):Nat->AV->AV
 |0,x=>bif x.pure then x else .any
 |d+1,.ref g v off len=>if g<b then .ref g v off len else if v=(H.at_ g).ver then
  (match pos ks g with
   |some j=>.ref (b+j) 1 off len
   |none=>if 0<(H.at_ g).w/\off+len<=(H.at_ g).xs.length then frzL (H.at_ g).w ((((H.at_ g).xs.drop off).take len).map (rnV b H ks d)) else .any)
  else .any
 |d+1,.ptr g v i o=>if g<b then .ptr g v i o else if v=(H.at_ g).ver then
  (match pos ks g with
   |some j=>.ptr (b+j) 1 i o
   |none=>if o=0/\i<(H.at_ g).xs.length/\0<(H.at_ g).w then frzP (rnV b H ks d ((H.at_ g).xs.getD i .any)) else .any)
  else .any
 |_+1,.map g v=>if g<b then .map g v else if v=(H.at_ g).ver then (match pos ks g with|some j=>.map (b+j) 1|none=>.any) else .any
 |d+1,.agg cs=>.agg (cs.map (rnV b H ks d))
 |d+1,.tup cs=>.tup (cs.map (rnV b H ks d))
 |d+1,.fn f cs=>.fn f (cs.map (rnV b H ks d))
 |_+1,x=>x
def inv(b:Nat)(ks:List Nat)(j:Nat):Nat:=if j<b then j else ks.getD (j-b) 0
def MS.repack(S:MS)(b:Nat)(H:A4)(ks:List Nat):MS where
 w:=S.w
 im:=λc=>S.im c\/∃g,g<H.n/\b<=g/\g∉ks/\0<(H.at_ g).w/\0<S.cap g/\c=S.place g
 keep:=S.keep
 n:=b+ks.length
 place:=λj=>S.place (inv b ks j)
 cur:=λj=>if j<b then S.cur j else 1
 cap:=λj=>S.cap (inv b ks j)
 wid:=λj=>S.wid (inv b ks j)
 base:=S.base
def A4.repack(H:A4)(b:Nat)(ks:List Nat)(d:Nat):A4:=⟨b+ks.length,λj=>⟨(H.at_ (inv b ks j)).w,if j<b then (H.at_ j).ver else 1,(H.at_ (inv b ks j)).exact,(H.at_ (inv b ks j)).xs.map (rnV b H ks d)⟩⟩
section
variable {S:MS}{H:A4}{b:Nat}{ks:List Nat}
theorem Hh{j:Nat}(h:j<b):inv b ks j=j:=Ae h
theorem XQ{j:Nat}:inv b ks (b+j)=ks.getD j 0:=by
 have h1:b+j-b=j:=om
 have h2:¬b+j<b:=om
 rw[inv,Ad h2,h1]
theorem TA{x:AV}{v:Value}(hx:x.pure=true)(h:VRel S x v):VRel (S.repack b H ks) x v:=VRel.of_pure (S:=S) (S':=S.repack b H ks) rfl (λ_ hb=>.inl hb) hx h
theorem z49(hS:SRel S H):∀(d:Nat){x:AV}{v:Value},VRel S x v->VRel (S.repack b H ks) (rnV b H ks d x) v
 |0,x,v,h=>by
  rw[rnV];cases hp:x.pure
  ·trivial
  ·exact TA hp h
 |d+1,x,v,h=>by
  have keyL:∀{cs:List AV}{vs:List Value},AB S cs vs->AB (S.repack b H ks) (cs.map (rnV b H ks d)) vs:=by
   intro cs
   induction cs with
   |nil=>intro vs hh;exact hh
   |cons c cs ih =>
    intro vs hh;obtain⟨u,r,rfl,h1,h2⟩:=hh;exact⟨u,r,rfl,z49 hS d h1,ih h2⟩
  cases x with
  |ref g vn off len =>
   obtain⟨⟨a,c,rfl,ha⟩,hg,hvn,hcur⟩:=h;have hG:=hS.live_of hg;rw[rnV];split
   ·rename_i hgb
    refine⟨⟨a,c,rfl,ha⟩,by show g<b+_;omega,by show vn<=if g<b then _ else _;rw[Ae hgb];exact hvn,λhe=>?_⟩;have he':(if g<b then S.cur g else 1)=vn:=he;rw[Ae hgb] at he';show ∃a cap',_=Value.slice a len cap'/\((a=some ⟨S.place (inv b ks g),off * S.wid (inv b ks g),none⟩/\cap'=S.cap (inv b ks g)-off/\off+len<=S.cap (inv b ks g))\/(len=0/\cap'=0/\S.cap (inv b ks g)<=off));rw[Hh hgb];exact hcur he'
   ·split
    ·rename_i hver
     have hh:=hcur (by rw[hG.ver,hver]);split
     ·rename_i j hj
      obtain⟨h1,h2⟩:=OW hj;refine⟨⟨a,c,rfl,ha⟩,by show b+j<b+_;omega,by show 1<=if b+j<b then _ else 1;rw[Ad om];exact Ab 1,λ_=>?_⟩;show ∃a cap',_=Value.slice a len cap'/\((a=some ⟨S.place (inv b ks (b+j)),off * S.wid (inv b ks (b+j)),none⟩/\cap'=S.cap (inv b ks (b+j))-off/\off+len<=S.cap (inv b ks (b+j)))\/(len=0/\cap'=0/\S.cap (inv b ks (b+j))<=off));rw[XQ,h2];exact hh
     ·rename_i hb hj
      have hnk:=T9 hj;split
      ·rename_i hw
       obtain⟨hw,hol⟩:=hw;unfold frzL;cases hpu:AJ ((((H.at_ g).xs.drop off).take len).map (rnV b H ks d))
       ·trivial
       ·obtain⟨a',cap',hv,hcase⟩:=hh
        obtain⟨rfl,-,rfl⟩:a=a'/\len=len/\c=cap':=by cases hv;exact⟨rfl,rfl,rfl⟩
        have hl:((((H.at_ g).xs.drop off).take len).map (rnV b H ks d)).length=len:=by simp;omega
        show VRel _ (.lst _ _) _
        have hnone:a=none->c=0:=λhn=>by
         rcases hcase with⟨rfl,_⟩|⟨_,hh,_⟩
         ·cases hn
         ·exact hh
        by_cases hc0:S.cap g=0
        ·have hlen:=hG.len hw
         have hnil:((H.at_ g).xs.drop off).take len=[]:=Az (by simp;omega);simp only[hnil,AX] at hl ⊢;exact⟨rfl,hw,a,c,[],by rw[<-hl],⟨Ap _,hnone⟩,rfl,λhne=>absurd rfl hne⟩
        obtain⟨⟨cells,TT,us,hb2,hcs,hus,hfl⟩,_⟩:=hG.live hw om;refine⟨hpu,hw,a,c,_,by rw[hl],⟨?_,hnone⟩,keyL ((hus.drop off).take len),λhne=>?_⟩
        ·rw[hl];rcases hcase with⟨_,c2,c3⟩|⟨c1,c2,_⟩<;>omega
        ·rcases hcase with⟨rfl,_,_⟩|⟨c1,_,_⟩
         ·refine⟨_,_,rfl,.inr ⟨g,by rw[<-hS.n];exact hg,om,hnk,hw,om,rfl⟩,λj u hu=>?_⟩
          rw[Cq] at hu;split at hu
          ·rw[Cf] at hu
           have:=hfl.row hb2 (off+j) u hu;rw[AY,AS] at this;rw[hG.wid];exact this
          ·cases hu
         ·exact absurd (Az (by rw[hl];exact c1)) hne
      ·trivial
    ·trivial
  |ptr g vn i o =>
   obtain⟨⟨a,rfl⟩,hg,hvn,hcur⟩:=h;have hG:=hS.live_of hg;rw[rnV];split
   ·rename_i hgb
    refine⟨⟨a,rfl⟩,by show g<b+_;omega,by show vn<=if g<b then _ else _;rw[Ae hgb];exact hvn,λhe=>?_⟩;have he':(if g<b then S.cur g else 1)=vn:=he;rw[Ae hgb] at he';show _=Value.pointer (some ⟨S.place (inv b ks g),i * S.wid (inv b ks g)+o,none⟩);rw[Hh hgb];exact hcur he'
   ·split
    ·rename_i hver
     have hh:=hcur (by rw[hG.ver,hver]);split
     ·rename_i j hj
      obtain⟨h1,h2⟩:=OW hj;refine⟨⟨a,rfl⟩,by show b+j<b+_;omega,by show 1<=if b+j<b then _ else 1;rw[Ad om];exact Ab 1,λ_=>?_⟩;show _=Value.pointer (some ⟨S.place (inv b ks (b+j)),i * S.wid (inv b ks (b+j))+o,none⟩);rw[XQ,h2];exact hh
     ·rename_i hb hj
      have hnk:=T9 hj;split
      ·rename_i hc
       obtain⟨rfl,hi,hw⟩:=hc;unfold frzP;cases hpu:(rnV b H ks d ((H.at_ g).xs.getD i .any)).pure
       ·trivial
       ·show VRel _ (.cptr _) _
        obtain⟨u,hu,hl⟩:=hG.elem hw hi;have k1:=z49 hS d hu;refine⟨hpu,S.place g,i * (H.at_ g).w,u,?_,.inr ⟨g,by rw[<-hS.n];exact hg,om,hnk,hw,by have:=hG.len hw;omega,rfl⟩,k1,?_⟩
        ·rw[hh,hG.wid];rfl
        ·rw[hl.1];exact hl
      ·trivial
    ·trivial
  |agg cs=>obtain⟨vs,rfl,hr⟩:=h;exact⟨vs,rfl,keyL hr⟩
  |tup cs=>obtain⟨vs,rfl,hr⟩:=h;exact⟨vs,rfl,keyL hr⟩
  |fn f cs=>obtain⟨vs,rfl,hr⟩:=h;exact⟨vs,rfl,keyL hr⟩
  |full w xs=>exact TA h.1 h
  |map g vn =>
   obtain⟨⟨a,rfl⟩,hg,hvn,hcur⟩:=h;have hG:=hS.live_of hg;rw[rnV];split
   ·rename_i hgb
    refine⟨⟨a,rfl⟩,by show g<b+_;omega,by show vn<=if g<b then _ else _;rw[Ae hgb];exact hvn,λhe=>?_⟩;have he':(if g<b then S.cur g else 1)=vn:=he;rw[Ae hgb] at he';show _=Value.map (some (S.place (inv b ks g)));rw[Hh hgb];exact hcur he'
   ·split
    ·rename_i hver
     have hh:=hcur (by rw[hG.ver,hver]);split
     ·rename_i j hj
      obtain⟨h1,h2⟩:=OW hj;refine⟨⟨a,rfl⟩,by show b+j<b+_;omega,by show 1<=if b+j<b then _ else 1;rw[Ad om];exact Ab 1,λ_=>?_⟩;show _=Value.map (some (S.place (inv b ks (b+j))));rw[XQ,h2];exact hh
     ·trivial
    ·trivial
  |lst w xs=>exact TA h.1 h
  |cptr x=>exact TA h.1 h
  |any=>trivial
  |bool _=>exact h
  |int _ _=>exact h
  |str _=>exact h
  |nilS=>exact h
  |nul=>exact h
  |emp=>exact h
  |nilP=>exact h
  |nilF=>exact h
  |yld l=>exact h
theorem KV(hS:SRel S H)(hb:b<=S.n):BEvo b S (S.repack b H ks) where
 base:=rfl
 os:=rfl
 tape:=⟨rfl,Ab _⟩
 output:=rfl
 size:=Ab _
 kept _ _:=rfl
 im _ h:=.inl h
 keep _ h:=h
 fresh c hc:=by
  rcases hc with hc|⟨g,hg,_,_,hw,hcap,rfl⟩
  ·exact .inl hc
  ·exact .inr λhk=>((hS.grp g hg).live hw hcap).2 (.inr hk)
 n:=EM _ _
 cur g hg:=by show _<=if g<b then S.cur g else 1;rw[Ae hg];exact Ab _
 same g hg _:=by
  show S.place (inv b ks g)=_/\S.cap (inv b ks g)=_/\S.wid (inv b ks g)=_;rw[Hh hg];exact⟨rfl,rfl,rfl⟩
theorem Nr(d:Nat)(hS:SRel S H)(hb:b<=H.n)(hk:∀k∈ks,b<=k/\k<H.n)(hn:ks.Nodup):SRel (S.repack b H ks) (H.repack b ks d):=by
 have keyL:∀{cs:List AV}{vs:List Value},AB S cs vs->AB (S.repack b H ks) (cs.map (rnV b H ks d)) vs:=by
  intro cs
  induction cs with
  |nil=>intro vs hh;exact hh
  |cons c cs ih =>
   intro vs hh;obtain⟨u,r,rfl,h1,h2⟩:=hh;exact⟨u,r,rfl,z49 hS d h1,ih h2⟩
 have hinv:∀j,j<b+ks.length->inv b ks j<H.n/\(j<b\/b<=inv b ks j/\inv b ks j∈ks):=by
  intro j hj;by_cases hjb:j<b
  ·rw[Hh hjb];exact⟨om,.inl hjb⟩
  ·have h1:j-b<ks.length:=om
   have:inv b ks j=ks[j-b]:=by simp[inv,hjb,List.getD,Ar h1]
   rw[this];have:=hk _ (BM h1);exact⟨this.2,.inr ⟨this.1,BM h1⟩⟩
 refine⟨rfl,λj hj=>?_,λj j' hj hj' hne hw hw'=>?_,λc hc=>?_⟩
 ·obtain⟨h1,h2⟩:=hinv j hj
  have hG:=hS.grp _ h1
  have hni:(H.at_ (inv b ks j)).has (S.cap (inv b ks j))->¬((S.repack b H ks).im (S.place (inv b ks j))\/(S.repack b H ks).keep (S.place (inv b ks j))):=λhq=>by
   have a5:=hG.has_ni hq;rintro ((hi|⟨g,hg,hbg,hnk,hw',hc',he⟩)|hi)
   ·exact a5 (.inl hi)
   ·have hne:inv b ks j≠g:=by
     intro hh;rcases h2 with h2|h2
     ·rw[Hh h2] at hh;omega
     ·exact hnk (hh ▸ h2.2)
    exact hS.apart _ g h1 hg hne hq (.inl ⟨hw',hc'⟩) he
   ·exact a5 (.inr hi)
  refine⟨?_,hG.wid,λhw hc=>?_,λhw=>?_,λhw he=>?_,λhw he=>?_⟩
  ·show (if j<b then S.cur j else 1)=if j<b then (H.at_ j).ver else 1
   split
   ·rename_i hjb;rw[Hh hjb] at hG;exact hG.ver
   ·rfl
  ·obtain⟨⟨cells,TT,us,a1,a2,a3,a4⟩,a5⟩:=hG.live hw hc
   exact⟨⟨cells,TT,us,a1,a2,keyL a3,a4⟩,hni (.inl ⟨hw,hc⟩)⟩
  ·show ((H.at_ (inv b ks j)).xs.map _).length<=_;rw[Au];exact hG.len hw
  ·show ((H.at_ (inv b ks j)).xs.map _).length=_;rw[Au];exact hG.full hw he
  ·obtain⟨⟨o,a1,a0,a2⟩,a5⟩:=hG.mlive hw he
   exact⟨⟨o,a1,a0,keyL a2⟩,hni (.inr ⟨hw,he⟩)⟩
 ·obtain⟨h1,h2⟩:=hinv j hj
  obtain⟨h1',h2'⟩:=hinv j' hj';refine hS.apart _ _ h1 h1' ?_ hw hw';intro hh;rcases h2 with h2|⟨h2,h3⟩<;>rcases h2' with h2'|⟨h2',h3'⟩
  ·rw[Hh h2,Hh h2'] at hh;exact hne hh
  ·rw[Hh h2] at hh;omega
  ·rw[Hh h2'] at hh;omega
  ·have hjb:¬j<b:=λh=>by rw[Hh h] at h2;omega
   have hjb':¬j'<b:=λh=>by rw[Hh h] at h2';omega
   have e1:j-b<ks.length:=by have:j<b+ks.length:=hj;omega
   have e2:j'-b<ks.length:=by have:j'<b+ks.length:=hj';omega
   have f1:inv b ks j=ks[j-b]:=by simp[inv,hjb,List.getD,Ar e1]
   have f2:inv b ks j'=ks[j'-b]:=by simp[inv,hjb',List.getD,Ar e2]
   rw[f1,f2] at hh;have:=(List.getElem_inj hn).1 hh;omega
 ·rcases hc with (hc|⟨g,hg,_,_,hw,hcap,rfl⟩)|hc
  ·exact hS.im c (.inl hc)
  ·exact (hS.grp g hg).lt hw hcap
  ·exact hS.im c (.inr hc)
theorem zfe{P:Program}{n:Nat}{c:AC}{env:Env}{Q:Ex->Env->A4->Prop}(ks:List Nat)(d:Nat)(hb:b<=H.n)(hk:∀k∈ks,b<=k/\k<H.n)(hn:ks.Nodup)
 (h:T P n b c (λi=>rnV b H ks d (env i)) (H.repack b ks d) Q):T P n b c env H Q:=by
 intro rd mm hrd code hc S a hbS hS hF;have hev:=KV (ks:=ks) hS hbS;refine wpIn_mono (h rd mm hrd code hc (S.repack b H ks) a (EM _ _) (Nr d hS hb hk hn) ⟨hF.size,hF.defers.of hev.base hev.size hev.keep hev.fresh (λb hb=>hev.kept b (.inr hb)),λj hj=>z49 hS d (hF.val j hj)⟩) λe a w hh=>hh.trans (KV hS hbS)
end
theorem P7:A4.nil=hl []:=by
 simp[A4.nil,hl]
theorem hl_n(l:List Grp):(hl l).n=l.length:=rfl
theorem SRel.congr{S:MS}{H H':A4}(hn:H'.n=H.n)(h:∀g,g<H.n->H'.at_ g=H.at_ g)(hS:SRel S H):SRel S H' :=
 ⟨hS.n.trans hn.symm,λg hg=>by rw[h g om];exact hS.grp g om,λg g' hg hg' hne hw hw'=>by
  rw[h g om] at hw;rw[h g' om] at hw'
  exact hS.apart g g' om om hne hw hw',hS.im⟩
theorem B9.congr{P:Program}{f:Nat}{xs:List AV}{H H':A4}{K:AV->A4->Prop}(hn:H'.n=H.n)(h:∀g,g<H.n->H'.at_ g=H.at_ g)(k:B9 P f xs H' K):B9 P f xs H K :=
 ⟨k.1,λS cargs hS hx=>k.2 S cargs (hS.congr hn h) hx⟩
def A4.groups(H:A4):List Grp:=(List.range H.n).map H.at_
theorem Vu(l:List Grp):(hl l).groups=l:=by
 refine BL (by simp[A4.groups,hl]) λi h1 h2=>?_;simp[A4.groups,hl,h2]
def Ec:Nat->List Nat->List Grp->List Grp
 |_,_,[]=>[]
 |i,ks,G::l=>(if i∈ks then G.dead else G)::Ec (i+1) ks l
theorem Gm:∀(i:Nat)(ks:List Nat)(l:List Grp),(Ec i ks l).length=l.length
 |_,_,[]=>rfl
 |i,ks,G::l=>by simp[Ec,Gm (i+1) ks l]
theorem IL:∀(i:Nat)(ks:List Nat)(l:List Grp)(g:Nat),g<l.length->(Ec i ks l).getD g default=if i+g∈ks then (l.getD g default).dead else l.getD g default
 |_,_,[],g,h=>by simp at h
 |i,ks,G::l,0,h=>by simp[Ec]
 |i,ks,G::l,g+1,h=>by
  have:=IL (i+1) ks l g (by simpa using h);have e:i+1+g=i+(g+1):=om
  rw[e] at this;simpa [Ec] using this
theorem RO{P:Program}{f:Nat}{xs:List AV}{l:List Grp}{K:AV->A4->Prop}(d:Nat)(ks:List Nat)(hok:∀x∈xs,DX d ((hl l).only ks) x)(h:B9 P f (xs.map (frzV d ((hl l).only ks))) (hl (Ec 0 ks l)) K):B9 P f xs (hl l) K:=by
 refine T7 d ks hok (B9.congr (H':=hl (Ec 0 ks l)) (by simp[hl,A4.kill,Gm]) (λg hg=>?_) h);show (Ec 0 ks l).getD g default=if g∈ks then (l.getD g default).dead else l.getD g default
 rw[IL 0 ks l g hg,AY]
theorem LO(H:A4)(ks:List Nat)(g:Nat):(H.only ks).at_ g=if g∈ks then H.at_ g else (H.at_ g).dead:=(rfl)
def leH(H:A4)(x y:AV):Prop:=∀S v,SRel S H->VRel S x v->VRel S y v
section
variable {H:A4}
theorem z8l{l:List Grp}{g v len:Nat}(hv:(l.getD g default).ver=v)(hw:0<(l.getD g default).w)(hx:(l.getD g default).xs=[])(he:(l.getD g default).exact=true)(hg:g<l.length)(h0:len=0):leH (hl l) .nilS (.ref g v 0 len):=λS u hS hu=>by
 subst h0;have hG:=hS.grp g hg;rw[Da] at hG;have hf:=hG.full hw he;rw[hx] at hf;have hc:S.cap g=0:=hf.symm;have hu':u=.slice none 0 0:=hu;subst hu';exact⟨⟨none,0,rfl,λ_=>rfl⟩,by rw[hS.n];exact hg,by rw[hG.ver,hv];exact Ab _,λ_=>⟨none,0,rfl,.inr ⟨rfl,rfl,by rw[hc];exact Ab _⟩⟩⟩
end
mutual
def leS(l:List Grp):AV->AV->Prop
 |.int k a,y=>(match y with|.int k' b=>k=k'/\a=b|.any=>True|_=>False)
 |.bool a,y=>(match y with|.bool b=>a=b|.any=>True|_=>False)
 |.nilS,y=>(match y with
  |.nilS|.any=>True
  |.lst w ys=>0<w/\ys=[]
  |.ref g v off len=>off=0/\len=0/\(l.getD g default).ver=v/\0<(l.getD g default).w/\(l.getD g default).xs=[]/\(l.getD g default).exact=true/\g<l.length
  |_=>False)
 |.nul,y=>(match y with|.nul|.any=>True|.lst w ys=>0<w/\ys=[]|_=>False)
 |.emp,y=>(match y with|.emp|.any=>True|.lst w ys=>0<w/\ys=[]|_=>False)
 |.lst w xs,y=>(match y with|.lst w' ys=>w=w'/\xs=ys|.any=>True|_=>False)
 |.full w xs,y=>(match y with|.full w' ys=>w=w'/\xs=ys|.lst w' ys=>w=w'/\leSL l xs ys/\AJ ys=true|.any=>True|_=>False)
 |.ref g v o n,y=>(match y with|.ref g' v' o' n'=>g=g'/\v=v'/\o=o'/\n=n'|.any=>True|_=>False)
 |.ptr g v o n,y=>(match y with|.ptr g' v' o' n'=>g=g'/\v=v'/\o=o'/\n=n'|.any=>True|_=>False)
 |.agg xs,y=>(match y with|.agg ys=>leSL l xs ys|.any=>True|_=>False)
 |.tup xs,y=>(match y with|.tup ys=>leSL l xs ys|.any=>True|_=>False)
 |x,y=>(match y with|.any=>True|y=>x=y)
def leSL(l:List Grp):List AV->List AV->Prop
 |[],ys=>ys=[]
 |x::xs,ys=>(match ys with|y::ys=>leS l x y/\leSL l xs ys|[]=>False)
end
mutual
theorem Vv{S:MS}{l:List Grp}(hS:SRel S (hl l)\/l=[]):∀(x:AV){y:AV}{v:Value},leS l x y->VRel S x v->VRel S y v
 |.any,y,v,h,hv=>by cases y<;>simp only[leS,reduceCtorEq] at h;trivial
 |.int k a,y,v,h,hv=>by
  cases y<;>simp only[leS] at h
  ·trivial
  ·obtain⟨rfl,rfl⟩:=h;exact hv
 |.bool a,y,v,h,hv=>by
  cases y<;>simp only[leS] at h
  ·trivial
  ·subst h;exact hv
 |.str s,y,v,h,hv=>by cases y<;>simp only[leS] at h<;>first|trivial|(cases h;done)|(cases h;exact hv)
 |.nilP,y,v,h,hv=>by cases y<;>simp only[leS] at h<;>first|trivial|(cases h;done)|exact hv
 |.nilF,y,v,h,hv=>by cases y<;>simp only[leS] at h<;>first|trivial|(cases h;done)|exact hv
 |.yld l,y,v,h,hv=>by cases y<;>simp only[leS] at h<;>first|trivial|(cases h;done)|(cases h;exact hv)
 |.cptr x,y,v,h,hv=>by cases y<;>simp only[leS] at h<;>first|trivial|(cases h;done)|(cases h;exact hv)
 |.fn f xs,y,v,h,hv=>by cases y<;>simp only[leS] at h<;>first|trivial|(cases h;done)|(cases h;exact hv)
 |.nilS,y,v,h,hv=>by
  cases y<;>simp only[leS] at h
  ·trivial
  ·exact hv
  ·obtain⟨h1,rfl⟩:=h;exact AV.le_nilS h1 S v hv
  ·obtain⟨rfl,rfl,h1,h2,h3,h4,h5⟩:=h
   rcases hS with hS|rfl
   ·exact z8l h1 h2 h3 h4 h5 rfl S v hS hv
   ·exact absurd h5 (AZ _)
 |.nul,y,v,h,hv=>by
  cases y<;>simp only[leS] at h
  ·trivial
  ·exact hv
  ·obtain⟨h1,rfl⟩:=h;exact AV.le_nul h1 S v hv
 |.emp,y,v,h,hv=>by
  cases y<;>simp only[leS] at h
  ·trivial
  ·exact hv
  ·obtain⟨h1,rfl⟩:=h;exact AV.le_emp h1 S v hv
 |.lst w xs,y,v,h,hv=>by
  cases y<;>simp only[leS] at h
  ·trivial
  ·obtain⟨rfl,rfl⟩:=h;exact hv
 |.full w xs,y,v,h,hv=>by
  cases y<;>simp only[leS] at h
  ·trivial
  ·rename_i w' ys
   obtain⟨rfl,h1,hp⟩:=h;obtain⟨_,h0,a,cap,vs,hv,hc,hl,hr⟩:=Mp hv;have hn:=AB.length hl;have hm:=Kp hS xs h1 hl;have hln:ys.length=xs.length:=by rw[<-AB.length hm,hn]
   exact⟨hp,h0,a,cap,vs,by rw[hln];exact hv,by rw[hln];exact hc,hm,λhne=>hr λh=>hne (by rw[h] at hln;exact List.length_eq_zero_iff.1 hln)⟩
  ·obtain⟨rfl,rfl⟩:=h;exact hv
 |.map g a,y,v,h,hv=>by cases y<;>simp only[leS] at h<;>first|trivial|(cases h;done)|(cases h;exact hv)
 |.ref g a o n,y,v,h,hv=>by
  cases y<;>simp only[leS] at h
  ·trivial
  ·obtain⟨rfl,rfl,rfl,rfl⟩:=h;exact hv
 |.ptr g a o n,y,v,h,hv=>by
  cases y<;>simp only[leS] at h
  ·trivial
  ·obtain⟨rfl,rfl,rfl,rfl⟩:=h;exact hv
 |.agg xs,y,v,h,hv=>by
  cases y<;>simp only[leS] at h
  ·trivial
  ·obtain⟨vs,rfl,hr⟩:=hv;exact⟨vs,rfl,Kp hS xs h hr⟩
 |.tup xs,y,v,h,hv=>by
  cases y<;>simp only[leS] at h
  ·trivial
  ·obtain⟨vs,rfl,hr⟩:=hv;exact⟨vs,rfl,Kp hS xs h hr⟩
theorem Kp{S:MS}{l:List Grp}(hS:SRel S (hl l)\/l=[]):∀(xs:List AV){ys:List AV}{vs:List Value},leSL l xs ys->AB S xs vs->AB S ys vs
 |[],ys,vs,h,hv=>by rw[show ys=[] from h];exact hv
 |x::xs,[],vs,h,hv=>h.elim
 |x::xs,y::ys,vs,h,hv=>by
  obtain⟨v,r,rfl,h1,h2⟩:=hv;exact⟨v,r,rfl,Vv hS x h.1 h1,Kp hS xs h.2 h2⟩
end
theorem ZN{l:List Grp}:∀{xs ys:List AV},leSL l xs ys->ys.length=xs.length
 |[],ys,h=>by rw[show ys=[] from h]
 |_::_,[],h=>h.elim
 |_::_,_::_,h=>by simp[ZN h.2]
mutual
theorem Bn(l:List Grp):∀x:AV,leS l x x
 |.any=>trivial
 |.int _ _=>⟨rfl,rfl⟩
 |.bool _=>rfl
 |.str _=>rfl
 |.nilS=>trivial
 |.nul=>trivial
 |.emp=>trivial
 |.lst _ _=>⟨rfl,rfl⟩
 |.full _ _=>⟨rfl,rfl⟩
 |.map _ _=>rfl
 |.ref ..=>⟨rfl,rfl,rfl,rfl⟩
 |.ptr ..=>⟨rfl,rfl,rfl,rfl⟩
 |.cptr _=>rfl
 |.nilP=>rfl
 |.nilF=>rfl
 |.yld _=>rfl
 |.fn ..=>rfl
 |.agg xs=>AN l xs
 |.tup xs=>AN l xs
theorem AN(l:List Grp):∀xs:List AV,leSL l xs xs
 |[]=>rfl
 |x::xs=>⟨Bn l x,AN l xs⟩
end
theorem z8m{x y:AV}(h:leS [] x y):AV.le x y:=λS v hv=>Vv (.inr rfl) x h hv
theorem LP{xs ys:List AV}(h:leSL [] xs ys):leL xs ys:=λS v hv=>Kp (.inr rfl) xs h hv
def z4a(l:List Grp)(G G':Grp):Prop:=G.w=G'.w/\G.ver=G'.ver/\(G'.exact=true->G.exact=true)/\leSL l G.xs G'.xs
def IM(l0:List Grp):List Grp->List Grp->Prop
 |[],[]=>True
 |G::l,G'::l'=>z4a l0 G G'/\IM l0 l l'
 |_,_=>False
theorem Ns{l0:List Grp}:∀{l l':List Grp},IM l0 l l'->l'.length=l.length
 |[],[],_=>rfl
 |G::l,G'::l',h=>by simp[Ns h.2]
 |[],_::_,h=>h.elim
 |_::_,[],h=>h.elim
theorem P8{l0:List Grp}:∀{l l':List Grp},IM l0 l l'->∀g,g<l.length->z4a l0 (l.getD g default) (l'.getD g default)
 |[],[],_,g,hg=>by simp at hg
 |G::l,G'::l',h,0,_=>h.1
 |G::l,G'::l',h,g+1,hg=>by simpa using P8 h.2 g (by simpa using hg)
 |[],_::_,h,_,_=>h.elim
 |_::_,[],h,_,_=>h.elim
theorem Jn{S:MS}{l l':List Grp}(hS:SRel S (hl l))(h:IM l l l'):SRel S (hl l'):=by
 have hlen:=Ns h;refine⟨hS.n.trans hlen.symm,λg hg=>?_,λg g' hg hg' hne hw hw'=>?_,hS.im⟩
 ·have hg':g<l.length:=by rw[<-hlen];exact hg
  obtain⟨h1,h2,h3,h5⟩:=P8 h g hg';have h4:(l.getD g default).xs.length=(l'.getD g default).xs.length:=(ZN h5).symm;have hG:=hS.grp g hg';rw[Da] at hG ⊢;refine⟨by rw[<-h2];exact hG.ver,by rw[<-h1];exact hG.wid,λhw hc=>?_,λhw=>by rw[<-h4];exact hG.len (by rw[h1];exact hw),λhw he=>by rw[<-h4];exact hG.full (by rw[h1];exact hw) (h3 he),λhw he=>?_⟩
  rotate_left
  ·obtain⟨⟨o,a1,a0,a2⟩,a5⟩:=hG.mlive (by rw[h1];exact hw) (h3 he)
   exact⟨⟨o,a1,a0,Kp (.inl hS) _ h5 a2⟩,a5⟩
  obtain⟨⟨cells,TT,us,a1,a2,a3,a4⟩,a5⟩:=hG.live (by rw[h1];exact hw) hc;exact⟨⟨cells,TT,us,a1,by rw[<-h1];exact a2,Kp (.inl hS) _ h5 a3,by rw[<-h1];exact a4⟩,a5⟩
 ·have hg1:g<l.length:=by rw[<-hlen];exact hg
  have hg1':g'<l.length:=by rw[<-hlen];exact hg'
  have key:∀g,g<l.length->((hl l').at_ g).has (S.cap g)->((hl l).at_ g).has (S.cap g):=λg hg hh=>by
   obtain⟨k1,_,k3,_⟩:=P8 h g hg;rw[Da] at hh ⊢;rcases hh with⟨q1,q2⟩|⟨q1,q2⟩
   ·exact .inl ⟨by rw[k1];exact q1,q2⟩
   ·exact .inr ⟨by rw[k1];exact q1,k3 q2⟩
  exact hS.apart g g' hg1 hg1' hne (key g hg1 hw) (key g' hg1' hw')
inductive Src where
 |grp (g:Nat)
 |virt (w:Nat)
def D4(w:Nat):AV->Src
 |.ref g _ _ _=>.grp g
 |.ptr g _ _ _=>.grp g
 |.map g _=>.grp g
 |_=>.virt w
def cellAt(H:A4)(x:AV)(k:Nat):AV:=match x with
 |.ptr g _ i _=>((H.at_ g).xs.getD i .any).cells.getD k .any
 |_=>.any
def GM:Nat->List Src->List Nat × List Nat
 |_,[]=>([],[])
 |N,.grp g::r=>(g::(GM N r).1,(GM N r).2)
 |N,.virt w::r=>(N::(GM (N+1) r).1,w::(GM (N+1) r).2)
def Jo(w:Nat):Grp:=⟨w,1,true,[]⟩
def BO:List (Nat × AV)->Env
 |[],_=>.any
 |(t,x)::l,j=>if j=t then x else BO l j
def NY(l2:List Grp)(H1:A4)(b:Nat)(ks:List Nat)(env:Env):List (Nat × AV)->Prop
 |[]=>True
 |(t,y)::r=>leS l2 (rnV b H1 ks 6 (env t)) y/\NY l2 H1 b ks env r
def allB(b n:Nat):List Nat->Prop
 |[]=>True
 |k::r=>b<=k/\k<n/\allB b n r
def XR:List Nat->Prop
 |[]=>True
 |k::r=>k∉r/\XR r
def rnG(b:Nat)(H:A4)(ks:List Nat)(v:Nat)(G:Grp):Grp:=⟨G.w,v,G.exact,G.xs.map (rnV b H ks 6)⟩
def FV(b:Nat)(H:A4)(ks:List Nat):List Grp->List Grp
 |[]=>[]
 |G::l=>rnG b H ks G.ver G::FV b H ks l
def Gn(b:Nat)(H:A4)(ks:List Nat)(l:List Grp):List Nat->List Grp
 |[]=>[]
 |k::r=>rnG b H ks 1 (l.getD k default)::Gn b H ks l r
def zmh(b:Nat)(env:Env)(l1 l2:List Grp)(ks:List Nat)(live:List (Nat × AV))(heap:List Grp):Prop:=NY l2 (hl l1) b ks env live/\IM l2 l2 heap
def zmi(b:Nat)(env:Env)(l1:List Grp)(ks:List Nat)(live:List (Nat × AV))(heap:List Grp):Prop :=
 allB b l1.length ks/\XR ks/\zmh b env l1 (FV b (hl l1) ks (l1.take b)++Gn b (hl l1) ks l1 ks) ks live heap
def P9:List Nat->Prop
 |[]=>True
 |w::r=>0<w/\P9 r
theorem KW:∀{ws:List Nat},P9 ws->∀w∈ws,0<w
 |[],_,w,hw=>by simp at hw
 |k::r,h,w,hw=>by
  rcases Af.1 hw with rfl|hw
  ·exact h.1
  ·exact KW h.2 w hw
def zmj(b:Nat)(env:Env)(l:List Grp)(p:List Nat × List Nat)(live:List (Nat × AV))(heap:List Grp):Prop:=P9 p.2/\zmi b env (l++p.2.map Jo) p.1 live heap
def Head(b:Nat)(env:Env)(H:A4)(srcs:List Src)(live:List (Nat × AV))(heap:List Grp):Prop:=b<=H.n/\zmj b env H.groups (GM H.n srcs) live heap
section
variable {P:Program}{n b:Nat}{env:Env}{H:A4}{Q:Ex->Env->A4->Prop}
theorem zmk{l:List Grp}{srcs:List Src}{live:List (Nat × AV)}{heap:List Grp}:Head b env (hl l) srcs live heap=(b<=l.length/\zmj b env l (GM l.length srcs) live heap):=by
 rw[Head,Vu,hl_n]
theorem zml{c:AC}(w:Nat)(hw0:0<w)(h:T P n b c env (H.push ⟨w,1,true,[]⟩) Q):T P n b c env H Q:=by
 intro rd mm hrd code hc S a hb hS hF;exact wpIn_mono (h rd mm hrd code hc (S.virt w) a (Nat.le_succ_of_le hb) (hS.virt w hw0) ⟨hF.size,hF.defers.mono (Evo.virt _),λj hj=>VRel.mono (Evo.virt _) _ (hF.val j hj)⟩) λe a w hh=>hh.trans ((Evo.virt _).down hb)
theorem TB{c:AC}:∀(ws:List Nat){l:List Grp},(∀w∈ws,0<w)->T P n b c env (hl (l++ws.map Jo)) Q->T P n b c env (hl l) Q
 |[],l,_,h=>by simpa using h
 |w::ws,l,hw,h=>zml w (hw w oc) (by rw[Gl];exact TB ws (λw' h'=>hw w' (by simp[h'])) (by simpa [Jo] using h))
theorem z8n{c:AC}{H':A4}(hn:H'.n=H.n)(h:∀g,g<H.n->H'.at_ g=H.at_ g)(k:T P n b c env H' Q):T P n b c env H Q :=
 λrd mm hrd code hc S a hb hS hF=>k rd mm hrd code hc S a hb (hS.congr hn h) hF
theorem OX{m:Nat}:∀{ks:List Nat},allB b m ks->∀k∈ks,b<=k/\k<m
 |[],_,k,hk=>by simp at hk
 |k::r,h,j,hj=>by
  rcases Af.1 hj with rfl|hj
  ·exact⟨h.1,h.2.1⟩
  ·exact OX h.2.2 j hj
theorem JL:∀{ks:List Nat},XR ks->ks.Nodup
 |[],_=>Cm
 |k::r,h=>Cc.2 ⟨h.1,JL h.2⟩
theorem PD{H:A4}{ks:List Nat}:∀{l:List Grp},(FV b H ks l).length=l.length
 |[]=>rfl
 |G::l=>by simp[FV,PD]
theorem RP{H:A4}{ks:List Nat}:∀{l:List Grp}{g:Nat},g<l.length->(FV b H ks l).getD g default=rnG b H ks (l.getD g default).ver (l.getD g default)
 |[],g,h=>by simp at h
 |G::l,0,_=>rfl
 |G::l,g+1,h=>by simpa [FV] using RP (l:=l) (g:=g) (by simpa using h)
theorem PE{H:A4}{ks:List Nat}{l:List Grp}:∀{r:List Nat},(Gn b H ks l r).length=r.length
 |[]=>rfl
 |k::r=>by simp[Gn,PE]
theorem RQ{H:A4}{ks:List Nat}{l:List Grp}:∀{r:List Nat}{j:Nat},j<r.length->(Gn b H ks l r).getD j default=rnG b H ks 1 (l.getD (r.getD j 0) default)
 |[],j,h=>by simp at h
 |k::r,0,_=>rfl
 |k::r,j+1,h=>by simpa [Gn] using RQ (r:=r) (j:=j) (by simpa using h)
theorem PF{l1:List Grp}{ks:List Nat}(hb:b<=l1.length):((hl (FV b (hl l1) ks (l1.take b)++Gn b (hl l1) ks l1 ks)).n=((hl l1).repack b ks 6).n) /\
 ∀g,g<((hl l1).repack b ks 6).n->(hl (FV b (hl l1) ks (l1.take b)++Gn b (hl l1) ks l1 ks)).at_ g=((hl l1).repack b ks 6).at_ g:=by
 have hO:(FV b (hl l1) ks (l1.take b)).length=b:=by rw[PD,Bb];omega
 refine⟨?_,λg hg=>?_⟩
 ·show (FV b (hl l1) ks (l1.take b)++Gn b (hl l1) ks l1 ks).length=b+ks.length
  rw[Ai,hO,PE]
 ·have hg':g<b+ks.length:=hg
  rw[Da];show _=(⟨_,if g<b then (l1.getD g default).ver else 1,_,_⟩:Grp);by_cases hgb:g<b
  ·rw[Ae hgb,Hh hgb]
   have e:(FV b (hl l1) ks (l1.take b)++Gn b (hl l1) ks l1 ks).getD g default=(FV b (hl l1) ks (l1.take b)).getD g default:=by
    simp[List.getD,A9 (show g<(FV b (hl l1) ks (l1.take b)).length by omega)]
   have e2:(l1.take b).getD g default=l1.getD g default:=by
    simp[List.getD,hgb]
   rw[e,RP (by simp;omega),e2];rfl
  ·rw[Ad hgb]
   have e:(FV b (hl l1) ks (l1.take b)++Gn b (hl l1) ks l1 ks).getD g default=(Gn b (hl l1) ks l1 ks).getD (g-b) default:=by
    have:=AG (l₁:=FV b (hl l1) ks (l1.take b)) (l₂:=Gn b (hl l1) ks l1 ks) (i:=g) om;rw[hO] at this;simp[List.getD,this]
   rw[e,RQ om];have e3:inv b ks g=ks.getD (g-b) 0:=by rw[inv,Ad hgb]
   rw[e3];rfl
theorem PG{S:MS}{l2:List Grp}{H1:A4}{ks:List Nat}{a:Act}(hS:SRel S (hl l2))(hF:FRel S n (λi=>rnV b H1 ks 6 (env i)) a):∀{live:List (Nat × AV)},NY l2 H1 b ks env live->∀i,i<n->VRel S (BO live i) (a.tmps.getD i undef)
 |[],_,i,_=>trivial
 |(t,y)::r,h,i,hi=>by
  show VRel S (if i=t then y else BO r i) _;split
  ·rename_i hit
   subst hit;exact Vv (.inl hS) _ h.1 (hF.val i hi)
  ·exact PG hS hF h.2 i hi
theorem PH{c:AC}{srcs:List Src}{live:List (Nat × AV)}{heap:List Grp}(hh:Head b env H srcs live heap)(h:T P n b c (BO live) (hl heap) Q):T P n b c env H Q:=by
 obtain⟨hb,hh⟩:=hh;have hgn:H.groups.length=H.n:=by simp[A4.groups]
 refine z8n (H':=hl H.groups) hgn (λg hg=>?_) ?_
 ·show H.groups.getD g default=_
  simp[A4.groups,List.getD,hg]
 refine TB (GM H.n srcs).2 (KW hh.1) ?_;replace hh:=hh.2;generalize hl1:H.groups++(GM H.n srcs).2.map Jo=l1;simp only[hl1] at hh;obtain⟨h1,h2,h3,h4⟩:=hh;have hb1:b<=l1.length:=by rw[<-hl1,Ai];omega
 refine zfe (GM H.n srcs).1 6 hb1 (λk hk=>OX h1 k hk) (JL h2) ?_;obtain⟨e1,e2⟩:=PF (ks:=(GM H.n srcs).1) hb1;refine z8n e1 e2 ?_;intro rd mm hrd code hc S a hbS hS hF;have hlen:=Ns h4;exact h rd mm hrd code hc S a hbS (Jn hS h4) ⟨hF.size,hF.defers,PG hS hF h3⟩
theorem B7{σ:Type}(Fact:σ->Prop)(μ:σ->Nat)(live:σ->List (Nat × AV))(heap:σ->List Grp)(srcs:Env->A4->List Src){c:AC}(s0:σ)(h0:Fact s0)(he:Head b env H (srcs env H) (live s0) (heap s0))
 (round:∀s,Fact s->T P n b c (BO (live s)) (hl (heap s)) (Ex.then (λenv' H'=>∃s',Head b env' H' (srcs env' H') (live s') (heap s')/\Fact s'/\μ s'<μ s) Q)):T P n b (.loop c) env H Q:=by
 refine zjv (λs env H=>Fact s/\Head b env H (srcs env H) (live s) (heap s)) μ s0 ⟨h0,he⟩ λs env H hI=>?_;refine PH hI.2 (T.mono (round s hI.1) λx env' H' hh=>?_);cases x with
 |normal=>obtain⟨s',k1,k2,k3⟩:=hh;exact⟨s',⟨k2,k1⟩,k3⟩
 |exit id=>exact hh
 |ret=>exact hh
end
def hset(l:List Grp)(g:Nat)(G:Grp):A4:=(hl l).set g G
def setQ:List Grp->Nat->Grp->Option (List Grp)
 |[],_,_=>none
 |_::l,0,G=>some (G::l)
 |K::l,g+1,G=>(setQ l g G).map (K::·)
theorem Vw:∀{l:List Grp}{g:Nat}{G:Grp}{l':List Grp},setQ l g G=some l'->g<l.length/\l'=l.set g G
 |[],_,_,_,h=>by cases h
 |_::l,0,G,_,h=>by cases h;exact⟨oc,rfl⟩
 |K::l,g+1,G,l',h=>by
  obtain⟨r,hr,rfl⟩:=Ag.1 h;obtain⟨h1,rfl⟩:=Vw hr;exact⟨by simpa using h1,rfl⟩
theorem zmm(l:List Grp)(g:Nat)(G:Grp):(hl l).set g G=(match setQ l g G with|some l'=>hl l'|none=>hset l g G):=by
 cases h:setQ l g G with
 |none=>rfl
 |some l'=>obtain⟨h1,rfl⟩:=Vw h;exact IJ l g G h1
theorem z8o(K:Grp)(l:List Grp)(G:Grp):setQ (K::l) 0 G=some (G::l):=rfl
theorem z8p(K:Grp)(l:List Grp)(g:Nat)(G:Grp):setQ (K::l) (g+1) G=(setQ l g G).map (K::·):=rfl
theorem zmn(g:Nat):pos [] g=none:=rfl
theorem zff(k:Nat)(ks:List Nat)(g:Nat):pos (k::ks) g=if g=k then some 0 else (pos ks g).map (·+1):=rfl
section
variable {b d:Nat}{H:A4}{ks:List Nat}
def rnL(b:Nat)(H:A4)(ks:List Nat)(d:Nat)(xs:List AV):List AV:=xs.map (rnV b H ks d)
theorem zrq(xs:List AV):xs.map (rnV b H ks (d+1))=bif AJ xs then xs else rnL b H ks (d+1) xs:=by
 cases h:AJ xs
 ·rfl
 ·have key:∀(d:Nat){x:AV},x.pure=true->rnV b H ks d x=x:=by
   intro d
   induction d with
   |zero=>intro x hx;simp[rnV,hx]
   |succ d ih =>
    intro x hx
    have kl:∀cs:List AV,AJ cs=true->cs.map (rnV b H ks d)=cs:=λcs hc=>by
     have:cs.map (rnV b H ks d)=cs.map id:=A6 λy hy=>ih (Bz.1 hc y hy);simpa using this
    cases x with
    |ref=>simp[AV.pure] at hx
    |ptr=>simp[AV.pure] at hx
    |map=>simp[AV.pure] at hx
    |agg cs=>rw[rnV,kl cs (by simpa [AV.pure] using hx)]
    |tup cs=>rw[rnV,kl cs (by simpa [AV.pure] using hx)]
    |fn f cs=>rw[rnV,kl cs (by simpa [AV.pure] using hx)]
    |_=>rfl
  have:xs.map (rnV b H ks (d+1))=xs.map id:=A6 λy hy=>key _ (Bz.1 h y hy);simpa using this
theorem zmo:rnL b H ks d []=[]:=rfl
theorem zfg(x:AV)(xs:List AV):rnL b H ks d (x::xs)=rnV b H ks d x::rnL b H ks d xs:=rfl
theorem zrr(g v off len:Nat):rnV b H ks (d+1) (.ref g v off len)=if g<b then .ref g v off len else if v=(H.at_ g).ver then
 (match pos ks g with
  |some j=>.ref (b+j) 1 off len
  |none=>if 0<(H.at_ g).w/\off+len<=(H.at_ g).xs.length then frzL (H.at_ g).w ((((H.at_ g).xs.drop off).take len).map (rnV b H ks d)) else .any)
 else .any:=rfl
theorem zrs(g v i o:Nat):rnV b H ks (d+1) (.ptr g v i o)=if g<b then .ptr g v i o else if v=(H.at_ g).ver then
 (match pos ks g with
  |some j=>.ptr (b+j) 1 i o
  |none=>if o=0/\i<(H.at_ g).xs.length/\0<(H.at_ g).w then frzP (rnV b H ks d ((H.at_ g).xs.getD i .any)) else .any)
 else .any:=rfl
theorem zrt(cs:List AV):rnV b H ks (d+1) (.agg cs)=.agg (cs.map (rnV b H ks d)):=rfl
theorem zru(cs:List AV):rnV b H ks (d+1) (.tup cs)=.tup (cs.map (rnV b H ks d)):=rfl
theorem rn_fn(f:Nat)(cs:List AV):rnV b H ks (d+1) (.fn f cs)=.fn f (cs.map (rnV b H ks d)):=rfl
theorem zrv:rnV b H ks (d+1) .any=.any:=rfl
theorem zmp(w:Nat)(xs:List AV):rnV b H ks (d+1) (.full w xs)=.full w xs:=rfl
theorem rn_mp(g v:Nat):rnV b H ks (d+1) (.map g v)=if g<b then .map g v else if v=(H.at_ g).ver then (match pos ks g with|some j=>.map (b+j) 1|none=>.any) else .any:=rfl
theorem zmq(q:Bool):rnV b H ks (d+1) (.bool q)=.bool q:=rfl
theorem zrw(k:IntKind)(n:Int):rnV b H ks (d+1) (.int k n)=.int k n:=rfl
theorem zrx(s:List UInt8):rnV b H ks (d+1) (.str s)=.str s:=rfl
theorem zmr:rnV b H ks (d+1) .nilS=.nilS:=rfl
theorem zry:rnV b H ks (d+1) .nul=.nul:=rfl
theorem zms:rnV b H ks (d+1) .nilP=.nilP:=rfl
theorem zmt:rnV b H ks (d+1) .nilF=.nilF:=rfl
theorem zrz(l:Nat):rnV b H ks (d+1) (.yld l)=.yld l:=rfl
theorem zs0(w:Nat)(xs:List AV):rnV b H ks (d+1) (.lst w xs)=.lst w xs:=rfl
theorem zmu(x:AV):rnV b H ks (d+1) (.cptr x)=.cptr x:=rfl
end
section
variable {l l0 l':List Grp}{G G':Grp}
theorem zs1:IM l0 [] []=True:=rfl
theorem zmv:IM l0 (G::l) (G'::l')=(z4a l0 G G'/\IM l0 l l'):=rfl
theorem g_le:z4a l0 G G'=(G.w=G'.w/\G.ver=G'.ver/\(G'.exact=true->G.exact=true)/\leSL l0 G.xs G'.xs):=rfl
theorem z8q{x:AV}:leS l x x=True:=Er (Bn l x)
theorem zfh{xs:List AV}:leSL l xs xs=True:=Er (AN l xs)
theorem zmw{ys:List AV}:leSL l [] ys=(ys=[]):=by simp only[leSL]
theorem zfi{x y:AV}{xs ys:List AV}:leSL l (x::xs) (y::ys)=(leS l x y/\leSL l xs ys):=by simp only[leSL]
theorem RR{k:IntKind}{a:Int}{k':IntKind}{b:Int}:leS l (.int k a) (.int k' b)=(k=k'/\a=b):=by simp only[leS]
theorem NZ{a:Bool}{b:Bool}:leS l (.bool a) (.bool b)=(a=b):=by simp only[leS]
theorem PI  {w:Nat} {ys:List AV}:leS l .nilS (.lst w ys)=(0<w/\ys=[]):=by simp only[leS]
theorem XS  {g v o n:Nat}:leS l .nilS (.ref g v o n)=(o=0/\n=0/\(l.getD g default).ver=v/\0<(l.getD g default).w/\(l.getD g default).xs=[]/\(l.getD g default).exact=true/\g<l.length):=by simp only[leS]
theorem RS  {w:Nat} {ys:List AV}:leS l .nul (.lst w ys)=(0<w/\ys=[]):=by simp only[leS]
theorem RX  {w:Nat} {ys:List AV}:leS l .emp (.lst w ys)=(0<w/\ys=[]):=by simp only[leS]
theorem Vx{w:Nat}{xs:List AV}{w':Nat}{ys:List AV}:leS l (.full w xs) (.full w' ys)=(w=w'/\xs=ys):=by simp only[leS]
theorem PK{w:Nat}{xs:List AV}{w':Nat}{ys:List AV}:leS l (.full w xs) (.lst w' ys)=(w=w'/\leSL l xs ys/\AJ ys=true):=by simp only[leS]
theorem z4b{g v g' v':Nat}:leS l (.map g v) (.map g' v')=(g=g'/\v=v'):=by simp only[leS,AV.map.injEq]
theorem RY{w:Nat}{xs:List AV}{w':Nat}{ys:List AV}:leS l (.lst w xs) (.lst w' ys)=(w=w'/\xs=ys):=by simp only[leS]
theorem z4c{g v o n:Nat}{g' v' o' n':Nat}:leS l (.ref g v o n) (.ref g' v' o' n')=(g=g'/\v=v'/\o=o'/\n=n'):=by simp only[leS]
theorem z4d{g v o n:Nat}{g' v' o' n':Nat}:leS l (.ptr g v o n) (.ptr g' v' o' n')=(g=g'/\v=v'/\o=o'/\n=n'):=by simp only[leS]
theorem RZ{xs:List AV}{ys:List AV}:leS l (.agg xs) (.agg ys)=leSL l xs ys:=by simp only[leS]
theorem Sa{xs:List AV}{ys:List AV}:leS l (.tup xs) (.tup ys)=leSL l xs ys:=by simp only[leS]
theorem zs2{x:AV}:leS l x .any=True:=Er (by cases x<;>simp only[leS])
def ansW(x y:AV):Prop:=leS [] x y
theorem zmx{x:AV}:ansW x x=True:=z8q
theorem zs3{k k':IntKind}{a b:Int}:ansW (.int k a) (.int k' b)=(k=k'/\a=b):=RR
theorem zmy{a b:Bool}:ansW (.bool a) (.bool b)=(a=b):=NZ
theorem zmz{w w':Nat}{xs ys:List AV}:ansW (.full w xs) (.lst w' ys)=(w=w'/\leSL [] xs ys/\AJ ys=true):=PK
theorem zs4{w w':Nat}{xs ys:List AV}:ansW (.lst w xs) (.lst w' ys)=(w=w'/\xs=ys):=RY
theorem zn0{w:Nat}{ys:List AV}:ansW .nilS (.lst w ys)=(0<w/\ys=[]):=PI
theorem zs5{w:Nat}{ys:List AV}:ansW .nul (.lst w ys)=(0<w/\ys=[]):=RS
theorem zs6{w:Nat}{ys:List AV}:ansW .emp (.lst w ys)=(0<w/\ys=[]):=RX
theorem zs7{xs ys:List AV}:ansW (.agg xs) (.agg ys)=leSL [] xs ys:=RZ
theorem GX{xs ys:List AV}:ansW (.tup xs) (.tup ys)=leSL [] xs ys:=Sa
end
attribute [push_cast] Vx PK z4b zmz zmp rn_mp
attribute [push_cast] z8q zfh zmw zfi RR NZ PI XS RS RX RY z4c z4d RZ Sa zs2 zmx zs3 zmy zs4 zn0 zs5 zs6 zs7
section
variable {H H1:A4}{l0:List Grp}{b t:Nat}{ks:List Nat}{env:Env}{y:AV}{r:List (Nat × AV)}
theorem zfj:NY l0 H1 b ks env []=True:=rfl
theorem z8r:NY l0 H1 b ks env ((t,y)::r)=(leS l0 (rnV b H1 ks 6 (env t)) y/\NY l0 H1 b ks env r):=rfl
theorem zfk{n:Nat}:allB b n []=True:=rfl
theorem z8s{n k:Nat}:allB b n (k::ks)=(b<=k/\k<n/\allB b n ks):=rfl
theorem z8t:XR []=True:=rfl
theorem z4e{k:Nat}:XR (k::ks)=(k∉ks/\XR ks):=rfl
theorem z8u{w g v o n:Nat}:D4 w (.ref g v o n)=.grp g:=rfl
theorem z8v{w g v i o:Nat}:D4 w (.ptr g v i o)=.grp g:=rfl
theorem z8w{w g v:Nat}:D4 w (.map g v)=.grp g:=rfl
theorem z4f:P9 []=True:=rfl
theorem XT{w:Nat}{r:List Nat}:P9 (w::r)=(0<w/\P9 r):=rfl
theorem z4g{w:Nat}:D4 w .nilS=.virt w:=rfl
theorem z4h{g v i o k:Nat}:cellAt H (.ptr g v i o) k=((H.at_ g).xs.getD i .any).cells.getD k .any:=rfl
theorem zs8{N:Nat}:GM N []=([],[]):=rfl
theorem zs9{N g:Nat}{l:List Src}:GM N (.grp g::l)=(g::(GM N l).1,(GM N l).2):=rfl
theorem zn1{N w:Nat}{l:List Src}:GM N (.virt w::l)=(N::(GM (N+1) l).1,w::(GM (N+1) l).2):=rfl
theorem zsa{j:Nat}:BO [] j=.any:=rfl
theorem zn2{j:Nat}:BO ((t,y)::r) j=if j=t then y else BO r j:=rfl
variable {l l1 l2:List Grp}{G:Grp}{live:List (Nat × AV)}{heap:List Grp}
theorem head1{p q:List Nat}:zmj b env l (p,q) live heap=(P9 q/\zmi b env (l++q.map Jo) p live heap):=rfl
theorem head2:zmi b env l1 ks live heap=(allB b l1.length ks/\XR ks/\zmh b env l1 (FV b (hl l1) ks (l1.take b)++Gn b (hl l1) ks l1 ks) ks live heap):=rfl
theorem head3:zmh b env l1 l2 ks live heap=(NY l2 (hl l1) b ks env live/\IM l2 l2 heap):=rfl
theorem zsb:FV b H ks []=[]:=rfl
theorem zn3:FV b H ks (G::l)=rnG b H ks G.ver G::FV b H ks l:=rfl
theorem zsc:Gn b H ks l []=[]:=rfl
theorem zn4{k:Nat}{r:List Nat}:Gn b H ks l (k::r)=rnG b H ks 1 (l.getD k default)::Gn b H ks l r:=rfl
theorem zsd{v:Nat}:rnG b H ks v G=⟨G.w,v,G.exact,G.xs.map (rnV b H ks 6)⟩:=rfl
end
theorem ZO(i:Nat)(ks:List Nat):Ec i ks []=[]:=rfl
theorem CM(i:Nat)(ks:List Nat)(G:Grp)(l:List Grp):Ec i ks (G::l)=(if i∈ks then G.dead else G)::Ec (i+1) ks l:=rfl
theorem zn5(w:Nat):Jo w=⟨w,1,true,[]⟩:=rfl
theorem zn6(w:Nat)(xs:List AV):frzL w xs=bif AJ xs then .lst w xs else .any:=rfl
theorem zn7(x:AV):frzP x=bif x.pure then .cptr x else .any:=rfl
theorem Jp(xs ys:List AV):AJ (xs++ys)=(AJ xs&&AJ ys):=by
 induction xs with
 |nil=>rfl
 |cons x xs ih=>simp[AJ,ih,Bool.and_assoc]
theorem z4i(i:Nat):((i:Int)-1).toNat=i-1:=om
theorem z4j(i:Nat):((i:Int)+1).toNat=i+1:=om
theorem z8x(i k:Nat):((i:Int)+(k:Int)).toNat=i+k:=om
theorem drop_at{α:Type}[Inhabited α]{l:List α}{i:Nat}(h:i<l.length):l.drop i=nth l i::l.drop (i+1):=by
 rw[CK h];simp[nth,List.getD,h]
theorem take_at{α:Type}[Inhabited α]{l:List α}{i:Nat}(h:i<l.length):l.take (i+1)=l.take i++[nth l i]:=by
 rw[List.take_succ_eq_append_getElem h];simp[nth,List.getD,h]
theorem zfl{α:Type}[Inhabited α](x:α)(l:List α)(i:Nat):nth (x::l) (i+1)=nth l i:=rfl
theorem Bi{α:Type}[Inhabited α]{l:List α}{i:Nat}(h:i<l.length):nth l i∈l:=by
 have:nth l i=l[i]:=by simp[nth,List.getD,h]
 rw[this];exact BM h
theorem JM{α:Type}[Inhabited α]{l:List α}{i:Nat}(h:i<l.length):nth l i=l[i]:=by simp[nth,List.getD,h]
theorem zn8(g k:Nat)(ks:List Nat):(g∈k::ks)=(g=k\/g∈ks):=oc
theorem XU(g:Nat):(g∈([]:List Nat))=False:=oc
theorem zn9(H:A4)(ks:List Nat)(g:Nat):(H.only ks).at_ g=if g∈ks then H.at_ g else (H.at_ g).dead:=rfl
def Dl:List AV->List Nat
 |[]=>[]
 |.ref g _ _ _::l=>g::Dl l
 |.ptr g _ _ _::l=>g::Dl l
 |.agg cs::l=>Dl cs++Dl l
 |.fn _ cs::l=>Dl cs++Dl l
 |_::l=>Dl l
theorem DC{w:Nat}{xs l:List AV}:Dl (.lst w xs::l)=Dl l:=by rw[Dl]<;>(intros;simp_all)
theorem z8y{x:AV}{l:List AV}:Dl (.cptr x::l)=Dl l:=by rw[Dl]<;>(intros;simp_all)
theorem zfm{k:IntKind}{n:Int}{l:List AV}:Dl (.int k n::l)=Dl l:=by rw[Dl]<;>(intros;simp_all)
theorem z8z{b:Bool}{l:List AV}:Dl (.bool b::l)=Dl l:=by rw[Dl]<;>(intros;simp_all)
theorem z90{l:List AV}:Dl (.nilS::l)=Dl l:=by rw[Dl]<;>(intros;simp_all)
theorem zfn{g v o n:Nat}{l:List AV}:Dl (.ref g v o n::l)=g::Dl l:=by rw[Dl]
theorem zfo{g v o n:Nat}{l:List AV}:Dl (.ptr g v o n::l)=g::Dl l:=by rw[Dl]
theorem zfp{cs l:List AV}:Dl (.agg cs::l)=Dl cs++Dl l:=by rw[Dl]
theorem zna{f:Nat}{cs l:List AV}:Dl (.fn f cs::l)=Dl cs++Dl l:=by rw[Dl]
theorem zfq:Dl []=[]:=by rw[Dl]
attribute [push_cast] DC z8y zfm z8z z90 zfn zfo zfp zna zfq
def okA(d:Nat)(H:A4):List AV->Prop
 |[]=>True
 |x::l=>DX d H x/\okA d H l
section
variable {P:Program}{f:Nat}{xs ys:List AV}{y:AV}{l:List Grp}{H:A4}
theorem PL{d:Nat}:∀{xs:List AV},okA d H xs->∀x∈xs,DX d H x
 |[],_,x,hx=>by simp at hx
 |z::r,h,x,hx=>by
  rcases Af.1 hx with rfl|hx
  ·exact h.1
  ·exact PL h.2 x hx
theorem znb{d:Nat}:okA d H []=True:=rfl
theorem zfr{d:Nat}{x:AV}:okA d H (x::xs)=(DX d H x/\okA d H xs):=rfl
theorem XV(h:PC P f ys y)(hl:leL xs ys):PC P f xs y:=Jl hl h
def chB(c:Bool)(p q:Prop):Prop:=match c with
 |true=>p
 |false=>q
theorem zfs{p q:Prop}:chB true p q=p:=rfl
theorem z91{p q:Prop}:chB false p q=q:=rfl
def frA(d:Nat)(H:A4)(xs:List AV):List AV:=xs.map (frzV d H)
theorem znc{d:Nat}:frA d H []=[]:=rfl
theorem zft{d:Nat}{x:AV}:frA d H (x::xs)=frzV d H x::frA d H xs:=rfl
theorem cK{K:AV->A4->Prop}(h:PC P f ys y)(hh:chB (AJ xs) (leSL [] xs ys/\AJ ys=true/\@nx y (hl l) ⟨K⟩)
 (chB y.flat (okA 4 (hl l) xs/\leSL [] (frA 4 (hl l) xs) ys/\@nx y (hl l) ⟨K⟩)
  (okA 4 ((hl l).only (Dl xs)) xs/\leSL [] (frA 4 ((hl l).only (Dl xs)) xs) ys/\AJ ys=true/\@nx y (hl (Ec 0 (Dl xs) l)) ⟨K⟩))):@Rs P f xs (hl l) ⟨K⟩:=by
 cases hp:AJ xs<;>rw[hp] at hh
 ·cases hy:y.flat<;>rw[hy] at hh
  ·obtain⟨h1,h2,h3,h4⟩:=hh
   exact RO 4 (Dl xs) (PL h1) (Jl (LP h2) (JK h h3 h4))
  ·obtain⟨h1,h2,h3⟩:=hh
   exact z7p (XV h (LP h2)) 4 (PL h1) rfl hy h3
 ·obtain⟨h1,h2,h3⟩:=hh
  exact Jl (LP h1) (JK h h2 h3)
theorem eK{K:AV->A4->Prop}(h:PC P f xs y)(hh:AJ xs=true/\@nx y H ⟨K⟩):@Rs P f xs H ⟨K⟩:=JK h hh.1 hh.2
theorem eQ{K:AV->Prop}(h:PC P f xs y)(hh:AJ xs=true/\@nq y ⟨K⟩):@zen P f xs H ⟨K⟩:=⟨y,JK h hh.1 ⟨rfl,rfl⟩,hh.2⟩
theorem cQ{K:AV->Prop}(h:PC P f ys y)(hh:chB (AJ xs) (leSL [] xs ys/\AJ ys=true/\@nq y ⟨K⟩)
 (y.flat=true/\okA 4 (hl l) xs/\leSL [] (frA 4 (hl l) xs) ys/\@nq y ⟨K⟩)):@zen P f xs (hl l) ⟨K⟩:=by
 cases hp:AJ xs<;>rw[hp] at hh
 ·obtain⟨hy,h1,h2,h3⟩:=hh
  exact⟨y,z7p (XV h (LP h2)) 4 (PL h1) rfl hy ⟨rfl,rfl⟩,h3⟩
 ·obtain⟨h1,h2,h3⟩:=hh
  exact⟨y,Jl (LP h1) (JK h h2 ⟨rfl,rfl⟩),h3⟩
end
attribute [push_cast] znb zfr znc zft zfs z91 AV.flat z7m
section
variable {d:Nat}{H:A4}
def okL(d:Nat)(H:A4)(xs:List AV):Prop:=∀y∈xs,DX d H y
def frL(d:Nat)(H:A4)(xs:List AV):List AV:=xs.map (frzV d H)
def okM(d:Nat)(H:A4)(xs:List AV):Prop:=okL d H xs
def frM(d:Nat)(H:A4)(xs:List AV):List AV:=frL d H xs
def ifB(b:Bool)(p:Prop):Prop:=b=true\/p
theorem zfu(p:Prop):ifB true p=True:=by simp[ifB]
theorem z92(p:Prop):ifB false p=p:=by simp[ifB]
theorem zse(xs:List AV):okL d H xs=ifB (AJ xs) (okM d H xs):=propext ⟨λh=>.inr h,λh=>h.elim (λh=>(HH H d h).1) id⟩
theorem zsf(xs:List AV):frL d H xs=bif AJ xs then xs else frM d H xs:=by
 cases h:AJ xs
 ·rfl
 ·exact (HH H d h).2
theorem znd:okM d H []=True:=by simp[okM,okL]
theorem zfv(x:AV)(xs:List AV):okM d H (x::xs)=(DX d H x/\okM d H xs):=by simp[okM,okL]
theorem zne:frM d H []=[]:=rfl
theorem zfw(x:AV)(xs:List AV):frM d H (x::xs)=frzV d H x::frM d H xs:=rfl
theorem zsg(g v off len:Nat):DX (d+1) H (.ref g v off len)=((H.at_ g).ver=v/\0<(H.at_ g).w/\off+len<=(H.at_ g).xs.length/\okL d H (((H.at_ g).xs.drop off).take len)):=rfl
theorem zsh(g v i o:Nat):DX (d+1) H (.ptr g v i o)=((H.at_ g).ver=v/\i<(H.at_ g).xs.length/\0<(H.at_ g).w/\o=0/\DX d H ((H.at_ g).xs.getD i .any)):=rfl
theorem zsi(cs:List AV):DX (d+1) H (.agg cs)=okL d H cs:=rfl
theorem zsj(cs:List AV):DX (d+1) H (.tup cs)=okL d H cs:=rfl
theorem ok_fn(f:Nat)(cs:List AV):DX (d+1) H (.fn f cs)=okL d H cs:=rfl
theorem zsk:DX (d+1) H .any=True:=Er rfl
theorem znf(b:Bool):DX (d+1) H (.bool b)=True:=Er rfl
theorem ok_int(k:IntKind)(n:Int):DX (d+1) H (.int k n)=True:=Er rfl
theorem zsl(s:List UInt8):DX (d+1) H (.str s)=True:=Er rfl
theorem zng:DX (d+1) H .nilS=True:=Er rfl
theorem zsm:DX (d+1) H .nul=True:=Er rfl
theorem zsn:DX (d+1) H .emp=True:=Er rfl
theorem znh:DX (d+1) H .nilP=True:=Er rfl
theorem zni:DX (d+1) H .nilF=True:=Er rfl
theorem zso(l:Nat):DX (d+1) H (.yld l)=True:=Er rfl
theorem znj(w:Nat)(xs:List AV):DX (d+1) H (.full w xs)=(AJ xs=true):=rfl
theorem znk(w:Nat)(xs:List AV):frzV (d+1) H (.full w xs)=.full w xs:=rfl
theorem zsp(w:Nat)(xs:List AV):DX (d+1) H (.lst w xs)=(AJ xs=true):=rfl
theorem znl(x:AV):DX (d+1) H (.cptr x)=(x.pure=true):=rfl
theorem zsq(g v off len:Nat):frzV (d+1) H (.ref g v off len)=.lst (H.at_ g).w (frL d H (((H.at_ g).xs.drop off).take len)):=rfl
theorem zsr(g v i o:Nat):frzV (d+1) H (.ptr g v i o)=if o=0 then .cptr (frzV d H ((H.at_ g).xs.getD i .any)) else .any:=rfl
theorem zss(cs:List AV):frzV (d+1) H (.agg cs)=.agg (frL d H cs):=rfl
theorem zst(cs:List AV):frzV (d+1) H (.tup cs)=.tup (frL d H cs):=rfl
theorem fr_fn(f:Nat)(cs:List AV):frzV (d+1) H (.fn f cs)=.fn f (frL d H cs):=rfl
theorem zsu:frzV (d+1) H .any=.any:=rfl
theorem znm(b:Bool):frzV (d+1) H (.bool b)=.bool b:=rfl
theorem zsv(k:IntKind)(n:Int):frzV (d+1) H (.int k n)=.int k n:=rfl
theorem zsw(s:List UInt8):frzV (d+1) H (.str s)=.str s:=rfl
theorem znn:frzV (d+1) H .nilS=.nilS:=rfl
theorem zsx:frzV (d+1) H .nul=.nul:=rfl
theorem zsy:frzV (d+1) H .emp=.emp:=rfl
theorem zno:frzV (d+1) H .nilP=.nilP:=rfl
theorem znp:frzV (d+1) H .nilF=.nilF:=rfl
theorem zsz(l:Nat):frzV (d+1) H (.yld l)=.yld l:=rfl
theorem zt0(w:Nat)(xs:List AV):frzV (d+1) H (.lst w xs)=.lst w xs:=rfl
theorem znq(x:AV):frzV (d+1) H (.cptr x)=.cptr x:=rfl
end
attribute [push_cast] zfu z92 zse zsf znd zfv zne zfw zsg zsh zsi zsj ok_fn zsk znf ok_int zsl zng zsm zsn znh zni zso zsz zsp znj znk znl zsq zsr zss zst fr_fn zsu znm zsv zsw znn zsx zsy zno znp zt0 znq List.take_length
section
variable {P:Program}{l:List Grp}{xs cs:List AV}{K:AV->List Grp->Prop}{z:AV}{w len n:Nat}
theorem E3{k:AK}(h:k.still=true):@opG P k l xs ⟨K⟩=(BW (·<l.length) xs/\@opK P k (hl l) xs ⟨λx _=>K x l⟩):=by
 rw[ZK];have hn:¬k.still=false:=by rw[h];simp
 cases k<;>first|(exact propext ⟨λhh=>hh.elim (λhh=>⟨hh.2.1,hh.2.2⟩) (λhh=>absurd hh.1 hn),λhh=>.inl ⟨h,hh.1,hh.2⟩⟩)|(simp[AK.still] at h)
theorem z4k{k:AK}(h:k.still=false)(he:k.eff.isSome=true):@opG P k l xs ⟨K⟩=(k.appOk=true/\Tp k xs/\@opK P k (hl l) xs ⟨λx H'=>∀l',H'=hl l'->K x l'⟩):=by
 rw[ZK];have hn:¬k.still=true:=by rw[h];simp
 cases k<;>first|(exact propext ⟨λhh=>hh.elim (λhh=>absurd hh.1 hn) (λhh=>⟨hh.2.2.1,hh.2.2.2⟩),λhh=>.inr ⟨h,he,hh.1,hh.2⟩⟩)|(simp[AK.eff] at he)
theorem G_mv  : @opG P .mv l xs ⟨K⟩=(BW (·<l.length) xs/\@opK P .mv (hl l) xs ⟨λx _=>K x l⟩):=E3 rfl
theorem zt1  : @opG P .pick l xs ⟨K⟩=(BW (·<l.length) xs/\@opK P .pick (hl l) xs ⟨λx _=>K x l⟩):=E3 rfl
theorem znr{zs:List AV}{pl:List (Nat × Nat)}{idx:List Nat}:@opG P (.build zs pl idx) l xs ⟨K⟩=(BW (·<l.length) xs/\@opK P (.build zs pl idx) (hl l) xs ⟨λx _=>K x l⟩):=E3 rfl
theorem zt2{a:Bool}{s:Nat}:@opG P (.load a s) l xs ⟨K⟩=(BW (·<l.length) xs/\@opK P (.load a s) (hl l) xs ⟨λx _=>K x l⟩):=E3 rfl
theorem z4l  : @opG P .nilCheck l xs ⟨K⟩=(BW (·<l.length) xs/\@opK P .nilCheck (hl l) xs ⟨λx _=>K x l⟩):=E3 rfl
theorem G_bin{op:BinOp}:@opG P (.bin op) l xs ⟨K⟩=(BW (·<l.length) xs/\@opK P (.bin op) (hl l) xs ⟨λx _=>K x l⟩):=E3 rfl
theorem G_eqb{n:Bool}:@opG P (.eqb n) l xs ⟨K⟩=(BW (·<l.length) xs/\@opK P (.eqb n) (hl l) xs ⟨λx _=>K x l⟩):=E3 rfl
theorem G_eqs{n:Bool}{ks:List Nat}:@opG P (.eqs n ks) l xs ⟨K⟩=(BW (·<l.length) xs/\@opK P (.eqs n ks) (hl l) xs ⟨λx _=>K x l⟩):=E3 rfl
theorem G_eqn{n:Bool}:@opG P (.eqn n) l xs ⟨K⟩=(BW (·<l.length) xs/\@opK P (.eqn n) (hl l) xs ⟨λx _=>K x l⟩):=E3 rfl
theorem G_un{op:UnOp}:@opG P (.un op) l xs ⟨K⟩=(BW (·<l.length) xs/\@opK P (.un op) (hl l) xs ⟨λx _=>K x l⟩):=E3 rfl
theorem zt3{k:IntKind}:@opG P (.conv k) l xs ⟨K⟩=(BW (·<l.length) xs/\@opK P (.conv k) (hl l) xs ⟨λx _=>K x l⟩):=E3 rfl
theorem zns{w:Nat}{lo hi mx:Bool}:@opG P (.slice w lo hi mx) l xs ⟨K⟩=(BW (·<l.length) xs/\@opK P (.slice w lo hi mx) (hl l) xs ⟨λx _=>K x l⟩):=E3 rfl
theorem znt{a:Bool}{o s:Nat}:@opG P (.faddr a o s) l xs ⟨K⟩=(BW (·<l.length) xs/\@opK P (.faddr a o s) (hl l) xs ⟨λx _=>K x l⟩):=E3 rfl
theorem znu{a:Bool}{o s:Nat}:@opG P (.field a o s) l xs ⟨K⟩=(BW (·<l.length) xs/\@opK P (.field a o s) (hl l) xs ⟨λx _=>K x l⟩):=E3 rfl
theorem znv{w:Nat}:@opG P (.iaddr w) l xs ⟨K⟩=(BW (·<l.length) xs/\@opK P (.iaddr w) (hl l) xs ⟨λx _=>K x l⟩):=E3 rfl
theorem zfx{n w:Nat}{a:Bool}:@opG P (.iaddrA n w a) l xs ⟨K⟩=(BW (·<l.length) xs/\@opK P (.iaddrA n w a) (hl l) xs ⟨λx _=>K x l⟩):=E3 rfl
theorem znw{n w:Nat}{a:Bool}:@opG P (.index n w a) l xs ⟨K⟩=(BW (·<l.length) xs/\@opK P (.index n w a) (hl l) xs ⟨λx _=>K x l⟩):=E3 rfl
theorem z4m  : @opG P .indexStr l xs ⟨K⟩=(BW (·<l.length) xs/\@opK P .indexStr (hl l) xs ⟨λx _=>K x l⟩):=E3 rfl
theorem z93{i:Nat}:@opG P (.extract i) l xs ⟨K⟩=(BW (·<l.length) xs/\@opK P (.extract i) (hl l) xs ⟨λx _=>K x l⟩):=E3 rfl
theorem G_len{b:Bool}:@opG P (.len b) l xs ⟨K⟩=(BW (·<l.length) xs/\@opK P (.len b) (hl l) xs ⟨λx _=>K x l⟩):=E3 rfl
theorem G_max  : @opG P .max l xs ⟨K⟩=(BW (·<l.length) xs/\@opK P .max (hl l) xs ⟨λx _=>K x l⟩):=E3 rfl
theorem G_min  : @opG P .min l xs ⟨K⟩=(BW (·<l.length) xs/\@opK P .min (hl l) xs ⟨λx _=>K x l⟩):=E3 rfl
theorem zfy:@opG P (.mapGet z) l xs ⟨K⟩=(BW (·<l.length) xs/\@opK P (.mapGet z) (hl l) xs ⟨λx _=>K x l⟩):=E3 rfl
theorem zfz{f:Nat}:@opG P (.mkFunc f) l xs ⟨K⟩=(BW (·<l.length) xs/\@opK P (.mkFunc f) (hl l) xs ⟨λx _=>K x l⟩):=E3 rfl
theorem znx  : @opG P .toStr l xs ⟨K⟩=(BW (·<l.length) xs/\@opK P .toStr (hl l) xs ⟨λx _=>K x l⟩):=E3 rfl
theorem zg0  : @opG P .runStr l xs ⟨K⟩=(BW (·<l.length) xs/\@opK P .runStr (hl l) xs ⟨λx _=>K x l⟩):=E3 rfl
theorem zny  : @opG P (.alloc z w) l xs ⟨K⟩=@opK P (.alloc z w) (hl l) xs ⟨λx H'=>∀l',H'=hl l'->K x l'⟩:=(z4k rfl rfl).trans (by simp only[AK.appOk,Tp,Dz])
theorem G_box  : @opG P .box l xs ⟨K⟩=@opK P .box (hl l) xs ⟨λx H'=>∀l',H'=hl l'->K x l'⟩:=(z4k rfl rfl).trans (by simp only[AK.appOk,Tp,Dz])
theorem znz  : @opG P (.store w) l xs ⟨K⟩=@opK P (.store w) (hl l) xs ⟨λx H'=>∀l',H'=hl l'->K x l'⟩:=(z4k rfl rfl).trans (by simp only[AK.appOk,Tp,Dz])
theorem z94  : @opG P (.mkSlice w n z) l xs ⟨K⟩=@opK P (.mkSlice w n z) (hl l) xs ⟨λx H'=>∀l',H'=hl l'->K x l'⟩:=(z4k rfl rfl).trans (by simp only[AK.appOk,Tp,Dz])
theorem G_app:@opG P (.app w n z) l xs ⟨K⟩=(0<w/\offA xs/\@opK P (.app w n z) (hl l) xs ⟨λx H'=>∀l',H'=hl l'->K x l'⟩):=(z4k rfl rfl).trans (by simp only[AK.appOk,Tp,Ah])
theorem zg1{g v o n:Nat}:offA (.ref g v o n::xs)=(o=0):=rfl
theorem z95:offA (.nilS::xs)=True:=rfl
theorem zg2:offA (.nul::xs)=True:=rfl
theorem zg3:offA (.emp::xs)=True:=rfl
theorem z96{w:Nat}{ys:List AV}:offA (.full w ys::xs)=True:=rfl
theorem zg4{w:Nat}{ys:List AV}:offA (.lst w ys::xs)=True:=rfl
theorem zt4{f:Nat}:@opG P .call l (.fn f cs::xs) ⟨K⟩=@zeo P f (xs++cs) l ⟨K⟩:=(rfl)
theorem G_bsl{idx:List Nat}:@opG P (.bslice w len z idx) l xs ⟨K⟩=(Ji w len idx xs/\0<w/\AJ (Gk idx xs (List.replicate len z))=true/\@nx (.full w (Gk idx xs (List.replicate len z))) (hl l) ⟨λx _=>K x l⟩):=(rfl)
theorem hl_eq{l l':List Grp}:(hl l=hl l')=(l=l'):=propext ⟨zjy,λh=>h ▸ rfl⟩
theorem eG{f:Nat}{y:AV}(h:PC P f xs y)(hh:AJ xs=true/\@nx y (hl l) ⟨λy _=>K y l⟩):@zeo P f xs l ⟨K⟩:=⟨y,λH=>JK h hh.1 ⟨rfl,rfl⟩,hh.2⟩
theorem cG{f:Nat}{ys:List AV}{y:AV}(h:PC P f ys y)(hh:leSL [] xs ys/\AJ ys=true/\@nx y (hl l) ⟨λy _=>K y l⟩):@zeo P f xs l ⟨K⟩:=⟨y,λH=>Jl (LP hh.1) (JK h hh.2.1 ⟨rfl,rfl⟩),hh.2.2⟩
end
theorem Cd{P:Program}{f m np:Nat}{xs:List AV}{y:AV}{res:List ARes}{B:AC}(hf:Bm P f xs.length=some ⟨m,np,res,B⟩)(h:W P m 0 B (entry xs) (hl []) (Ret P res λz H=>DX 4 H z/\ansW (frzV 4 H z) y)):PC P f xs y:=by
 refine zlr hf 4 ?_;rw[P7];exact T.mono (W_T h) λx env H hh=>T8 (λz H hh=>⟨hh.1,z8m hh.2⟩) hh
theorem z97{P:Program}{f w:Nat}{y:AV}(h1:PC P f [.nilS] y)(h2:PC P f [.emp] y):PC P f [.lst w []] y:=by
 refine⟨h1.1,λS cargs hS hx=>?_⟩;obtain⟨v,r,rfl,⟨_,_,a,cap,vs,rfl,⟨_,hn⟩,_,_⟩,hr⟩:=hx;cases a with
 |none=>exact h1.2 S _ hS ⟨_,r,rfl,by rw[hn rfl];rfl,hr⟩
 |some a=>exact h2.2 S _ hS ⟨_,r,rfl,⟨a,cap,rfl⟩,hr⟩
section
variable {P:Program}{H:A4}{K:AV->A4->Prop}{n:Bool}{b d:Nat}{ks:List Nat}
theorem z98:@opK P (.eqn n) H [.emp,.nilS] ⟨K⟩=@nx (.bool n) H ⟨K⟩:=(rfl)
theorem z99:@opK P (.len false) H [.emp] ⟨K⟩=@nx (.int .i64 0) H ⟨K⟩:=(rfl)
theorem zt5:rnV b H ks (d+1) .emp=.emp:=rfl
end
theorem zt6{x y z:AV}(h:y=z)(k:ansW x z):ansW x y:=by rw[h];exact k
theorem Ba{P:Program}{n b:Nat}{c:AC}{env:Env}{H:A4}{Q:Ex->Env->A4->Prop}(h:T P n b (.loop c) env H Q):@Lr ⟨T P n b (.loop c) env H Q⟩:=h
attribute [push_cast] z98 z99 zt5 P7 hl_n Da Gl zmm z8o z8p Vu zmn zff zrq zmo zfg zrr zrs zrt zru rn_fn zrv zmq zrw zrx zmr zry zms zmt zrz zs0 zmu
attribute [push_cast] zs1 zmv g_le zfj z8r zfk z8s z8t z4e z8u z8v z4g z8w z4f XT z4h zs8 zs9 zn1 zsa zn2 zmk head1 head2 head3 zsb zn3 zsc zn4 zsd ZO CM zn5 zn6 zn7 Jp zn9 Dl List.cons_append List.nil_append
attribute [push_cast] zg1 z95 zg2 zg3 z96 zg4 G_mv zt1 znr zt2 z4l G_bin G_eqb G_eqs G_eqn G_un zt3 zns znt znu znv zfx znw z4m z93 G_len G_max G_min zfz znx zg0 zny G_box znz z94 G_app zt4 G_bsl hl_eq BW forall_eq' forall_eq
attribute [push_cast] List.isEmpty_nil List.isEmpty_cons List.map_eq_nil_iff Option.isSome_some Option.isSome_none
attribute [push_cast] List.map_append List.length_append Option.map_some Option.map_none zn8 XU Int.add_sub_cancel Int.sub_add_cancel z4i z4j z8x Nat.not_lt_zero Nat.zero_le
open IntWalk in
attribute [push_cast] i64_in i32_in u8_in u32_in u64_in z8i
theorem zz:type_of% (Aa @z1 <| Aa @z2 <| Aa @z3 <| Aa @z4 <| Aa @z5 <| Aa @z6 <| Aa @z7 <| Aa @z8 <| Aa @z9 <| Aa @z10 <| Aa @z11 <| Aa @z12 <| Aa @z13 <| Aa @z14 <| Aa @z15 <| Aa @z16 <| Aa @z17 <| Aa @z18 <| Aa @z19 <| Aa @z20 <| Aa @z21 <| Aa @z22 <| Aa @z23 <| Aa @z24 <| Aa @z25 <| Aa @z26 <| Aa @z27 <| Aa @z28 <| Aa @z29 <| Aa @z30 <| Aa @z31 <| Aa @z32 <| @z33):=Aa @z1 <| Aa @z2 <| Aa @z3 <| Aa @z4 <| Aa @z5 <| Aa @z6 <| Aa @z7 <| Aa @z8 <| Aa @z9 <| Aa @z10 <| Aa @z11 <| Aa @z12 <| Aa @z13 <| Aa @z14 <| Aa @z15 <| Aa @z16 <| Aa @z17 <| Aa @z18 <| Aa @z19 <| Aa @z20 <| Aa @z21 <| Aa @z22 <| Aa @z23 <| Aa @z24 <| Aa @z25 <| Aa @z26 <| Aa @z27 <| Aa @z28 <| Aa @z29 <| Aa @z30 <| Aa @z31 <| Aa @z32 <| @z33
namespace O1
theorem sp_{p q:Prop}(hp:p)(hq:q):p/\q:=⟨hp,hq⟩
theorem ee:type_of% @eK:=@eK
theorem cc:type_of% @cK:=@cK
end O1
namespace O2
theorem sp_:type_of% @P4:=@P4
theorem ee:type_of% @eQ:=@eQ
theorem cc:type_of% @cQ:=@cQ
end O2
namespace O3
theorem sp_:type_of% @NX:=@NX
theorem ee:type_of% @eG:=@eG
theorem cc:type_of% @cG:=@cG
end O3
structure Yq(q:Prop):Prop where
 g:q
theorem gwA{p:Prop}(h:p:=by (with_reducible repeat'(first|simp(disch:=omega)only[push_cast,↓zz,seval]|refine sp_ ?_ ?_<;>try(intro hc;push_cast at hc)|omega|intro _))):p:=h
theorem ywA{p q:Prop}(hq:q)(h:Yq q->p:=by intro h_;(with_reducible repeat'(first|simp(disch:=omega)only[push_cast,↓zz,seval]|refine sp_ ?_ ?_<;>try(intro hc;push_cast at hc)|omega|intro _));exact h_.g):p:=h ⟨hq⟩
theorem gwB{p:Prop}(h:p:=by (with_reducible repeat'(first|simp(disch:=omega)only[push_cast,↓zz,seval,f_]|refine sp_ ?_ ?_<;>try(intro hc;push_cast at hc)|omega|intro _))):p:=h
theorem ywB{p q:Prop}(hq:q)(h:Yq q->p:=by intro h_;(with_reducible repeat'(first|simp(disch:=omega)only[push_cast,↓zz,seval,f_]|refine sp_ ?_ ?_<;>try(intro hc;push_cast at hc)|omega|intro _));exact h_.g):p:=h ⟨hq⟩
theorem gwC{p:Prop}(h:p:=by (with_reducible repeat'(first|simp(disch:=omega)only[push_cast,↓zz,seval]|refine sp_ ?_ ?_<;>try(intro hc;push_cast at hc)|refine ee e_ ?_|refine ee e_1 ?_|refine ee e_2 ?_|refine ee e_3 ?_|((first|refine cc e_ ?_|refine cc e_1 ?_|refine cc e_2 ?_|refine cc e_3 ?_);(simp(disch:=omega)only[push_cast,↓zz,seval]);(fail_if_success with_reducible change False))|omega|intro _))):p:=h
theorem ywC{p q:Prop}(hq:q)(h:Yq q->p:=by intro h_;(with_reducible repeat'(first|simp(disch:=omega)only[push_cast,↓zz,seval]|refine sp_ ?_ ?_<;>try(intro hc;push_cast at hc)|refine ee e_ ?_|refine ee e_1 ?_|refine ee e_2 ?_|refine ee e_3 ?_|((first|refine cc e_ ?_|refine cc e_1 ?_|refine cc e_2 ?_|refine cc e_3 ?_);(simp(disch:=omega)only[push_cast,↓zz,seval]);(fail_if_success with_reducible change False))|omega|intro _));exact h_.g):p:=h ⟨hq⟩
theorem gwD{p:Prop}(h:p:=by (with_reducible repeat'(first|simp(disch:=omega)only[push_cast,↓zz,seval,f_]|refine sp_ ?_ ?_<;>try(intro hc;push_cast at hc)|refine ee e_ ?_|refine ee e_1 ?_|refine ee e_2 ?_|refine ee e_3 ?_|((first|refine cc e_ ?_|refine cc e_1 ?_|refine cc e_2 ?_|refine cc e_3 ?_);(simp(disch:=omega)only[push_cast,↓zz,seval,f_]);(fail_if_success with_reducible change False))|omega|intro _))):p:=h
theorem ywD{p q:Prop}(hq:q)(h:Yq q->p:=by intro h_;(with_reducible repeat'(first|simp(disch:=omega)only[push_cast,↓zz,seval,f_]|refine sp_ ?_ ?_<;>try(intro hc;push_cast at hc)|refine ee e_ ?_|refine ee e_1 ?_|refine ee e_2 ?_|refine ee e_3 ?_|((first|refine cc e_ ?_|refine cc e_1 ?_|refine cc e_2 ?_|refine cc e_3 ?_);(simp(disch:=omega)only[push_cast,↓zz,seval,f_]);(fail_if_success with_reducible change False))|omega|intro _));exact h_.g):p:=h ⟨hq⟩
end Go.Proofs.YtflibbceibjddaaGreat.Abs
namespace Go.Proofs.YtflibbceibjddaaGreat
open Abs O1 O2 O3
structure Span where
 lo:Int
 hi:Int
 deriving DecidableEq,Inhabited
structure Part where
 at_:Int
 drop:Int
 take:Int
 up:Int
 deriving DecidableEq,Inhabited
structure Term where
 base:Int
 drop:Int
 take:Int
 up:Int
 sum:Int
 parts:List Part
 deriving DecidableEq,Inhabited
structure Rule where
 from_:Int
 to_:Int
 guards:List (List Span)
 eat:Int
 out:List Term
 deriving DecidableEq,Inhabited
structure DO where
 from_:Int
 guards:List (List Span)
 out:List Term
 deriving DecidableEq,Inhabited
structure Desc where
 in_:Int
 out:Int
 states:Int
 start:Int
 rules:List Rule
 finals:List DO
 deriving DecidableEq,Inhabited
abbrev FY(l:List Int):AV:=.lst 1 (l.map (AV.int .i64))
abbrev Bp(l:List Int):AV:=.lst 1 (l.map (AV.int .i32))
abbrev Ce(s:Span):AV:=.agg [.int .i64 s.lo,.int .i64 s.hi]
abbrev AA(l:List Span):AV:=.lst 2 (l.map Ce)
abbrev AQ(l:List (List Span)):AV:=.lst 1 (l.map AA)
abbrev Dp(p:Part):AV:=.agg [.int .i64 p.at_,.int .i64 p.drop,.int .i64 p.take,.int .i64 p.up]
abbrev Cu(l:List Part):AV:=.lst 4 (l.map Dp)
abbrev C9(t:Term):AV:=.agg [.int .i64 t.base,.int .i64 t.drop,.int .i64 t.take,.int .i64 t.up,.int .i64 t.sum,Cu t.parts]
abbrev C5(l:List Term):AV:=.lst 6 (l.map C9)
abbrev DD(r:Rule):AV:=.agg [.int .i64 r.from_,.int .i64 r.to_,AQ r.guards,.int .i64 r.eat,C5 r.out]
abbrev CY(f:DO):AV:=.agg [.int .i64 f.from_,AQ f.guards,C5 f.out]
abbrev CB(l:List Rule):AV:=.lst 5 (l.map DD)
abbrev Cv(l:List DO):AV:=.lst 3 (l.map CY)
abbrev C6(d:Desc):AV:=.agg [.int .i64 d.in_,.int .i64 d.out,.int .i64 d.states,.int .i64 d.start,CB d.rules,Cv d.finals]
abbrev JY(l:List (List Int)):AV:=.lst 1 (l.map Bp)
theorem Cs(l:List Span):AJ (l.map Ce)=true:=CO (λ_=>rfl) l
theorem Cx(l:List Part):AJ (l.map Dp)=true:=CO (λ_=>rfl) l
theorem B0(l:List (List Span)):AJ (l.map AA)=true:=CO (λs=>by simp only[AA,AV.pure,Cs]) l
theorem Cy(l:List Term):AJ (l.map C9)=true:=CO (λs=>by simp[C9,AV.pure,AJ,Cx]) l
theorem BJ(l:List Rule):AJ (l.map DD)=true:=CO (λs=>by simp[DD,AV.pure,AJ,B0,Cy]) l
theorem BD(l:List DO):AJ (l.map CY)=true:=CO (λs=>by simp[CY,AV.pure,AJ,B0,Cy]) l
theorem Gb(l:List Int):AJ (l.map (AV.int .i32))=true:=C4 .i32 _
theorem KX(l:List (List Int)):AJ (l.map Bp)=true:=CO (λs=>by simp only[Bp,AV.pure,C4]) l
attribute [push_cast] Cs Cx B0 Cy BJ BD KX
attribute [push_cast] Cs Cx B0 Cy BJ BD Gb KX
end Go.Proofs.YtflibbceibjddaaGreat
namespace Go.Proofs.YtflibbceibjddaaGreat.Abs
open Go.RowKit
inductive Sh where
 |bool
 |int (k:IntKind)
 |str
 |sl (agg:Bool) (fs:List Sh)
mutual
def Is:Sh->AV->Prop
 |.bool,x=>∃b,x=.bool b
 |.int k,x=>∃n,x=.int k n/\(Lit.int k n).wf=true
 |.str,x=>∃s:List UInt8,x=.str s/\s.length<=maxLen
 |.sl agg fs,x=>x=.nilS\/∃xs,x=.lst fs.length xs/\xs.length<=maxLen/\∀y∈xs,∃cs,y=(if agg then .agg cs else cs.headD .any)/\IsL fs cs
def IsL:List Sh->List AV->Prop
 |[],cs=>cs=[]
 |s::fs,cs=>∃c r,cs=c::r/\Is s c/\IsL fs r
end
theorem TC:∀{fs:List Sh}{cs:List AV},IsL fs cs->cs.length=fs.length
 |[],_,h=>by rw[show _=[] from h];rfl
 |_::_,_,⟨_,_,h,_,k⟩=>by rw[h];simp[TC k]
mutual
def Rt(P:Program):Sh->TypeId->Bool
 |.bool,t=>match P.underlying t with|some .bool=>true|_=>false
 |.int k,t=>match P.underlying t with|some (.int k')=>k' == k|_=>false
 |.str,t=>match P.underlying t with|some .string=>true|_=>false
 |.sl agg fs,t=>match P.underlying t with
  |some (.slice e)=>P.cellsOf e == fs.length&&!fs.isEmpty&&(match agg,P.underlying e with
   |true,some (.struct fl)=>Ru P fs 0 fl.toList
   |true,some (.array n u)=>fs.length == n&&P.cellsOf u == 1&&z9a P fs u
   |false,_=>fs.length == 1&&z9a P fs e
   |_,_=>false)
  |_=>false
def Ru(P:Program):List Sh->Nat->List Field->Bool
 |[],_,[]=>true
 |s::ss,i,f::fl=>f.offset == i&&P.cellsOf f.type == 1&&Rt P s f.type&&Ru P ss (i+1) fl
 |_,_,_=>false
def z9a(P:Program):List Sh->TypeId->Bool
 |[],_=>true
 |s::ss,u=>Rt P s u&&z9a P ss u
end
section
variable {H:Type}{enc:TypeId × Value->H}{P:Program}{w:World}{base:Nat}{spare:Nat->Bool}{held:Bool}
def Got(w:World)(s:Sh)(v:Value):Prop:=∃x,Is s x/\VRel (MS.start w) x v/\x.pure=true/\x.one=true
def GotL(w:World)(fs:List Sh)(vs:List Value):Prop:=∃xs,IsL fs xs/\AB (MS.start w) xs vs/\AJ xs=true/\GB xs=true
theorem ZP:GotL w [] []:=⟨[],rfl,rfl,rfl,rfl⟩
theorem Vy{s:Sh}{fs:List Sh}{v:Value}{vs:List Value}(h:Got w s v)(k:GotL w fs vs):GotL w (s::fs) (v::vs):=by
 obtain⟨x,h1,h2,h3,h4⟩:=h;obtain⟨xs,k1,k2,k3,k4⟩:=k;exact⟨x::xs,⟨x,xs,rfl,h1,k1⟩,⟨v,vs,rfl,h2,k2⟩,by simp[AJ,h3,k3],by simp[GB,h4,k4]⟩
theorem XW{a:Addr}{v:Value}(h:w.cell? a=some v):(MS.start w).im a.block:=z3y h
theorem zo0{agg:Bool}{fs:List Sh}{a:Addr}{len cap sz:Nat}(hsz:sz=fs.length)(hpos:0<fs.length)(hagg:agg=false->fs.length=1)(hlc:len<=cap)(hcap:cap<=maxLen)
 (h:∀i,i<len->∃cs',w.cells? base (a.add (i * sz)) sz=some cs'/\GotL w fs cs'):Got w (.sl agg fs) (.slice (some a) len cap):=by
 subst hsz
 have h':∀i:Nat,∃p:List AV × List Value,i<len->(w.cells? base (a.add (i * fs.length)) fs.length=some p.2/\IsL fs p.1/\AB (MS.start w) p.1 p.2/\AJ p.1=true/\GB p.1=true):=by
  intro i;by_cases hi:i<len
  ·obtain⟨cs',h1,xs,h2,h3,h4,h5⟩:=h i hi
   exact⟨(xs,cs'),λ_=>⟨h1,h2,h3,h4,h5⟩⟩
  ·exact⟨([],[]),λh=>absurd h hi⟩
 obtain⟨p,hp⟩:=Classical.axiomOfChoice h'
 let E:List AV->AV:=λcs=>if agg then .agg cs else cs.headD .any
 let V:List Value->Value:=λcs=>if agg then .agg cs.toArray else cs.headD undef
 let xs:List AV:=(List.range len).map λi=>E (p i).1
 let vs:List Value:=(List.range len).map λi=>V (p i).2
 have hone:∀i,i<len->(V (p i).2).cells.toList=(p i).2/\VRel (MS.start w) (E (p i).1) (V (p i).2)/\(E (p i).1).pure=true:=by
  intro i hi;obtain⟨q1,q2,q3,q4,q5⟩:=hp i hi;have hl1:(p i).1.length=fs.length:=TC q2;cases agg with
  |true=>exact⟨by simp[V,Value.cells],⟨_,rfl,q3⟩,by simp[E,AV.pure,q4]⟩
  |false =>
   have h1:=hagg rfl;rw[h1] at hl1
   match hc:(p i).1,(p i).2,q3,q4,q5,hl1 with
   |[c],[v],⟨v',r,hv,hr,hr2⟩,q4,q5,_ =>
    cases hv;have hno:c.one=true:=by simpa [GB] using q5
    have hcc:c.cells=[c]:=by cases c<;>first|rfl|(simp[AV.one] at hno)
    have hca:c.isAny=false:=by cases c<;>first|rfl|(simp[AV.one] at hno)
    have hcl:=VRel.cells hca hr;rw[hcc] at hcl;obtain⟨u,r2,hu,hu2,hu3⟩:=hcl;rw[show r2=[] from hu3] at hu
    have hv1:v.cells.toList=[v]:=by
     have:=one_cell hr hno;cases v<;>first|rfl|(simp[Value.oneCell'] at this)
    exact⟨by simpa [V] using hv1,by simpa [E,V] using hr,by simpa [E,AJ] using q4⟩
 have hxl:xs.length=len:=by simp[xs]
 have hvl:vs.length=len:=by simp[vs]
 have hxi:∀i,i<len->xs[i]? = some (E (p i).1):=λi hi=>by simp[xs,hi]
 have hvi:∀i,i<len->vs[i]? = some (V (p i).2):=λi hi=>by simp[vs,hi]
 have hvs:AB (MS.start w) xs vs:=AB.of_get (by rw[hxl,hvl]) λi x v hx hv=>by
  have hi:i<len:=by rw[<-hxl];exact (Bh.1 hx).1
  rw[hxi i hi] at hx;rw[hvi i hi] at hv;cases hx;cases hv;exact (hone i hi).2.1
 have hpu:AJ xs=true:=Bz.2 λx hx=>by
  obtain⟨i,hi,rfl⟩:=Al.1 hx;exact (hone i (AF.1 hi)).2.2
 refine⟨.lst fs.length xs,.inr ⟨xs,rfl,by rw[hxl];omega,λy hy=>?_⟩,⟨hpu,hpos,some a,cap,vs,by rw[hxl],⟨by rw[hxl];exact hlc,λhn=>by cases hn⟩,hvs,λhne=>?_⟩,by simpa [AV.pure] using hpu,rfl⟩
 ·obtain⟨i,hi,rfl⟩:=Al.1 hy
  exact⟨_,rfl,(hp i (AF.1 hi)).2.1⟩
 ·have h0:0<len:=by rw[<-hxl];exact Cz.2 hne
  obtain⟨b,o,spot⟩:=a
  have hcell:∀i,i<len->∀j,j<fs.length->w.cell? ((⟨b,o,spot⟩:Addr).add (i * fs.length+j))=(p i).2[j]? := λi hi j hj=>by
   obtain⟨_,_,hat⟩:=World.cells?_some (hp i hi).1;rw[<-hat j hj,<-Go.Deep.add_add]
  have hlen2:∀i,i<len->(p i).2.length=fs.length:=λi hi=>(World.cells?_some (hp i hi).1).2.1;have hc0:=hcell 0 h0 0 hpos;rw[Ar (by rw[hlen2 0 h0];exact hpos)] at hc0;have hspot:spot=none:=by simpa [Addr.add] using World.cell?_spot hc0
  subst hspot;have hbk:∀k:Nat,((⟨b,o,none⟩:Addr).add k).block=b:=λk=>by unfold Addr.add;split<;>rfl
  refine⟨b,o,rfl,by have:=XW hc0;rwa [hbk] at this,λi v hv=>?_⟩;have hi:i<len:=by rw[<-hvl];exact (Bh.1 hv).1
  rw[hvi i hi] at hv;cases hv;obtain⟨e1,_,_⟩:=hone i hi;have e1':(V (p i).2).cells=(p i).2.toArray:=by simpa using Bt List.toArray e1
  obtain⟨_,q2,q3,_,q5⟩:=hp i hi;refine⟨by rw[e1'];simp[hlen2 i hi],λc hc=>?_,λj hj=>?_⟩
  ·rw[e1'] at hc
   exact Pr q3 q5 c (by simpa using hc)
  ·rw[e1']
   have:=hcell i hi j hj
   have ea:(⟨b,o,none⟩:Addr).add (i * fs.length+j)=⟨b,o+i * fs.length+j,none⟩:=by
    unfold Addr.add;split
    ·rename_i hz
     have:i * fs.length=0/\j=0:=by simpa using hz
     rw[this.1,this.2];rfl
    ·simp[Bu]
   rw[ea] at this;refine this.trans ?_;simp
theorem PM:∀{fs:List Sh}{i:Nat}{fl:List Field},Ru P fs i fl=true->fl.length=fs.length
 |[],_,[],_=>rfl
 |[],_,_::_,h=>by simp[Ru] at h
 |_::_,_,[],h=>by simp[Ru] at h
 |s::fs,i,f::fl,h=>by
  simp only[Ru,Ac] at h;simp[PM h.2]
mutual
theorem zo1:∀(s:Sh){t:TypeId}{fuel:Nat}{v:Value}{d:DataW H × List MemPlace},Rt P s t=true->DataW.trod enc P w base spare held fuel t [v]=some d->Got w s v
 |.bool,t,fuel,v,d,hf,h=>by
  cases fuel with
  |zero=>simp[DataW.trod] at h
  |succ n =>
   simp only[Rt] at hf;split at hf
   ·rename_i ht
    unfold DataW.trod at h;rw[ht] at h;cases v<;>simp at h;rename_i b;exact⟨.bool b,⟨b,rfl⟩,rfl,rfl,rfl⟩
   ·cases hf
 |.int k,t,fuel,v,d,hf,h=>by
  cases fuel with
  |zero=>simp[DataW.trod] at h
  |succ n =>
   simp only[Rt] at hf;split at hf
   ·rename_i k' ht
    obtain rfl:k'=k:=by simpa using hf
    unfold DataW.trod at h;rw[ht] at h;cases v<;>simp at h;rename_i k2 m;obtain⟨⟨rfl,hw⟩,_⟩:=h;exact⟨.int k2 m,⟨m,rfl,hw⟩,rfl,rfl,rfl⟩
   ·cases hf
 |.str,t,fuel,v,d,hf,h=>by
  cases fuel with
  |zero=>simp[DataW.trod] at h
  |succ n =>
   simp only[Rt] at hf;split at hf
   ·rename_i ht
    unfold DataW.trod at h;rw[ht] at h;cases v<;>simp at h;rename_i s;exact⟨.str s.data.toList,⟨_,rfl,by simpa using h.1⟩,rfl,rfl,rfl⟩
   ·cases hf
 |.sl agg fs,t,fuel,v,d,hf,h=>by
  simp only[Rt] at hf;split at hf
  ·rename_i e ht
   simp only[Ac,Ck,Cj,List.isEmpty_eq_false_iff] at hf;obtain⟨⟨hsz,hne⟩,hfe⟩:=hf;have hpos:0<fs.length:=Cz.2 hne;rcases Go.Deep.open_slice ht h with⟨hv,_⟩|⟨a,len,cap,m,n,D,Pl,hv,hb,hl,hm,hmm,hx,hi⟩
   ·cases hv
    exact⟨.nilS,.inl rfl,rfl,rfl,rfl⟩
   ·cases hv
    have hlm:len<=m:=by rw[hmm];split<;>omega
    have hag:agg=false->fs.length=1:=λha=>by
     subst ha;simp only[Ac,Ck] at hfe;exact hfe.1
    refine zo0 (base:=base) hsz hpos hag hl hm λi hil=>?_;obtain⟨cs',hc,ht'⟩:=hi i om;refine⟨cs',hc,?_⟩;have hcl:=(World.cells?_some hc).2.1;cases agg with
    |true =>
     split at hfe
     ·rename_i fl _ he
      obtain⟨ys,n',_,_,_,hlen,hg⟩:=DataW.trod_struct he ht';have hfl:=PM hfe
      exact zo2 fs (fl:=fl.toList) (i:=0) (cs:=cs') hfe (by rw[hcl,hsz];omega) λj f hj=>by
       have:=hg j f (by simpa using hj);have hj2:j<ys.length:=by rw[hlen];have:=(Bh.1 hj).1;simpa using this
       rw[Ar hj2] at this;exact⟨n',_,this,rfl⟩
     ·rename_i n2 u _ he
      simp only[Ac,Ck] at hfe;obtain⟨⟨hn,hu⟩,hfa⟩:=hfe;obtain⟨ys,n',_,_,hlen,hyl,hg⟩:=DataW.trod_array he ht';refine zo3 fs (u:=u) (cs:=cs') (i:=0) hfa om λj hj=>?_;have h1:=hg j om;rw[hu,Nat.mul_one] at h1;have h2:ys[j]? = some (ys[j]'om):=Ar om;rw[h2] at h1;exact⟨n',_,by rw[AY];exact h1⟩
     ·rename_i hh;cases hh
     ·cases hfe
    |false =>
     simp only[Ac,Ck] at hfe;refine zo3 fs (u:=e) (cs:=cs') (i:=0) hfe.2 om λj hj=>?_;obtain rfl:j=0:=om
     exact⟨n,_,by rw[BH,Ay om];exact ht'⟩
  ·cases hf
theorem zo2:∀(fs:List Sh){fl:List Field}{i:Nat}{cs:List Value},Ru P fs i fl=true->cs.length=i+fs.length ->
 (∀(j:Nat)(f:Field),fl[j]? = some f->∃n y,DataW.trod enc P w base spare held n f.type ((cs.drop f.offset).take (P.cellsOf f.type))=y/\y.isSome=true)->GotL w fs (cs.drop i)
 |[],fl,i,cs,hf,hl,h=>by
  rw[Ao (by rw[hl];simp)];exact ZP
 |s::fs,fl,i,cs,hf,hl,h=>by
  cases fl with
  |nil=>simp[Ru] at hf
  |cons f fl =>
   simp only[Ru,Ac,Ck] at hf;obtain⟨⟨⟨ho,hc⟩,hs⟩,hr⟩:=hf;have hi:i<cs.length:=by rw[hl];simp
   rw[CK hi];obtain⟨n,y,h1,h2⟩:=h 0 f rfl;obtain⟨d,rfl⟩:=Option.isSome_iff_exists.1 h2;rw[ho,hc,CK hi,List.take_succ_cons,List.take_zero] at h1;refine Vy (zo1 s hs h1) (zo2 fs hr (by rw[hl];simp;omega) λj g hj=>h (j+1) g (by simpa using hj))
theorem zo3:∀(fs:List Sh){u:TypeId}{i:Nat}{cs:List Value},z9a P fs u=true->cs.length=i+fs.length ->
 (∀j,j<fs.length->∃n d,DataW.trod enc P w base spare held n u ((cs.drop (i+j)).take 1)=some d)->GotL w fs (cs.drop i)
 |[],u,i,cs,hf,hl,h=>by
  rw[Ao (by rw[hl];simp)];exact ZP
 |s::fs,u,i,cs,hf,hl,h=>by
  simp only[z9a,Ac] at hf;have hi:i<cs.length:=by rw[hl];simp
  rw[CK hi];obtain⟨n,d,h1⟩:=h 0 oc;rw[Nat.add_zero,CK hi,List.take_succ_cons,List.take_zero] at h1;refine Vy (zo1 s hf.1 h1) (zo3 fs hf.2 (by rw[hl];simp;omega) λj hj=>?_);have:=h (j+1) (by simp;omega)
  rwa [show i+(j+1)=i+1+j by omega] at this
end
end
open Go.RowKit Go.ChangeShapes Go.WideShapes
inductive PSh where
 |cell (s:Sh)
 |rcd (fs:List Sh)
def IsP:PSh->AV->Prop
 |.cell s,x=>Is s x
 |.rcd fs,x=>∃cs,x=.agg cs/\IsL fs cs
def IsPs:List PSh->List AV->Prop
 |[],xs=>xs=[]
 |p::ps,xs=>∃x r,xs=x::r/\IsP p x/\IsPs ps r
def zo4(P:Program):PSh->TypeId->Bool
 |.cell s,t=>Rt P s t
 |.rcd fs,t=>match P.underlying t with
  |some (.struct fl)=>P.cellsOf t == fs.length&&Ru P fs 0 fl.toList
  |_=>false
def Sb(P:Program):List PSh->List TypeId->Bool
 |[],[]=>true
 |p::ps,t::ts=>zo4 P p t&&Sb P ps ts
 |_,_=>false
section
variable {H:Type}{enc:TypeId × Value->H}{P:Program}{w:World}{spare:Nat->Bool}{held:Bool}
theorem XX{s:Sh}{t:TypeId}{r:Reach}{b0:Nat}{v:Value}(hf:Rt P s t=true)(h:Value.okWide P w r b0 t v):v.cells.toList=[v]:=by
 cases s<;>simp only[Rt] at hf<;>split at hf<;>first|(cases hf;done)|skip
 ·obtain⟨b,rfl⟩:=okWide_bool ‹_› h;rfl
 ·obtain⟨b,rfl⟩:=okWide_int ‹_› h;rfl
 ·obtain⟨b,rfl⟩:=okWide_string ‹_› h;rfl
 ·obtain⟨a,l,c,rfl⟩:=okWide_slice ‹_› h;rfl
theorem zo5{p:PSh}{t:TypeId}{r:Reach}{b0:Nat}{v:Value}{d:DataW H}{ps:List MemPlace}(hf:zo4 P p t=true)(hw:Value.okWide P w r b0 t v)(h:DataW.Trod enc P w 0 spare held t v d ps):∃x,IsP p x/\VRel (MS.start w) x v:=by
 obtain⟨fuel,h⟩:=h;cases p with
 |cell s =>
  rw[XX hf hw] at h;obtain⟨x,h1,h2,_⟩:=zo1 s hf h;exact⟨x,h1,h2⟩
 |rcd fs =>
  simp only[zo4] at hf;split at hf
  ·rename_i fl ht
   simp only[Ac,Ck] at hf;obtain⟨cs,rfl,hc⟩:=okWide_struct ht hw;obtain⟨ys,n',_,_,_,hlen,hg⟩:=DataW.trod_struct ht h;have hfl:=PM hf.2
   obtain⟨xs,h1,h2,_⟩:=zo2 fs (fl:=fl.toList) (i:=0) (cs:=cs.toList) hf.2 (by simp;omega) λj f hj=>by
    have:=hg j f (by simpa using hj);have hj2:j<ys.length:=by rw[hlen];have:=(Bh.1 hj).1;simpa using this
    rw[Ar hj2] at this;exact⟨n',_,this,rfl⟩
   exact⟨.agg xs,⟨xs,rfl,h1⟩,cs.toList,oc,by simpa using h2⟩
  ·cases hf
theorem ZQ:∀{ps:List PSh}{ts:List TypeId}{vs:List Value}{ds:List (DataW H)}{q:List MemPlace}{r:Reach}{b0:Nat},Sb P ps ts=true->(∀(j:Nat) t v,ts[j]? = some t->vs[j]? = some v->Value.okWide P w r b0 t v) ->
 DataW.TrodAll enc P w 0 spare held ts vs ds q->∃xs,IsPs ps xs/\AB (MS.start w) xs vs
 |[],[],[],[],_,_,_,_,_,_=>⟨[],rfl,rfl⟩
 |p::ps,t::ts,v::vs,d::ds,_,_,_,hf,hw,⟨a,b,h1,h2,_⟩=>by
  simp only[Sb,Ac] at hf;obtain⟨x,k1,k2⟩:=zo5 hf.1 (hw 0 t v rfl rfl) h1;obtain⟨xs,k3,k4⟩:=ZQ hf.2 (λj t v ht hv=>hw (j+1) t v (by simpa using ht) (by simpa using hv)) h2;exact⟨x::xs,⟨x,xs,rfl,k1,k3⟩,v,vs,rfl,k2,k4⟩
 |[],_::_,_,_,_,_,_,hf,_,_=>by simp[Sb] at hf
 |_::_,[],_,_,_,_,_,hf,_,_=>by simp[Sb] at hf
 |[],[],_::_,_,_,_,_,_,_,h=>h.elim
 |[],[],[],_::_,_,_,_,_,_,h=>h.elim
 |_::_,_::_,[],_,_,_,_,_,_,h=>by cases ‹List (DataW H)›<;>exact h.elim
 |_::_,_::_,_::_,[],_,_,_,_,_,h=>h.elim
def z9b(P:Program)(ts:List TypeId):Bool:=ts.all λt=>P.readableRec t&&decide (t<P.types.size)
theorem Vz{W W':World}(hl:laidOutB P=true)(hb:Below W.heap.size W W'):∀{ts:List TypeId}{vs:List Value}{ds:List (DataW H)}{ps:List MemPlace},z9b P ts=true->(∀x∈ps,x.block<W.heap.size) ->
 DataW.TrodAll enc P W 0 (λ_=>true) true ts vs ds ps->DataW.TrodAll enc P W' 0 (λb=>decide (b<W.heap.size)) true ts vs ds ps
 |[],[],[],_,_,_,h=>h
 |t::ts,v::vs,d::ds,_,hr,hlt,⟨a,b,h1,h2,e⟩=>by
  subst e;simp only[z9b,List.all_cons,Ac,Ah] at hr;exact⟨a,b,Below.trod hl hr.1.1 hr.1.2 h1 hb (λx hx=>hlt x (DG _ hx)),Vz hl hb (by simpa [z9b] using hr.2) (λx hx=>hlt x (Ez _ hx)) h2,rfl⟩
 |[],[],_::_,_,_,_,h=>h.elim
 |[],_::_,_,_,_,_,h=>by cases ‹List (DataW H)›<;>exact h.elim
 |_::_,[],_,_,_,_,h=>by cases ‹List (DataW H)›<;>exact h.elim
 |_::_,_::_,[],_,_,_,h=>h.elim
theorem z9c{f:Nat}{ps:List PSh}{ts:List TypeId}(hf:Sb P ps ts=true)(h:∀xs,IsPs ps xs->PC P f xs (.bool true)){args:Array Value}{ds:List (DataW H)}{q:List MemPlace}{r:Reach}{b0:Nat}
 (hw:∀(j:Nat) t v,ts[j]? = some t->args.toList[j]? = some v->Value.okWide P w r b0 t v) (hA:DataW.TrodAll enc P w 0 spare held ts args.toList ds q) :
 Calls P f args w λe w'=>e=.returned (.bool true)/\Below w.heap.size w w':=by
 obtain⟨xs,h1,h2⟩:=ZQ hf hw hA;have:=(h xs h1).below h2;simpa using this
end
end Go.Proofs.YtflibbceibjddaaGreat.Abs
set_option maxRecDepth 100000
namespace Go.Proofs.YtflibbceibjddaaGreat
open Abs
abbrev nI_(n:Int):AV:=.int .i64 n
abbrev bF_:AV:=.bool false
abbrev bT_:AV:=.bool true
abbrev s_(n:Nat):AArg:=.slot n
abbrev k_(x:AV):AArg:=.const x
abbrev h_(a:List AArg)(k:AK):AOp:=⟨none,a,none,k⟩
abbrev m_(d:Nat)(a:List AArg)(k:AK):AOp:=⟨some d,a,none,k⟩
abbrev g_(d g:Nat)(w:Bool)(a:List AArg)(k:AK):AOp:=⟨some d,a,some (g,w),k⟩
abbrev ld:AK:=.load false 1
abbrev ln:AK:=.len false
abbrev l6:AK:=.load true 6
abbrev nt:AK:=.un .not
abbrev st:AK:=.store 1
abbrev f0_:AK:=.faddr false 0 1
abbrev f1_:AK:=.faddr false 1 1
abbrev f2_:AK:=.faddr false 2 1
abbrev f3_:AK:=.faddr false 3 1
abbrev f4_:AK:=.faddr false 4 1
abbrev f5_:AK:=.faddr false 5 1
abbrev bad_:AK:=.bin .add
abbrev bls_:AK:=.bin .lss
abbrev beq_:AK:=.bin .eql
abbrev bgt_:AK:=.bin .gtr
abbrev bsu_:AK:=.bin .sub
abbrev ble_:AK:=.bin .leq
abbrev bne_:AK:=.bin .neq
abbrev bge_:AK:=.bin .geq
abbrev a1_:AK:=.iaddr 1
abbrev a2_:AK:=.iaddr 2
abbrev a3_:AK:=.iaddr 3
abbrev a4_:AK:=.iaddr 4
abbrev a5_:AK:=.iaddr 5
abbrev a6_:AK:=.iaddr 6
abbrev v_(d a:Nat):AOp:=⟨some d,[.slot a],none,.mv⟩
abbrev z_(d:Nat):AOp:=⟨some d,[.const (.int .i64 0)],none,.mv⟩
abbrev i1_(d a:Nat):AOp:=⟨some d,[.slot a,.const (.int .i64 1)],none,.bin .add⟩
abbrev bf_(d:Nat):AOp:=⟨some d,[.const (.bool false)],none,.mv⟩
abbrev bt_(d:Nat):AOp:=⟨some d,[.const (.bool true)],none,.mv⟩
abbrev ns_(d:Nat):AOp:=⟨some d,[.const .nilS],none,.mv⟩
abbrev ex_(s e:Nat):AC:=.cond (.slot s) .skip (.exit e)
abbrev i_(s:Nat)(a b:AC):AC:=.cond (.slot s) a b
abbrev sr_(l:List AOp)(c:AC):AC:=.seq (.reg l) c
abbrev a6:=λa b c=>(sr_ a (.seq b c):AC)
abbrev a7:=λa=>(sr_ a .ret:AC)
abbrev a8:=λa b=>(o1 a b ld:AOp)
abbrev aa:=λa b=>(.block a (.loop b):AC)
abbrev ac:=λa b c=>(.seq (.block a b) c:AC)
abbrev ae:=λa b c d=>(g_ a b false c d:AOp)
abbrev ai:=λa=>([s_ a]:List AArg)
abbrev aj:=λa b=>(i_ a b .skip:AC)
abbrev ak:=λa b c=>(m_ a (ai b) c:AOp)
abbrev am:=λa b c d=>(c2 a b (nI_ c) d:AOp)
abbrev ap:=λa=>(.load true a:AK)
abbrev aq:=λa b c=>(sr_ a (aj b c):AC)
abbrev au:=λa b=>(o1 a b .nilCheck:AOp)
abbrev av:=λa b c=>(ac a b (.reg c):AC)
abbrev aw:=λa b c=>(o0 a (.alloc b c):AOp)
abbrev ax:=λa b=>(m_ a b .pick:AOp)
abbrev ay:=λa b c=>(n2 a b (.store c):AOp)
abbrev az:=λa b c=>(o1 a b (.extract c):AOp)
abbrev b8:=λa b=>(o1 a b ln:AOp)
abbrev b9:=λa=>(k_ (nI_ a):AArg)
abbrev ba:=λa b c=>(sr_ a (aa b c):AC)
abbrev be:=λa b c=>(o2 a b c bls_:AOp)
abbrev bg:=λa b=>(k_ (.fn a b):AArg)
abbrev bh:=λa b c d=>(.bslice a b (.agg c) d:AK)
abbrev bj:=λa b c d=>(ae a b (ai c) d:AOp)
abbrev bk:=λa=>(v_ a 0:AOp)
abbrev bl:=λa b c d=>(a6 a (ex_ b c) d:AC)
abbrev bm:=λa b=>([s_ a,b]:List AArg)
abbrev bn:=λa b c=>([a,v_ b c]:List AOp)
abbrev bo:=λa b c d=>(bn (i1_ a b) c d:List AOp)
abbrev bp:=λa b c=>(o2 a b c a1_:AOp)
abbrev bq:=λa b c=>(aq a b (a7 c):AC)
abbrev bt:=λa b c=>(aw a (.agg b) c:AOp)
abbrev bu:=λa b c d=>(g_ a b true c d:AOp)
abbrev bw:=λa b=>(.faddr false a b:AK)
abbrev bz:=λa b c d=>(av a (sr_ b c) d:AC)
abbrev c8:=λa b c=>([s_ a,b,c]:List AArg)
abbrev c9:=λa b c d=>(ax a (c8 b c d):AOp)
abbrev cd:=λa b c d e f=>(ba a b (bl c d e f):AC)
abbrev ce:=λa b=>(m_ a b .call:AOp)
abbrev cf:=λa=>(v_ a 1:AOp)
abbrev cg:=λa b c=>(o1 a b (ap c):AOp)
abbrev ci:=λa b=>(o1 a b .box:AOp)
abbrev cj:=λa b c d=>([a,b,v_ c d]:List AOp)
abbrev ck:=(k_ bF_:AArg)
abbrev cl:=λa b c d=>(a6 a b (.seq c d):AC)
abbrev cm:=λa b c=>(g1 a b c .mv:AOp)
abbrev cn:=λa b=>(bm a (b9 b):List AArg)
abbrev co:=λa b c=>(.app a b (.agg c):AK)
abbrev cp:=λa b c=>([be a b c]:List AOp)
abbrev cq:=λa b c d e f g h=>(cd a b (cp c d e) f g h:AC)
abbrev cr:=λa b=>(o1 a b f1_:AOp)
abbrev ct:=λa b=>(bm a (s_ b):List AArg)
abbrev cu:=λa b=>(o1 a b f2_:AOp)
abbrev cv:=λa b=>(ak a b .nilCheck:AOp)
abbrev cw:=λa b c d e f g=>(bz a b c (bo d e f g):AC)
abbrev cy:=λa=>([bf_ a]:List AOp)
abbrev cz:=λa b c d=>(c9 a b (s_ c) d:AOp)
abbrev d4:=λa b=>(sr_ a (a7 b):AC)
abbrev d5:=λa=>([ns_ a]:List AOp)
abbrev d6:=λa b=>(ak a b ld:AOp)
abbrev d7:=λa=>(bg a []:AArg)
abbrev d8:=(k_ bT_:AArg)
abbrev d9:=λa b=>(o1 a b f0_:AOp)
abbrev da:=λa b c d=>(o2 a b c (.bin d):AOp)
abbrev db:=λa b c=>(a6 a b (a7 c):AC)
abbrev dc:=λa b c=>(.bslice 1 a b c:AK)
abbrev de:=λa b c d=>(.build a b [c,d]:AK)
abbrev df:=λa b c=>(cz a b c ck:AOp)
abbrev dg:=λa b c=>(c1 a (nI_ b) c:AOp)
abbrev dh:=λa b c d=>([a,b8 b c,d]:List AOp)
abbrev dm:=λa b c d=>(dh a b c (z_ d):List AOp)
abbrev dp:=λa b c d e f g h i j k l m n=>(cq a b c d e f g (cw h i j k l m n):AC)
abbrev dq:=λa b=>(sr_ a (.reg b):AC)
abbrev dt:=λa b=>([a,bf_ b]:List AOp)
abbrev du:=λa b=>(.faddr true a b:AK)
abbrev dv:=λa b c=>(am a b c bgt_:AOp)
abbrev dw:=λa=>(v_ a 5:AOp)
abbrev dx:=λa b=>(n2 a b st:AOp)
abbrev dy:=λa b c d=>(m_ a (ct b c) d:AOp)
abbrev dz:=λa b c=>(am a b c beq_:AOp)
abbrev e8:=λa b c=>(am a b c bsu_:AOp)
abbrev e9:=λa b c=>(bu a b c .call:AOp)
abbrev ed:=λa b c=>(.slice a b c false:AK)
abbrev ef:=λa b=>(dg a b .mv:AOp)
abbrev ei:=λa b=>(o1 a b f4_:AOp)
abbrev ej:=λa b c d=>(c9 a b c (s_ d):AOp)
abbrev ek:=λa b c=>(o2 a b c bad_:AOp)
abbrev eo:=λa b=>(o1 a b nt:AOp)
abbrev ep:=λa b c=>(g1 a b c ld:AOp)
abbrev er:=λa b=>(o1 a b l6:AOp)
abbrev eu:=λa b c d e=>(bu a b (cn c d) e:AOp)
abbrev ew:=λa b c=>(.seq (.dtl a b) c:AC)
abbrev ey:=λa b c d e=>(cj (v_ a b) c d e:List AOp)
abbrev ez:=λa b c=>(sr_ a (sr_ b c):AC)
abbrev f8:=λa b=>(ak a b .mv:AOp)
abbrev fe:=λa b c=>(.seq (sr_ a b) c:AC)
abbrev fh:=λa b c d e=>([a,b,c,v_ d e]:List AOp)
abbrev fj:=λa b=>(o1 a b f5_:AOp)
abbrev fk:=λa=>(v_ a 2:AOp)
abbrev fm:=λa b c=>(ej a b d8 c:AOp)
abbrev fo:=λa b c=>(aq a b (.reg c):AC)
abbrev fp:=λa b c=>(o2 a b c a2_:AOp)
abbrev fq:=λa b=>([a,s_ b]:List AArg)
abbrev ft:=λa b=>(fq (d7 a) b:List AArg)
abbrev fu:=λa b c=>(o2 a b c bsu_:AOp)
abbrev fv:=λa b c d=>(bn (v_ a b) c d:List AOp)
abbrev fw:=λa b c d e f=>(o1 a b (bh c d e f):AOp)
abbrev fx:=λa b=>(dc a .nilS b:AK)
abbrev fy:=λa=>(ci a 0:AOp)
abbrev g0:=λa b c=>(bq a b (cy c):AC)
abbrev g6:=λa b c=>([v_ a b,c]:List AOp)
abbrev g7:=λa b c=>(bj a b c .mv:AOp)
abbrev g8:=λa=>(v_ a 4:AOp)
abbrev g9:=λa=>([z_ a]:List AOp)
abbrev ga:=λa=>(v_ a 10:AOp)
def Jq:AC:=a6 (dt (fy 1) 2) (.dtl [er 3 1,k1 4 32 3,er 5 1,k1 6 33 5,o2 7 4 6 (.eqb false),v_ 8 7] (cj (e9 9 8 [d7 34]) (df 10 8 9) 2 10)) .ret
theorem Nt:Bm Tryz.prog 9 1=some ⟨11,1,[(.slot 2)],Jq⟩:=by kernel_rfl
def Ie:AC:=cl [fy 3,ci 5 2,ns_ 6,z_ 7] (sr_ (fh (er 12 3) (cf 13) (k2 14 59 12 13) 8 14) (bq (g6 15 8 (am 16 15 0 bne_)) 16 (ey 17 8 (ns_ 6) 7 17))) (bq [a8 18 5,am 19 18 1 bls_] 19 [ns_ 6,ef 7 1]) (sr_ [er 20 3,cf 21,k2 22 60 20 21,aw 9 .nilP 1,dx 9 22] (ez [a8 23 9,au 24 23,o1 25 24 (bw 10 1),a8 26 25,b8 27 26,o2 28 27 27 (.mkSlice 1 24 .nilS),aw 10 .nilS 1,dx 10 28] [aw 11 bF_ 1,h_ (bm 11 ck) st] (db [a8 29 9,m_ 30 [s_ 11,s_ 9,s_ 3,s_ 10,s_ 5] (.mkFunc 62),k2 31 61 29 30] (bq [a8 32 11] 32 [ns_ 6,ef 7 5]) [a8 33 10,o1 34 3 f3_,a8 35 34,bp 36 33 35,a8 37 36,v_ 6 37,z_ 7])))
theorem JN:Bm Tryz.prog 23 3=some ⟨38,3,[(.slot 6),(.slot 7)],Ie⟩:=by kernel_rfl
def Oa:AC:=db [fy 1,z_ 2] (sr_ [er 6 1,k1 7 69 6,v_ 5 7,az 8 5 0,az 9 5 1,v_ 3 8,v_ 4 9] (bq (g6 10 3 (am 11 10 0 bne_)) 11 [ef 2 2])) (g9 2)
theorem V0:Bm Tryz.prog 25 1=some ⟨12,1,[(.slot 2)],Oa⟩:=by kernel_rfl
def PN:AC:=d4 (dt (fy 1) 2) [ei 3 1,a8 4 3,ce 5 [d7 71,s_ 4,d7 72],eo 6 5,v_ 7 6,g1 8 7 1 f5_,ep 9 7 8,e9 10 7 [d7 73,s_ 9,d7 74],g1 11 7 10 nt,df 12 7 11,v_ 2 12]
theorem XY:Bm Tryz.prog 32 1=some ⟨13,1,[(.slot 2)],PN⟩:=by kernel_rfl
def PO:AC:=cl (dt (fy 1) 2) (ba (g9 3) 0 (fe [v_ 5 3,ei 6 1,a8 7 6,b8 8 7,be 9 5 8] (ex_ 9 0) (av 1 (g0 [ei 12 1,a8 13 12,v_ 14 3,o2 15 13 14 a5_,cu 16 15,a8 17 16,b8 18 17,am 19 18 1 bne_] 19 2) (ey 10 3 (i1_ 11 10) 3 11)))) (ba (g9 4) 2 (fe [g8 20,fj 21 1,a8 22 21,b8 23 22,be 24 20 23] (ex_ 24 2) (av 3 (g0 [fj 27 1,a8 28 27,g8 29,o2 30 28 29 a3_,cr 31 30,a8 32 31,b8 33 32,am 34 33 0 bne_] 34 2) (ey 25 4 (i1_ 26 25) 4 26)))) (a7 [bt_ 2])
theorem XZ:Bm Tryz.prog 33 1=some ⟨35,1,[(.slot 2)],PO⟩:=by kernel_rfl
def M4:AC:=ez (cy 0) [ce 6 [d7 75,b9 97,k_ (.str [38])],ce 7 [d7 75,b9 38,k_ (.str [38,97,109,112,59])],ce 8 [d7 36,s_ 6,s_ 7,b9 1],v_ 5 8,az 9 5 0,az 10 5 1,bt 1 [nI_ 0,nI_ 0,nI_ 0,nI_ 0,.nilS,.nilS] 6,ay 1 9 6,ga 2] (d4 [er 12 1,c1 13 (.int .i32 97) (dc 1 (.int .i32 0) [0]),ce 14 [d7 23,s_ 12,s_ 13,b9 2],v_ 11 14,az 15 11 0,az 16 11 1,v_ 3 15,v_ 4 16] [fk 17,dz 18 17 0,v_ 19 18,cm 20 19 4,eu 21 19 20 0 beq_,df 22 19 21,v_ 23 22,cm 24 23 3,g1 25 23 24 ln,eu 26 23 25 1 beq_,df 27 23 26,v_ 28 27,cm 29 28 3,eu 30 28 29 0 a1_,ep 31 28 30,g1 32 28 31 .runStr,bu 33 28 (bm 32 (k_ (.str [38,97,109,112,59]))) beq_,df 34 28 33,v_ 0 34])
theorem TD:Bm Tryz.prog 34 0=some ⟨35,0,[(.slot 0)],M4⟩:=by kernel_rfl
def JO:AC:=cl [fy 3,ci 4 1,bt 6 [nI_ 0,nI_ 0,nI_ 0,nI_ 0,.nilS,.nilS] 6,z_ 7] (.block 0 (sr_ [er 14 3,k1 15 25 14,am 16 15 0 bne_,v_ 17 16,bj 18 17 4 l6,ae 19 17 (ft 25 18) .call,ae 20 17 (cn 19 0) bne_,fm 21 17 20,v_ 22 21,bj 23 22 3 f1_,bj 24 22 23 ld,ae 25 22 (cn 24 2) bne_,fm 26 22 25,v_ 27 26,bj 28 27 4 f0_,bj 29 27 28 ld,ae 30 27 (cn 29 2) bne_,fm 31 27 30,v_ 13 31] (i_ 13 (a7 [o0 32 (.build [nI_ 0,nI_ 0,nI_ 0,nI_ 0,.nilS,.nilS] [(0,1),(1,1),(2,1),(3,1),(4,1),(5,1)] []),ay 6 32 6,ef 7 2]) (sr_ [er 34 3,k1 35 41 34,eo 36 35,v_ 37 36,bj 38 37 4 l6,ae 39 37 (ft 32 38) .call,bj 40 37 39 nt,fm 41 37 40,v_ 33 41] (i_ 33 (a7 [o0 42 (.build [nI_ 0,nI_ 0,nI_ 0,nI_ 0,.nilS,.nilS] [(0,1),(1,1),(2,1),(3,1),(4,1),(5,1)] []),ay 6 42 6,ef 7 1]) (sr_ [cu 44 3,a8 45 44,cu 46 4,a8 47 46,da 48 45 47 .mul,dv 49 48 1024,v_ 43 49] (i_ 43 (a7 [o0 50 (.build [nI_ 0,nI_ 0,nI_ 0,nI_ 0,.nilS,.nilS] [(0,1),(1,1),(2,1),(3,1),(4,1),(5,1)] []),ay 6 50 6,ef 7 4]) (bq [cu 52 3,a8 53 52,cu 54 4,a8 55 54,da 56 53 55 .mul,fk 57,o2 58 56 57 bgt_,v_ 51 58] 51 [o0 59 (.build [nI_ 0,nI_ 0,nI_ 0,nI_ 0,.nilS,.nilS] [(0,1),(1,1),(2,1),(3,1),(4,1),(5,1)] []),ay 6 59 6,ef 7 3])))))))) (.gry [true,false,true,false,true,false,true,false,false,false,true,false,true,false,false,false,false,false,false,false,false,false] [ak 60 3 l6,ak 61 4 l6,ak 62 4 f2_,d6 63 62,dy 64 63 63 (.mkSlice 1 24 .nilS),ak 65 4 f2_,d6 66 65,dy 67 66 66 (.mkSlice 1 24 .nilS),m_ 68 [s_ 60,s_ 61,s_ 64,s_ 67] (.build [nI_ 0,nI_ 0,nI_ 0,nI_ 0,.nilS,.nilS,nI_ 0,nI_ 0,nI_ 0,nI_ 0,.nilS,.nilS,.nilS,.nilS,nI_ 0,nI_ 0,nI_ 0,nI_ 0,.nilS,.nilS,nI_ 0] [(0,6),(6,6),(12,1),(13,1),(14,6),(20,1)] [0,1,2,3]),ak 69 68 .box,f8 8 69]) (.seq (dp [ei 70 4,a8 71 70,b8 72 71,z_ 73] 1 74 73 72 74 1 2 [o2 75 71 73 a5_,cg 76 75 5,bt 10 [nI_ 0,nI_ 0,.nilS,nI_ 0,.nilS] 5,ay 10 76 5] (.grx [false,false,true,true,true,true,false,false,true,true,true,true,true,false,true,false,false,false,false] [f8 77 8,cv 78 77,ak 79 78 (bw 12 1),d6 80 79,ak 81 10 f0_,d6 82 81,f8 83 8,cv 84 83,ak 85 84 (bw 12 1),d6 86 85,ak 87 10 f0_,d6 88 87,dy 89 86 88 a1_,d6 90 89,ak 91 10 (ap 5),ak 92 91 (bh 5 1 [nI_ 0,nI_ 0,.nilS,nI_ 0,.nilS] [0]),dy 93 90 92 (co 5 72 [nI_ 0,nI_ 0,.nilS,nI_ 0,.nilS]),dy 94 80 82 a1_,h_ (ct 94 93) st]) 95 73 73 95) (.seq (dp [fj 96 4,a8 97 96,b8 98 97,z_ 99] 3 100 99 98 100 3 4 [o2 101 97 99 a3_,cg 102 101 3,bt 12 [nI_ 0,.nilS,.nilS] 3,ay 12 102 3] (.grx [false,false,true,true,true,true,false,false,true,true,true,true,true,false,true,false,false,false,false] [f8 103 8,cv 104 103,ak 105 104 (bw 13 1),d6 106 105,ak 107 12 f0_,d6 108 107,f8 109 8,cv 110 109,ak 111 110 (bw 13 1),d6 112 111,ak 113 12 f0_,d6 114 113,dy 115 112 114 a1_,d6 116 115,ak 117 12 (ap 3),ak 118 117 (bh 3 1 [nI_ 0,.nilS,.nilS] [0]),dy 119 116 118 (co 3 56 [nI_ 0,.nilS,.nilS]),dy 120 106 108 a1_,h_ (ct 120 119) st]) 121 99 99 121) (db [v_ 122 8,d9 123 3,a8 124 123,cr 125 4,a8 126 125,cu 127 3,a8 128 127,cu 129 4,a8 130 129,da 131 128 130 .mul,o1 132 3 f3_,a8 133 132,cu 134 4,a8 135 134,da 136 133 135 .mul,o1 137 4 f3_,a8 138 137,ek 139 136 138,m_ 140 [s_ 124,s_ 126,s_ 131,s_ 139] (.build [nI_ 0,nI_ 0,nI_ 0,nI_ 0,.nilS,.nilS] [(0,1),(1,1),(2,1),(3,1),(4,1),(5,1)] [0,1,2,3]),au 141 122,o1 142 141 (du 14 6),ay 142 140 6] (bq [v_ 143 8,k1 144 77 143,eo 145 144] 145 [o0 146 (.build [nI_ 0,nI_ 0,nI_ 0,nI_ 0,.nilS,.nilS] [(0,1),(1,1),(2,1),(3,1),(4,1),(5,1)] []),ay 6 146 6,ef 7 4]) [v_ 147 8,au 148 147,o1 149 148 (du 14 6),er 150 149,ay 6 150 6,z_ 7])))
theorem TE:Bm Tryz.prog 36 3=some ⟨151,3,[(.cell 6 true 6),(.slot 7)],JO⟩:=by kernel_rfl
def PP:AC:=d4 (dt (fy 1) 2) [ei 3 1,a8 4 3,ce 5 [d7 71,s_ 4,d7 85],eo 6 5,v_ 2 6]
theorem Ya:Bm Tryz.prog 41 1=some ⟨7,1,[(.slot 2)],PP⟩:=by kernel_rfl
def PQ:AC:=db [fy 2,z_ 4] (.block 0 (sr_ (fh (er 6 2) (k1 7 25 6) (am 8 7 0 bne_) 5 8) (i_ 5 (a7 [ef 4 2]) (sr_ (fh (cf 10) (b8 11 10) (dv 12 11 1024) 9 12) (i_ 9 (a7 [ef 4 4]) (bq [d9 14 2,a8 15 14,cf 16,k2 17 97 15 16,eo 18 17,v_ 13 18] 13 [ef 4 1])))))) (g9 4)
theorem Yb:Bm Tryz.prog 59 2=some ⟨19,2,[(.slot 4)],PQ⟩:=by kernel_rfl
def PR:AC:=cl [fy 2,c1 4 .nilP .mv] (.gry [true,false,false,false,true,false,true,false,false,false,true,false,true,false,false,false,false,false,false,false,false,false,false,false] [ak 18 2 l6,f8 19 1,ak 20 2 f2_,d6 21 20,dy 22 21 21 (.mkSlice 1 24 .nilS),ak 23 2 f2_,d6 24 23,dy 25 24 24 (.mkSlice 1 24 .nilS),m_ 26 [s_ 18,s_ 19,s_ 22,s_ 25] (.build [nI_ 0,nI_ 0,nI_ 0,nI_ 0,.nilS,.nilS,.nilS,.nilS,.nilS,.nilS,.nilS] [(0,6),(6,1),(7,1),(8,1),(9,1),(10,1)] [0,1,2,3]),ak 27 26 .box,m_ 5 [] (.alloc .nilP 1),h_ (ct 5 27) st]) (dp [ei 28 2,a8 29 28,b8 30 29,z_ 31] 0 32 31 30 32 0 1 [v_ 33 31,o2 34 29 31 a5_,cg 35 34 5,bt 7 [nI_ 0,nI_ 0,.nilS,nI_ 0,.nilS] 5,v_ 6 33,ay 7 35 5] (.grx [true,false,true,true,true,true,true,false,true,true,true,true,true,false,false,false,false,false,false] [d6 36 5,cv 37 36,ak 38 37 (bw 7 1),d6 39 38,ak 40 7 f0_,d6 41 40,d6 42 5,cv 43 42,ak 44 43 (bw 7 1),d6 45 44,ak 46 7 f0_,d6 47 46,dy 48 45 47 a1_,d6 49 48,f8 50 6,ak 51 50 (dc 1 (nI_ 0) [0]),dy 52 49 51 (.app 1 8 (nI_ 0)),dy 53 39 41 a1_,h_ (ct 53 52) st]) 54 31 31 54) (.seq (dp [fj 55 2,a8 56 55,b8 57 56,z_ 58] 2 59 58 57 59 2 3 [v_ 60 58,o2 61 56 58 a3_,cg 62 61 3,bt 9 [nI_ 0,.nilS,.nilS] 3,v_ 8 60,ay 9 62 3] (.grx [true,false,true,true,true,true,true,false,true,true,true,true,true,false,false,false,false,false,false] [d6 63 5,cv 64 63,ak 65 64 (bw 8 1),d6 66 65,ak 67 9 f0_,d6 68 67,d6 69 5,cv 70 69,ak 71 70 (bw 8 1),d6 72 71,ak 73 9 f0_,d6 74 73,dy 75 72 74 a1_,d6 76 75,f8 77 8,ak 78 77 (dc 1 (nI_ 0) [0]),dy 79 76 78 (.app 1 8 (nI_ 0)),dy 80 66 68 a1_,h_ (ct 80 79) st]) 81 58 58 81) (cl (fh (cu 82 2) (a8 83 82) (o2 84 83 83 (.mkSlice 1 1 bF_)) 10 84) (dp [cu 85 2,a8 86 85,z_ 87] 4 88 87 86 88 4 5 (fv 89 87 11 89) (.reg [a8 90 5,v_ 91 11,ga 92,k3 93 98 90 91 92]) 94 87 87 94) (.greg [a8 95 5,cf 96,b8 97 96,i1_ 98 97,cu 99 2,a8 100 99,da 101 98 100 .mul,o2 102 101 101 (.mkSlice 1 1 bF_),au 103 95,o1 104 103 (bw 10 1),dx 104 102]) (ew [a8 105 5,au 106 105,o1 107 106 (bw 10 1),a8 108 107,o1 109 2 f3_,a8 110 109,bp 111 108 110] [h_ (bm 111 d8) st] (.seq (ba [aw 12 (nI_ 0) 1,h_ (cn 12 0) st] 6 (fe [a8 112 12,cf 113,b8 114 113,o2 115 112 114 ble_] (ex_ 115 6) (ac 7 (sr_ [a8 118 5,au 119 118,o1 120 119 (bw 9 1),a8 121 120,k1 122 99 121] (.block 8 (.rng (.slot 122) [123,124] (.reg [v_ 14 124]) (.block 9 (.seq (.seq (.dreg [a8 125 5,au 126 125,o1 127 126 (bw 10 1),a8 128 127,a8 129 12,cu 130 2,a8 131 130,da 132 129 131 .mul,v_ 133 14,ek 134 132 133,bp 135 128 134,a8 136 135,eo 137 136]) (aj 137 (.exit 9))) (dp [a8 138 5,au 139 138,o1 140 139 (bw 7 1),a8 141 140,v_ 142 14,bp 143 141 142,a8 144 143,b8 145 144,z_ 146] 10 147 146 145 147 10 11 (cj (bp 148 144 146) (a8 149 148) 16 149) (sr_ [ei 150 2,a8 151 150,v_ 152 16,o2 153 151 152 a5_,cg 154 153 5,bt 17 [nI_ 0,nI_ 0,.nilS,nI_ 0,.nilS] 5,ay 17 154 5] (aq [a8 155 5,cu 156 17,a8 157 156,a8 158 12,k3 159 65 155 157 158] 159 (.dtl [a8 160 5,au 161 160,o1 162 161 (bw 10 1),a8 163 162,a8 164 12,o1 165 17 f3_,a8 166 165,ek 167 164 166,cu 168 2,a8 169 168,da 170 167 169 .mul,cr 171 17,a8 172 171,ek 173 170 172,bp 174 163 173] [h_ (bm 174 d8) st]))) 175 146 146 175)))))) (.seq (dq [a8 176 12] [aw 12 (nI_ 0) 1,dx 12 176]) (.reg [a8 116 12,i1_ 117 116,dx 12 117]))))) (a7 (bn (a8 177 5) 4 177))))))
theorem Yc:Bm Tryz.prog 60 2=some ⟨178,2,[(.slot 4)],PR⟩:=by kernel_rfl
def Jr:AC:=ba [bk 7,au 8 7,o1 9 8 (bw 6 1),a8 10 9,b8 11 10,v_ 4 11] 0 (fe (g6 12 4 (am 13 12 0 bge_)) (ex_ 13 0) (av 1 (cq [bk 16,au 17 16,o1 18 17 (bw 9 1),a8 19 18,b8 20 19,z_ 21] 2 22 21 20 22 2 (av 3 (a6 (cj (bp 23 19 21) (a8 24 23) 6 24) (.dreg [bk 25,au 26 25,o1 27 26 (bw 10 1),a8 28 27,g8 29,bk 30,au 31 30,o1 32 31 (du 0 6),cu 33 32,a8 34 33,da 35 29 34 .mul,v_ 36 6,ek 37 35 36,bp 38 28 37,a8 39 38]) (aj 39 (.reg [cf 40,g8 41,v_ 42 6,o3 43 40 41 42 .call]))) (bo 44 21 21 44))) (ey 14 4 (e8 15 14 1) 4 15)))
theorem Nu:Bm Tryz.prog 61 2=some ⟨45,2,[],Jr⟩:=by kernel_rfl
def Kq:AC:=.seq (aq [a8 19 2] 19 .ret) (cl (d5 9) (dp [a8 20 3,au 21 20,o1 22 21 (bw 8 1),a8 23 22,cf 24,bp 25 23 24,a8 26 25,b8 27 26,z_ 28] 0 29 28 27 29 0 1 (cj (bp 30 26 28) (a8 31 30) 11 31) (sr_ [fj 32 4,a8 33 32,v_ 34 11,o2 35 33 34 a3_,cg 36 35 3,bt 12 [nI_ 0,.nilS,.nilS] 3,ay 12 36 3] (fo [a8 37 3,cg 38 12 3,bk 39,k3 40 63 37 38 39] 40 [v_ 41 9,a8 42 3,cu 43 12,a8 44 43,bk 45,cr 46 12,a8 47 46,b8 48 47,ce 49 [d7 64,s_ 42,s_ 44,s_ 45,s_ 48],o1 50 49 (fx 1 [0]),o2 51 41 50 (.app 1 24 .nilS),v_ 9 51])) 52 28 28 52) (dp [a8 53 3,au 54 53,o1 55 54 (bw 7 1),a8 56 55,cf 57,bp 58 56 57,a8 59 58,b8 60 59,z_ 61] 2 62 61 60 62 2 3 (cj (bp 63 59 61) (a8 64 63) 14 64) (a6 [ei 65 4,a8 66 65,v_ 67 14,o2 68 66 67 a5_,cg 69 68 5,bt 15 [nI_ 0,nI_ 0,.nilS,nI_ 0,.nilS] 5,ay 15 69 5] (aq [a8 70 3,cu 71 15,a8 72 71,bk 73,k3 74 65 70 72 73,eo 75 74] 75 (.exit 3)) (sr_ [a8 76 3,ei 77 15,a8 78 77,bk 79,cu 80 15,a8 81 80,b8 82 81,ce 83 [d7 64,s_ 76,s_ 78,s_ 79,s_ 82],v_ 16 83] (dp [a8 84 5,bk 85,o1 86 15 f3_,a8 87 86,ek 88 85 87,cu 89 4,a8 90 89,da 91 88 90 .mul,cr 92 15,a8 93 92,ek 94 91 93,bp 95 84 94,a8 96 95,b8 97 96,z_ 98] 4 99 98 97 99 4 5 (cj (bp 100 96 98) (a8 101 100) 18 101) (.reg [v_ 102 9,v_ 103 16,v_ 104 18,o2 105 103 104 (fx 2 [0,1]),k1 106 66 105,o1 107 106 (fx 1 [0]),o2 108 102 107 (.app 1 24 .nilS),v_ 9 108]) 109 98 98 109))) 110 61 61 110) (sr_ (ey 111 9 (k1 112 67 111) 9 112) (dq [v_ 113 9,b8 114 113,a8 115 6,o2 116 114 115 bgt_,dx 2 116] [a8 117 5,bk 118,cu 119 4,a8 120 119,da 121 118 120 .mul,cf 122,ek 123 121 122,v_ 124 9,bp 125 117 123,dx 125 124])))
theorem PS:Bm Tryz.prog 62 7=some ⟨126,7,[],Kq⟩:=by kernel_rfl
def Js:AC:=a6 (dt (ci 4 1) 6) (.dtl [cr 7 4,a8 8 7,b8 9 8,bk 10,au 11 10,o1 12 11 (bw 6 1),a8 13 12,b8 14 13,fk 15,fu 16 14 15,o2 17 9 16 beq_,v_ 18 17,cm 19 18 0,g1 20 18 4 f1_,ep 21 18 20,cm 22 18 2] (cj (e9 23 18 [d7 65,s_ 19,s_ 21,s_ 22]) (df 24 18 23) 6 24)) .ret
theorem Nv:Bm Tryz.prog 63 3=some ⟨25,3,[(.slot 6)],Js⟩:=by kernel_rfl
def I4:AC:=sr_ (d5 8) (db (d5 9) (cq (dm (cf 14) 15 14 16) 0 17 16 15 17 0 (av 1 (a6 [o2 18 14 16 a6_,er 19 18,bt 11 [nI_ 0,nI_ 0,nI_ 0,nI_ 0,nI_ 0,.nilS] 6,ay 11 19 6] (.dreg [er 21 11,bk 22,au 23 22,o1 24 23 (bw 6 1),a8 25 24,fk 26,fk 27,v_ 28 3,ek 29 27 28,o3 30 25 26 29 (ed 1 true true),k2 31 100 21 30,v_ 20 31,az 32 20 0,az 33 20 1,v_ 12 32,v_ 13 33]) (.reg [v_ 34 9,v_ 35 12,o1 36 35 (.conv .i32),o1 37 36 (dc 1 (.int .i32 0) [0]),o2 38 34 37 (.app 1 4 (.int .i32 0)),v_ 9 38])) (bo 39 16 16 39))) (fv 40 9 8 40))
theorem LQ:Bm Tryz.prog 64 4=some ⟨41,4,[(.slot 8)],I4⟩:=by kernel_rfl
def Jt:AC:=cl (cy 6) (g0 [cf 9,b8 10 9,bk 11,au 12 11,o1 13 12 (bw 6 1),a8 14 13,b8 15 14,fk 16,fu 17 15 16,o2 18 10 17 bgt_] 18 6) (dp (dm (cf 19) 20 19 21) 0 22 21 20 22 0 1 [v_ 23 21,bp 24 19 21,a8 25 24,v_ 7 23,v_ 8 25] (g0 [v_ 26 8,bk 27,au 28 27,o1 29 28 (bw 6 1),a8 30 29,fk 31,v_ 32 7,ek 33 31 32,bp 34 30 33,a8 35 34,o1 36 35 (.conv .i64),k2 37 101 26 36,eo 38 37] 38 6) 39 21 21 39) (a7 [bt_ 6])
theorem Nw:Bm Tryz.prog 65 3=some ⟨40,3,[(.slot 6)],Jt⟩:=by kernel_rfl
def F6:AC:=sr_ (d5 2) (a6 (g9 3) (dp (dm (bk 9) 10 9 11) 0 12 11 10 12 0 1 (cj (bp 13 9 11) (a8 14 13) 5 14) (sr_ [v_ 15 3,dw 16,b8 17 16,ek 18 15 17,v_ 3 18] (fo (g6 19 3 (am 20 19 0 bls_)) 20 [c1 21 (.str [108,101,110,32,111,117,116,32,111,102,32,114,97,110,103,101]) .no,h_ (ai 21) .no])) 22 11 11 22) (db (ey 23 3 (ce 24 [d7 102,k_ .nilS,s_ 23]) 6 24) (dp (dm (bk 25) 26 25 27) 2 28 27 26 28 2 3 (cj (bp 29 25 27) (a8 30 29) 8 30) (.reg (fh (v_ 31 6) (v_ 32 8) (o2 33 31 32 (.app 1 4 (.int .i32 0))) 6 33)) 34 27 27 34) (fv 35 6 2 35)))
theorem GD:Bm Tryz.prog 66 1=some ⟨36,1,[(.slot 2)],F6⟩:=by kernel_rfl
def PT:AC:=sr_ (d5 2) (a6 (fh (bk 6) (b8 7 6) (o2 8 7 7 (.mkSlice 1 24 .nilS)) 3 8) (dp (dm (bk 9) 10 9 11) 0 12 11 10 12 0 1 [v_ 13 11,bp 14 9 11,a8 15 14,v_ 4 13,v_ 5 15] (.reg [v_ 16 3,g8 17,dw 18,k1 19 103 18,bp 20 16 17,dx 20 19]) 21 11 11 21) (d4 (g6 22 3 (ce 23 [d7 104,s_ 22,d7 105])) (ey 24 3 (ce 25 [d7 106,s_ 24,d7 107]) 2 25)))
theorem Yd:Bm Tryz.prog 67 1=some ⟨26,1,[(.slot 2)],PT⟩:=by kernel_rfl
def Ob:AC:=cl [fy 1,z_ 2,z_ 3] (bq [er 8 1,k1 9 108 8,eo 10 9] 10 [ef 2 1,z_ 3]) (dp [ei 11 1,a8 12 11,b8 13 12,z_ 14] 0 15 14 13 15 0 1 [v_ 16 14,o2 17 12 14 a5_,cg 18 17 5,bt 5 [nI_ 0,nI_ 0,.nilS,nI_ 0,.nilS] 5,v_ 4 16,ay 5 18 5] (bq [er 19 1,cg 20 5 5,k2 21 109 19 20,eo 22 21] 22 (ey 23 4 (ef 2 2) 3 23)) 24 14 14 24) (.seq (dp [fj 25 1,a8 26 25,b8 27 26,z_ 28] 2 29 28 27 29 2 3 [v_ 30 28,o2 31 26 28 a3_,cg 32 31 3,bt 7 [nI_ 0,.nilS,.nilS] 3,v_ 6 30,ay 7 32 3] (bq [er 33 1,d9 34 7,a8 35 34,k2 36 110 33 35,eo 37 36,v_ 38 37,bj 39 38 1 f0_,bj 40 38 39 ld,bj 41 38 7 f1_,bj 42 38 41 ld,ae 43 38 [d7 111,s_ 40,s_ 42] .call,bj 44 38 43 nt,fm 45 38 44,v_ 46 45,bj 47 46 1 l6,bj 48 46 7 f2_,bj 49 46 48 ld,bj 50 46 7 f1_,bj 51 46 50 ld,ae 52 46 [d7 112,s_ 47,s_ 49,s_ 51] .call,bj 53 46 52 nt,fm 54 46 53] 54 (ey 55 6 (ef 2 3) 3 55)) 56 28 28 56) (.seq (bq [er 57 1,k1 58 113 57] 58 [ef 2 4,z_ 3]) (a7 [z_ 2,z_ 3])))
theorem V1:Bm Tryz.prog 69 1=some ⟨59,1,[(.slot 2),(.slot 3)],Ob⟩:=by kernel_rfl
def Dm:AC:=d4 (cy 4) [bk 5,cf 6,k2 7 117 5 6,am 8 7 0 bge_,v_ 4 8]
theorem E4:Bm Tryz.prog 71 2=some ⟨9,2,[(.slot 4)],Dm⟩:=by kernel_rfl
def M5:AC:=d4 (dt (fy 1) 2) [cu 3 1,a8 4 3,b8 5 4,am 6 5 1 bne_,v_ 2 6]
theorem TF:Bm Tryz.prog 72 1=some ⟨7,1,[(.slot 2)],M5⟩:=by kernel_rfl
def El:AC:=d4 (cy 4) [bk 5,cf 6,k2 7 118 5 6,am 8 7 0 bge_,v_ 4 8]
theorem Gc:Bm Tryz.prog 73 2=some ⟨9,2,[(.slot 4)],El⟩:=by kernel_rfl
def M6:AC:=d4 (dt (fy 1) 2) [cr 3 1,a8 4 3,b8 5 4,dv 6 5 0,v_ 2 6]
theorem TG:Bm Tryz.prog 74 1=some ⟨7,1,[(.slot 2)],M6⟩:=by kernel_rfl
def PU:AC:=sr_ [bt 4 [nI_ 0,nI_ 0,nI_ 0,nI_ 0,.nilS,.nilS] 6] (db [bk 7,bk 8,o2 9 7 8 (de [nI_ 0,nI_ 0] [(0,1),(1,1)] 0 1),fw 10 9 2 1 [nI_ 0,nI_ 0] [0],o1 11 10 (fx 1 [0]),am 12 11 1 (de [nI_ 0,nI_ 0,.nilS,nI_ 0,.nilS] [(0,1),(1,1),(2,1),(3,1),(4,1)] 2 3),bt 5 [nI_ 0,nI_ 0,.nilS,nI_ 0,.nilS] 5,ay 5 12 5] (ba (g9 6) 0 (fe [v_ 13 6,cf 14,o1 15 14 (.len true),be 16 13 15] (ex_ 16 0) (av 1 (.dtl [ei 19 5,a8 20 19,cf 21,v_ 22 6,o2 23 21 22 .indexStr,o1 24 23 (.conv .i64),m_ 25 (fq (b9 21) 24) (de [nI_ 0,nI_ 0,nI_ 0,nI_ 0,nI_ 0,.nilS] [(0,1),(1,1),(2,1),(3,1),(4,1),(5,1)] 2 4),fw 26 25 6 1 [nI_ 0,nI_ 0,nI_ 0,nI_ 0,nI_ 0,.nilS] [0]] [o2 27 20 26 (co 6 64 [nI_ 0,nI_ 0,nI_ 0,nI_ 0,nI_ 0,.nilS]),ei 28 5,dx 28 27]) (ey 17 6 (i1_ 18 17) 6 18)))) [cg 29 5 5,fw 30 29 5 1 [nI_ 0,nI_ 0,.nilS,nI_ 0,.nilS] [0],o0 31 (.build [nI_ 0,.nilS,.nilS] [(0,1),(1,1),(2,1)] []),fw 32 31 3 1 [nI_ 0,.nilS,.nilS] [0],m_ 33 [b9 2,b9 2,b9 1,s_ 30,s_ 32] (.build [nI_ 0,nI_ 0,nI_ 0,nI_ 0,.nilS,.nilS] [(0,1),(1,1),(2,1),(3,1),(4,1),(5,1)] [0,1,2,4,5]),ay 4 33 6])
theorem Ye:Bm Tryz.prog 75 2=some ⟨34,2,[(.cell 4 true 6)],PU⟩:=by kernel_rfl
def GN:AC:=cl (cy 2) (dp [bk 19,au 20 19,o1 21 20 (du 0 6),ei 22 21,a8 23 22,b8 24 23,z_ 25] 0 26 25 24 26 0 1 [o2 27 23 25 a5_,cg 28 27 5,bt 4 [nI_ 0,nI_ 0,.nilS,nI_ 0,.nilS] 5,ay 4 28 5] (dp [bk 29,au 30 29,o1 31 30 (du 6 6),cu 32 31,a8 33 32,z_ 34] 2 35 34 33 35 2 3 (fv 36 34 5 36) (cl [bk 38,dw 39,cu 40 4,a8 41 40,o2 42 39 41 (de [nI_ 0,.nilS,.nilS] [(0,1),(1,1),(2,1)] 0 1),ei 43 4,a8 44 43,k3 45 119 38 42 44,v_ 37 45,az 46 37 0,az 47 37 1,v_ 6 46,v_ 7 47] (g0 (g6 48 7 (eo 49 48)) 49 2) (dp (dm (v_ 50 6) 51 50 52) 4 53 52 51 53 4 5 [o2 54 50 52 a3_,cg 55 54 3,bt 9 [nI_ 0,.nilS,.nilS] 3,ay 9 55 3] (.grx [false,false,false,true,true,false,true,true,false,false,true,true,true,false,false,false,true,true,false,false,true,true,true,false,true,true,false,true,true,false,true,true,true,true,false,false,false,false,false,false,false,false] [f8 56 0,f8 57 0,cv 58 57,ak 59 58 (du 14 6),ak 60 59 f4_,d6 61 60,ak 62 4 f0_,d6 63 62,f8 64 0,cv 65 64,ak 66 65 (du 6 6),ak 67 66 f2_,d6 68 67,dy 69 63 68 (.bin .mul),f8 70 5,dy 71 69 70 bad_,ak 72 4 f1_,d6 73 72,f8 74 0,cv 75 74,ak 76 75 (du 6 6),ak 77 76 f2_,d6 78 77,dy 79 73 78 (.bin .mul),ak 80 9 f0_,d6 81 80,dy 82 79 81 bad_,ak 83 9 f1_,d6 84 83,ce 85 (ft 120 84),ak 86 4 f3_,d6 87 86,ak 88 9 f2_,d6 89 88,ce 90 (ft 121 89),m_ 91 [s_ 71,s_ 82,s_ 85,s_ 87,s_ 90] (.build [nI_ 0,nI_ 0,.nilS,nI_ 0,.nilS] [(0,1),(1,1),(2,1),(3,1),(4,1)] [0,1,2,3,4]),ak 92 91 (bh 5 1 [nI_ 0,nI_ 0,.nilS,nI_ 0,.nilS] [0]),dy 93 61 92 (co 5 72 [nI_ 0,nI_ 0,.nilS,nI_ 0,.nilS]),cv 94 56,ak 95 94 (du 14 6),ak 96 95 f4_,h_ (ct 96 93) st]) 97 52 52 97) (g0 [bk 98,au 99 98,o1 100 99 (du 14 6),ei 101 100,a8 102 101,b8 103 102,dv 104 103 4096] 104 2)) 105 34 34 105) 106 25 25 106) (dp [bk 107,au 108 107,o1 109 108 (du 0 6),fj 110 109,a8 111 110,b8 112 111,z_ 113] 6 114 113 112 114 6 7 [o2 115 111 113 a3_,cg 116 115 3,bt 11 [nI_ 0,.nilS,.nilS] 3,ay 11 116 3] (dp [bk 117,au 118 117,o1 119 118 (du 6 6),cu 120 119,a8 121 120,z_ 122] 8 123 122 121 123 8 9 (fv 124 122 12 124) (cl [bk 126,v_ 127 12,cr 128 11,a8 129 128,o2 130 127 129 (de [nI_ 0,.nilS,.nilS] [(0,1),(1,1),(2,1)] 0 1),cu 131 11,a8 132 131,k3 133 119 126 130 132,v_ 125 133,az 134 125 0,az 135 125 1,v_ 13 134,v_ 14 135] (g0 (g6 136 14 (eo 137 136)) 137 2) (cq (dm (v_ 138 13) 139 138 140) 10 141 140 139 141 10 (av 11 (a6 [o2 142 138 140 a3_,cg 143 142 3,bt 16 [nI_ 0,.nilS,.nilS] 3,ay 16 143 3] (.dreg [bk 144,au 145 144,o1 146 145 (bw 13 1),a8 147 146,d9 148 16,a8 149 148,bp 150 147 149,a8 151 150,b8 152 151,z_ 153]) (aa 12 (bl (cp 154 153 152) 154 12 (cw 13 [o2 155 151 153 a3_,cg 156 155 3,bt 18 [nI_ 0,.nilS,.nilS] 3,ay 18 156 3] (.grx [false,false,false,true,true,false,true,true,false,false,true,true,true,false,false,false,true,true,false,true,true,true,true,false,false,false,false,false,false,false,false,false,false] [f8 157 0,f8 158 0,cv 159 158,ak 160 159 (du 14 6),ak 161 160 f5_,d6 162 161,ak 163 11 f0_,d6 164 163,f8 165 0,cv 166 165,ak 167 166 (du 6 6),ak 168 167 f2_,d6 169 168,dy 170 164 169 (.bin .mul),f8 171 12,dy 172 170 171 bad_,ak 173 16 f1_,d6 174 173,ce 175 (ft 120 174),ak 176 16 f2_,d6 177 176,ak 178 18 f2_,d6 179 178,dy 180 177 179 (fx 2 [0,1]),ce 181 (ft 122 180),ce 182 (ft 121 181),m_ 183 (c8 172 (s_ 175) (s_ 182)) (.build [nI_ 0,.nilS,.nilS] [(0,1),(1,1),(2,1)] [0,1,2]),ak 184 183 (bh 3 1 [nI_ 0,.nilS,.nilS] [0]),dy 185 162 184 (co 3 56 [nI_ 0,.nilS,.nilS]),cv 186 157,ak 187 186 (du 14 6),ak 188 187 f5_,h_ (ct 188 185) st]) 189 153 153 189)))) (bo 190 140 140 190))) (g0 [bk 191,au 192 191,o1 193 192 (du 14 6),fj 194 193,a8 195 194,b8 196 195,dv 197 196 4096] 197 2)) 198 122 122 198) 199 113 113 199) (a7 [bk 200,au 201 200,o1 202 201 (du 14 6),er 203 202,k1 204 123 203,am 205 204 64 ble_,v_ 2 205])
theorem LS:Bm Tryz.prog 77 1=some ⟨206,1,[(.slot 2)],GN⟩:=by kernel_rfl
def M7:AC:=db (d5 2) (sr_ [bk 3] (.block 0 (sr_ (bn (dz 5 3 1) 4 5) (i_ 4 (a7 (cj (m_ 6 [b9 0,b9 255] (de [nI_ 0,nI_ 0] [(0,1),(1,1)] 0 1)) (fw 7 6 2 1 [nI_ 0,nI_ 0] [0]) 2 7)) (bq (bn (dz 9 3 2) 8 9) 8 (fh (m_ 10 [b9 0,b9 55295] (de [nI_ 0,nI_ 0] [(0,1),(1,1)] 0 1)) (m_ 11 [b9 57344,b9 1114111] (de [nI_ 0,nI_ 0] [(0,1),(1,1)] 0 1)) (o2 12 10 11 (bh 2 2 [nI_ 0,nI_ 0] [0,1])) 2 12)))))) (d5 2)
theorem TH:Bm Tryz.prog 83 1=some ⟨13,1,[(.slot 2)],M7⟩:=by kernel_rfl
def M8:AC:=d4 (dt (fy 1) 2) [cu 3 1,a8 4 3,b8 5 4,dz 6 5 0,v_ 2 6]
theorem TJ:Bm Tryz.prog 85 1=some ⟨7,1,[(.slot 2)],M8⟩:=by kernel_rfl
def PV:AC:=db (cy 4) (dp (dm (cf 7) 8 7 9) 0 10 9 8 10 0 1 (cj (bp 11 7 9) (a8 12 11) 6 12) (g0 [bk 13,v_ 14 6,k2 15 133 13 14,eo 16 15] 16 4) 17 9 9 17) [bt_ 4]
theorem Yf:Bm Tryz.prog 97 2=some ⟨18,2,[(.slot 4)],PV⟩:=by kernel_rfl
def Ju:AC:=.seq (aq [fk 9,cf 10,bp 11 9 10,a8 12 11] 12 .ret) (a6 [fk 13,cf 14,bp 15 13 14,h_ (bm 15 d8) st] (dp [bk 16,au 17 16,o1 18 17 (bw 7 1),a8 19 18,cf 20,bp 21 19 20,a8 22 21,b8 23 22,z_ 24] 0 25 24 23 25 0 1 (cj (bp 26 22 24) (a8 27 26) 7 27) (sr_ [bk 28,au 29 28,o1 30 29 (du 0 6),ei 31 30,a8 32 31,v_ 33 7,o2 34 32 33 a5_,cg 35 34 5,bt 8 [nI_ 0,nI_ 0,.nilS,nI_ 0,.nilS] 5,ay 8 35 5] (fo [cu 36 8,a8 37 36,b8 38 37,dz 39 38 0] 39 [bk 40,cr 41 8,a8 42 41,fk 43,k3 44 98 40 42 43])) 45 24 24 45) (.reg [bk 46,bk 47,au 48 47,o1 49 48 (bw 9 1),a8 50 49,cf 51,o1 52 51 (dc 1 (nI_ 0) [0]),o2 53 50 52 (.app 1 8 (nI_ 0)),au 54 46,o1 55 54 (bw 9 1),dx 55 53]))
theorem Nx:Bm Tryz.prog 98 3=some ⟨56,3,[],Ju⟩:=by kernel_rfl
def GE:AC:=d4 [fy 1,c1 2 .nilF .mv] (bn (o1 3 1 (.mkFunc 134)) 2 3)
theorem Ja:Bm Tryz.prog 99 1=some ⟨4,1,[(.slot 2)],GE⟩:=by kernel_rfl
def Oc:AC:=a6 [fy 2,z_ 4,bf_ 5] (dp (dm (cf 15) 16 15 17) 0 18 17 16 18 0 1 (cj (bp 19 15 17) (a8 20 19) 7 20) (bq [v_ 21 7,c2 22 21 (.int .i32 0) bls_,v_ 23 22,g7 24 23 7,ae 25 23 (bm 24 (k_ (.int .i32 1114111))) bgt_,fm 26 23 25] 26 (dt (z_ 4) 5)) 27 17 17 27) (cl (cj (ei 28 2) (a8 29 28) 8 29) (cq [fj 30 2,a8 31 30,b8 32 31,z_ 33] 2 34 33 32 34 2 (av 3 (cl [o2 35 31 33 a4_,cg 36 35 4,bt 10 [nI_ 0,nI_ 0,nI_ 0,nI_ 0] 4,ay 10 36 4] (bq [cg 37 10 4,cf 38,b8 39 38,k2 40 135 37 39,eo 41 40] 41 (dt (z_ 4) 5)) (.dreg [cg 43 10 4,cf 44,d9 45 10,a8 46 45,bp 47 44 46,a8 48 47,o1 49 48 (.conv .i64),k2 50 136 43 49,v_ 42 50,az 51 42 0,az 52 42 1,v_ 11 51,v_ 12 52]) (.reg (fh (v_ 53 8) (v_ 54 11) (ek 55 53 54) 8 55))) (bo 56 33 33 56))) (bq (g6 57 8 (dv 58 57 1114111)) 58 (dt (z_ 4) 5)) (db [er 60 2,k1 61 137 60,v_ 62 8,k2 63 136 61 62,v_ 59 63,az 64 59 0,az 65 59 1,v_ 13 64,v_ 14 65] (bq (g6 66 14 (eo 67 66)) 67 (dt (z_ 4) 5)) [d9 68 2,a8 69 68,v_ 70 13,ek 71 69 70,v_ 4 71,bt_ 5]))
theorem V2:Bm Tryz.prog 100 2=some ⟨72,2,[(.slot 4),(.slot 5)],Oc⟩:=by kernel_rfl
def Sc:AC:=cl (cy 4) (g0 [cf 7,am 8 7 (-1073741824) bls_,v_ 9 8,g7 10 9 1,ae 11 9 (cn 10 1073741824) bgt_,fm 12 9 11] 12 4) (dp (dm (bk 13) 14 13 15) 0 16 15 14 16 0 1 [fp 17 13 15,cg 18 17 2,bt 6 [nI_ 0,nI_ 0] 2,ay 6 18 2] (bq [cf 19,d9 20 6,a8 21 20,o2 22 19 21 bge_,v_ 23 22,cm 24 23 1,g1 25 23 6 f1_,ep 26 23 25,g2 27 23 24 26 ble_,df 28 23 27] 28 [bt_ 4]) 29 15 15 29) (a7 (cy 4))
theorem z4n:Bm Tryz.prog 101 2=some ⟨30,2,[(.slot 4)],Sc⟩:=by kernel_rfl
def FW:AC:=cl (d5 4) (fo [cf 5,am 6 5 0 bls_] 6 [c1 7 (.str [99,97,110,110,111,116,32,98,101,32,110,101,103,97,116,105,118,101]) .no,h_ (ai 7) .no]) (sr_ [cf 8,bk 9,o1 10 9 .cap,bk 11,b8 12 11,fu 13 10 12,fu 14 8 13,v_ 1 14] (fo [cf 15,dv 16 15 0] 16 [bk 17,bk 18,o1 19 18 .cap,o2 20 17 19 (ed 1 false true),cf 21,o2 22 20 21 (.appZ 1 4 (.int .i32 0)),bk 23,b8 24 23,o2 25 22 24 (ed 1 false true),v_ 0 25])) (a7 (bn (bk 26) 4 26))
theorem Hi:Bm Tryz.prog 102 2=some ⟨27,2,[(.slot 4)],FW⟩:=by kernel_rfl
def EA:AC:=db (d5 2) (bq [bk 3,c2 4 3 .nilS (.eqn false)] 4 (d5 2)) (fh (o0 5 (dc 0 (.int .i32 0) [])) (bk 6) (o2 7 5 6 (.app 1 4 (.int .i32 0))) 2 7)
theorem FJ:Bm Tryz.prog 103 1=some ⟨8,1,[(.slot 2)],EA⟩:=by kernel_rfl
def FZ:AC:=dq (cj (bk 5) (b8 6 5) 4 6) [bk 7,g8 8,g8 9,o1 10 9 (.conv .u64),k1 11 139 10,cf 12,ce 13 [d7 138,s_ 7,b9 0,s_ 8,s_ 11,s_ 12]]
theorem HS:Bm Tryz.prog 104 2=some ⟨14,2,[],FZ⟩:=by kernel_rfl
def Lw:AC:=sr_ (g9 4) (cl (fh (bk 6) (cf 7) (k2 8 140 6 7) 5 8) (.block 0 (sr_ [dw 10,bk 11,b8 12 11,o2 13 10 12 beq_,v_ 14 13,cm 15 14 5,cm 16 14 1,g1 17 14 16 ln,g2 18 14 15 17 beq_,df 19 14 18,v_ 9 19] (i_ 9 (a7 (g9 4)) (sr_ [dw 21,bk 22,b8 23 22,o2 24 21 23 beq_,v_ 20 24] (i_ 20 (a7 [ef 4 (-1)]) (bq [dw 26,cf 27,b8 28 27,o2 29 26 28 beq_,v_ 25 29] 25 [ef 4 1])))))) (.dtl [bk 30,dw 31,bp 32 30 31,a8 33 32,cf 34,dw 35,bp 36 34 35,a8 37 36] (bn (k2 38 141 33 37) 4 38)) .ret)
theorem Rv:Bm Tryz.prog 105 2=some ⟨39,2,[(.slot 4)],Lw⟩:=by kernel_rfl
def F8:AC:=cl (d5 4) (bq (dh (bk 8) 9 8 (am 10 9 2 bls_)) 10 (bn (bk 11) 4 11)) (ba [ef 5 1] 0 (fe [dw 12,bk 13,b8 14 13,be 15 12 14] (ex_ 15 0) (av 1 (ew [cf 18,bk 19,dw 20,bp 21 19 20,a8 22 21,bk 23,dw 24,e8 25 24 1,bp 26 23 25,a8 27 26] [o3 28 18 22 27 .call] (aj 28 (a6 (fh (bk 29) (dw 30) (o2 31 29 30 (ed 1 true false)) 6 31) (ba [ef 7 1] 2 (fe [v_ 32 7,v_ 33 6,b8 34 33,be 35 32 34] (ex_ 35 2) (av 3 (ew [cf 38,v_ 39 6,v_ 40 7,bp 41 39 40,a8 42 41,v_ 43 6,v_ 44 7,e8 45 44 1,bp 46 43 45,a8 47 46] [o3 48 38 42 47 .call,eo 49 48] (aj 49 (dq [bk 50,dw 51,v_ 52 6,v_ 53 7,bp 54 52 53,a8 55 54,bp 56 50 51,dx 56 55] (cj (dw 57) (i1_ 58 57) 5 58)))) (ey 36 7 (i1_ 37 36) 7 37)))) (d4 [bk 59,dw 60,o2 61 59 60 (ed 1 true false),h_ (ai 61) (.clr 1 .nilS)] (fh (bk 62) (dw 63) (o2 64 62 63 (ed 1 false true)) 4 64))))) (cj (dw 16) (i1_ 17 16) 5 17)))) (a7 (bn (bk 65) 4 65))
theorem Hm:Bm Tryz.prog 106 2=some ⟨66,2,[(.slot 4)],F8⟩:=by kernel_rfl
def M9:AC:=d4 (cy 4) [bk 5,cf 6,k2 7 105 5 6,dz 8 7 0,v_ 4 8]
theorem TK:Bm Tryz.prog 107 2=some ⟨9,2,[(.slot 4)],M9⟩:=by kernel_rfl
def PW:AC:=d4 (dt (fy 1) 2) [d9 3 1,a8 4 3,k1 5 83 4,b8 6 5,dv 7 6 0,v_ 8 7,g1 9 8 1 f1_,ep 10 8 9,e9 11 8 (ft 83 10),g1 12 8 11 ln,eu 13 8 12 0 bgt_,df 14 8 13,v_ 15 14,g1 16 15 1 f2_,ep 17 15 16,eu 18 15 17 1 bge_,df 19 15 18,v_ 20 19,g1 21 20 1 f2_,ep 22 20 21,eu 23 20 22 1024 ble_,df 24 20 23,v_ 25 24,g1 26 25 1 l6,g1 27 25 1 f3_,ep 28 25 27,e9 29 25 [d7 110,s_ 26,s_ 28],df 30 25 29,v_ 31 30,g1 32 31 1 f4_,ep 33 31 32,g1 34 31 33 ln,eu 35 31 34 4096 ble_,df 36 31 35,v_ 37 36,g1 38 37 1 f5_,ep 39 37 38,g1 40 37 39 ln,eu 41 37 40 4096 ble_,df 42 37 41,v_ 2 42]
theorem Yg:Bm Tryz.prog 108 1=some ⟨43,1,[(.slot 2)],PW⟩:=by kernel_rfl
def PX:AC:=sr_ [fy 2,ci 3 1,bf_ 4] (db (fh (cu 6 3) (a8 7 6) (b8 8 7) 5 8) (g0 [er 9 2,d9 10 3,a8 11 10,k2 12 110 9 11,eo 13 12,v_ 14 13,bj 15 14 2 l6,bj 16 14 3 f1_,bj 17 14 16 ld,ae 18 14 [d7 110,s_ 15,s_ 17] .call,bj 19 14 18 nt,fm 20 14 19,v_ 21 20,bj 22 21 2 f0_,bj 23 21 22 ld,bj 24 21 3 f2_,bj 25 21 24 ld,ae 26 21 [d7 111,s_ 23,s_ 25] .call,bj 27 21 26 nt,fm 28 21 27,v_ 29 28,bj 30 29 3 f3_,bj 31 29 30 ld,g7 32 29 5,ae 33 29 (cn 32 1) .min,ae 34 29 (ct 31 33) bls_,fm 35 29 34,v_ 36 35,bj 37 36 3 f3_,bj 38 36 37 ld,g7 39 36 5,ae 40 36 (ct 38 39) bgt_,fm 41 36 40] 41 4) [er 42 2,ei 43 3,a8 44 43,cu 45 3,a8 46 45,k3 47 112 42 44 46,v_ 4 47])
theorem Yh:Bm Tryz.prog 109 2=some ⟨48,2,[(.slot 4)],PX⟩:=by kernel_rfl
def Od:AC:=d4 (dt (fy 2) 4) [cf 5,am 6 5 0 bge_,v_ 7 6,cm 8 7 1,g1 9 7 2 f2_,ep 10 7 9,g2 11 7 8 10 bls_,df 12 7 11,v_ 4 12]
theorem V3:Bm Tryz.prog 110 2=some ⟨13,2,[(.slot 4)],Od⟩:=by kernel_rfl
def MA:AC:=a6 (cy 4) (g0 (dh (cf 8) 9 8 (dv 10 9 4)) 10 4) (db (cj (bk 11) (k1 12 83 11) 5 12) (dp (dm (cf 13) 14 13 15) 0 16 15 14 16 0 1 (cj (bp 17 13 15) (a8 18 17) 7 18) (g0 [v_ 19 7,b8 20 19,dz 21 20 0,v_ 22 21,g7 23 22 7,bj 24 22 23 ln,ae 25 22 (cn 24 64) bgt_,fm 26 22 25,v_ 27 26,g7 28 27 7,ae 29 27 (ft 142 28) .call,bj 30 27 29 nt,fm 31 27 30,v_ 32 31,g7 33 32 7,g7 34 32 5,ae 35 32 [d7 116,s_ 33,s_ 34] .call,bj 36 32 35 nt,fm 37 32 36] 37 4) 38 15 15 38) [bt_ 4])
theorem TL:Bm Tryz.prog 111 2=some ⟨39,2,[(.slot 4)],MA⟩:=by kernel_rfl
def MB:AC:=cl (dt (fy 3) 6) (g0 (dh (cf 9) 10 9 (dv 11 10 64)) 11 6) (dp (dm (cf 12) 13 12 14) 0 15 14 13 15 0 1 [o2 16 12 14 a6_,er 17 16,bt 8 [nI_ 0,nI_ 0,nI_ 0,nI_ 0,nI_ 0,.nilS] 6,ay 8 17 6] (g0 [er 18 8,d9 19 3,a8 20 19,cr 21 3,a8 22 21,fk 23,ce 24 [d7 143,s_ 18,s_ 20,s_ 22,s_ 23],eo 25 24] 25 6) 26 14 14 26) (a7 [bt_ 6])
theorem TM:Bm Tryz.prog 112 3=some ⟨27,3,[(.slot 6)],MB⟩:=by kernel_rfl
def Oe:AC:=ez (dt (fy 1) 2) (fh (cu 14 1) (a8 15 14) (o2 16 15 15 (.mkSlice 1 24 .nilS)) 3 16) (a6 (fh (cu 17 1) (a8 18 17) (o2 19 18 18 (.mkSlice 1 8 (nI_ 0))) 4 19) (dp [ei 20 1,a8 21 20,b8 22 21,z_ 23] 0 24 23 22 24 0 1 [o2 25 21 23 a5_,cg 26 25 5,bt 6 [nI_ 0,nI_ 0,.nilS,nI_ 0,.nilS] 5,ay 6 26 5] (aq [cu 27 6,a8 28 27,b8 29 28,dz 30 29 0] 30 (.seq (.grx [false,true,true,false,true,true,true,false,true,true,false,false,false,false] [f8 31 3,ak 32 6 f0_,d6 33 32,f8 34 3,ak 35 6 f0_,d6 36 35,dy 37 34 36 a1_,d6 38 37,ak 39 6 f1_,d6 40 39,ak 41 40 (dc 1 (nI_ 0) [0]),dy 42 38 41 (.app 1 8 (nI_ 0)),dy 43 31 33 a1_,h_ (ct 43 42) st]) (.reg [g8 44,cr 45 6,a8 46 45,bp 47 44 46,a8 48 47,i1_ 49 48,bp 50 44 46,dx 50 49]))) 51 23 23 51) (a6 (d5 7) (dp (dm (g8 52) 53 52 54) 2 55 54 53 55 2 3 [v_ 56 54,bp 57 52 54,a8 58 57,v_ 8 56,v_ 9 58] (fo (g6 59 9 (dz 60 59 0)) 60 [v_ 61 7,v_ 62 8,o1 63 62 (dc 1 (nI_ 0) [0]),o2 64 61 63 (.app 1 8 (nI_ 0)),v_ 7 64]) 65 54 54 65) (db (g9 10) (aa 4 (fe (dh (v_ 66 7) 67 66 (dv 68 67 0)) (ex_ 68 4) (bz 5 (fh (v_ 71 7) (am 72 71 0 a1_) (a8 73 72) 11 73) (sr_ (ey 74 7 (am 75 74 1 (ed 1 true false)) 7 75) (dp [v_ 76 3,v_ 77 11,bp 78 76 77,a8 79 78,b8 80 79,z_ 81] 6 82 81 80 82 6 7 (cj (bp 83 79 81) (a8 84 83) 13 84) (sr_ [g8 85,v_ 86 13,bp 87 85 86,a8 88 87,e8 89 88 1,bp 90 85 86,dx 90 89] (fo [g8 91,v_ 92 13,bp 93 91 92,a8 94 93,dz 95 94 0] 95 [v_ 96 7,v_ 97 13,o1 98 97 (dc 1 (nI_ 0) [0]),o2 99 96 98 (.app 1 8 (nI_ 0)),v_ 7 99])) 100 81 81 100)) (ey 69 10 (i1_ 70 69) 10 70)))) [ga 101,cu 102 1,a8 103 102,be 104 101 103,v_ 2 104])))
theorem V4:Bm Tryz.prog 113 1=some ⟨105,1,[(.slot 2)],Oe⟩:=by kernel_rfl
def PY:AC:=a6 (d5 4) (bq [cf 7,am 8 7 (-2147483648) bls_,v_ 9 8,g7 10 9 1,ae 11 9 (cn 10 2147483648) bgt_,fm 12 9 11] 12 (d5 4)) (db (cj (bk 13) (k1 14 144 13) 5 14) (dp (dm (dw 15) 16 15 17) 0 18 17 16 18 0 1 (fv 19 17 6 19) (dq [dw 20,v_ 21 6,fp 22 20 21,d9 23 22,a8 24 23,cf 25,ek 26 24 25,fp 27 20 21,d9 28 27,dx 28 26] [dw 29,v_ 30 6,fp 31 29 30,cr 32 31,a8 33 32,cf 34,ek 35 33 34,fp 36 29 30,cr 37 36,dx 37 35]) 38 17 17 38) (cj (dw 39) (k1 40 144 39) 4 40))
theorem Yi:Bm Tryz.prog 115 2=some ⟨41,2,[(.slot 4)],PY⟩:=by kernel_rfl
def MC:AC:=d4 (cy 4) [bk 5,cf 6,k2 7 145 5 6,b8 8 7,dz 9 8 0,v_ 4 9]
theorem TN:Bm Tryz.prog 116 2=some ⟨10,2,[(.slot 4)],MC⟩:=by kernel_rfl
def D5:AC:=db (g9 4) (dp (dm (bk 6) 7 6 8) 0 9 8 7 9 0 1 (fv 10 8 5 10) (bq [cf 11,bk 12,dw 13,o2 14 12 13 a5_,cg 15 14 5,o2 16 11 15 .call] 16 (bn (dw 17) 4 17)) 18 8 8 18) [ef 4 (-1)]
theorem EO:Bm Tryz.prog 117 2=some ⟨19,2,[(.slot 4)],D5⟩:=by kernel_rfl
def EB:AC:=db (g9 4) (dp (dm (bk 6) 7 6 8) 0 9 8 7 9 0 1 (fv 10 8 5 10) (bq [cf 11,bk 12,dw 13,o2 14 12 13 a3_,cg 15 14 3,o2 16 11 15 .call] 16 (bn (dw 17) 4 17)) 18 8 8 18) [ef 4 (-1)]
theorem G1:Bm Tryz.prog 118 2=some ⟨19,2,[(.slot 4)],EB⟩:=by kernel_rfl
def LU:AC:=sr_ [ci 4 1,ns_ 6,bf_ 7] (db (cj (cg 18 4 3) (fw 19 18 3 1 [nI_ 0,.nilS,.nilS] [0]) 8 19) (dp (dm (fk 20) 21 20 22) 0 23 22 21 23 0 1 [o2 24 20 22 a6_,er 25 24,bt 10 [nI_ 0,nI_ 0,nI_ 0,nI_ 0,nI_ 0,.nilS] 6,ay 10 25 6] (a6 (d5 11) (cq (dm (v_ 26 8) 27 26 28) 2 29 28 27 29 2 (av 3 (a6 [o2 30 26 28 a3_,cg 31 30 3,bt 13 [nI_ 0,.nilS,.nilS] 3,ay 13 31 3] (.dreg [bk 32,au 33 32,o1 34 33 (bw 12 1),a8 35 34,d9 36 13,a8 37 36,bp 38 35 37,a8 39 38,b8 40 39,z_ 41]) (aa 4 (bl (cp 42 41 40) 42 4 (av 5 (a6 [o2 43 39 41 a5_,cg 44 43 5,bt 15 [nI_ 0,nI_ 0,.nilS,nI_ 0,.nilS] 5,ay 15 44 5] (sr_ [bk 45,au 46 45,o1 47 46 (bw 20 1),a8 48 47,i1_ 49 48,au 50 45,o1 51 50 (bw 20 1),dx 51 49] (bq [bk 52,au 53 52,o1 54 53 (bw 20 1),a8 55 54,dv 56 55 65536] 56 (dt (ns_ 6) 7))) (a6 [bk 58,cg 59 13 3,er 60 10,cg 61 15 5,ce 62 [d7 146,s_ 58,s_ 59,s_ 60,s_ 61],v_ 57 62,az 63 57 0,az 64 57 1,v_ 16 63,v_ 17 64] (bq [v_ 65 17,eo 66 65,v_ 67 66,g7 68 67 11,bj 69 67 68 ln,g7 70 67 16,bj 71 67 70 ln,ae 72 67 (ct 69 71) bad_,ae 73 67 (cn 72 4096) bgt_,fm 74 67 73] 74 (dt (ns_ 6) 7)) (.reg (fh (v_ 75 11) (v_ 76 16) (o2 77 75 76 (co 3 56 [nI_ 0,.nilS,.nilS])) 11 77)))) (bo 78 41 41 78))))) (bo 79 28 28 79))) (.reg (fv 80 11 8 80))) 81 22 22 81) [v_ 82 8,v_ 6 82,bt_ 7])
theorem LW:Bm Tryz.prog 119 3=some ⟨83,3,[(.slot 6),(.slot 7)],LU⟩:=by kernel_rfl
def PZ:AC:=sr_ (d5 2) (db (d5 3) (dp (dm (bk 6) 7 6 8) 0 9 8 7 9 0 1 (cj (bp 10 6 8) (a8 11 10) 5 11) (.reg [v_ 12 3,dw 13,k1 14 144 13,o1 15 14 (fx 1 [0]),o2 16 12 15 (.app 1 24 .nilS),v_ 3 16]) 17 8 8 17) (fv 18 3 2 18))
theorem Yj:Bm Tryz.prog 120 1=some ⟨19,1,[(.slot 2)],PZ⟩:=by kernel_rfl
def Lx:AC:=sr_ (d5 2) (db (d5 3) (dp (dm (bk 6) 7 6 8) 0 9 8 7 9 0 1 [o2 10 6 8 a6_,er 11 10,bt 5 [nI_ 0,nI_ 0,nI_ 0,nI_ 0,nI_ 0,.nilS] 6,ay 5 11 6] (dq [fj 12 5,a8 13 12,k1 14 147 13,fj 15 5,dx 15 14] [v_ 16 3,er 17 5,fw 18 17 6 1 [nI_ 0,nI_ 0,nI_ 0,nI_ 0,nI_ 0,.nilS] [0],o2 19 16 18 (co 6 64 [nI_ 0,nI_ 0,nI_ 0,nI_ 0,nI_ 0,.nilS]),v_ 3 19]) 20 8 8 20) (fv 21 3 2 21))
theorem Rw:Bm Tryz.prog 121 1=some ⟨22,1,[(.slot 2)],Lx⟩:=by kernel_rfl
def DY:AC:=sr_ (d5 2) (a6 (g9 3) (dp (dm (bk 9) 10 9 11) 0 12 11 10 12 0 1 (cj (bp 13 9 11) (a8 14 13) 5 14) (sr_ [v_ 15 3,dw 16,b8 17 16,ek 18 15 17,v_ 3 18] (fo (g6 19 3 (am 20 19 0 bls_)) 20 [c1 21 (.str [108,101,110,32,111,117,116,32,111,102,32,114,97,110,103,101]) .no,h_ (ai 21) .no])) 22 11 11 22) (db (ey 23 3 (ce 24 [d7 148,k_ .nilS,s_ 23]) 6 24) (dp (dm (bk 25) 26 25 27) 2 28 27 26 28 2 3 (cj (bp 29 25 27) (a8 30 29) 8 30) (.reg (fh (v_ 31 6) (v_ 32 8) (o2 33 31 32 (co 6 64 [nI_ 0,nI_ 0,nI_ 0,nI_ 0,nI_ 0,.nilS])) 6 33)) 34 27 27 34) (fv 35 6 2 35)))
theorem Fz:Bm Tryz.prog 122 1=some ⟨36,1,[(.slot 2)],DY⟩:=by kernel_rfl
def Ly:AC:=sr_ [fy 1,z_ 2] (cl (g9 3) (dp [ei 8 1,a8 9 8,b8 10 9,z_ 11] 0 12 11 10 12 0 1 [o2 13 9 11 a5_,cg 14 13 5,bt 5 [nI_ 0,nI_ 0,.nilS,nI_ 0,.nilS] 5,ay 5 14 5] (.reg [v_ 15 3,ei 16 5,a8 17 16,b8 18 17,o2 19 15 18 .max,v_ 3 19]) 20 11 11 20) (dp [fj 21 1,a8 22 21,b8 23 22,z_ 24] 2 25 24 23 25 2 3 [o2 26 22 24 a3_,cg 27 26 3,bt 7 [nI_ 0,.nilS,.nilS] 3,ay 7 27 3] (.reg [v_ 28 3,cu 29 7,a8 30 29,b8 31 30,o2 32 28 31 .max,v_ 3 32]) 33 24 24 33) (a7 (fv 34 3 2 34)))
theorem Rx:Bm Tryz.prog 123 1=some ⟨35,1,[(.slot 2)],Ly⟩:=by kernel_rfl
def Of:AC:=d4 [bt 2 [nI_ 0,nI_ 0,nI_ 0,nI_ 0] 4] [bk 3,am 4 3 21 (de [nI_ 0,nI_ 0,nI_ 0,nI_ 0] [(0,1),(1,1),(2,1),(3,1)] 0 2),ay 2 4 4]
theorem V5:Bm Tryz.prog 129 1=some ⟨5,1,[(.cell 2 true 4)],Of⟩:=by kernel_rfl
def V6:AC:=db (cy 4) (sr_ [bk 5] (.block 0 (sr_ (bn (dz 7 5 1) 6 7) (i_ 6 (a7 [cf 8,c2 9 8 (.int .i32 0) bge_,v_ 10 9,cm 11 10 1,bu 12 10 (bm 11 (k_ (.int .i32 255))) ble_,df 13 10 12,v_ 4 13]) (bq (bn (dz 15 5 2) 14 15) 14 [cf 16,c2 17 16 (.int .i32 0) bge_,v_ 18 17,cm 19 18 1,bu 20 18 (bm 19 (k_ (.int .i32 1114111))) ble_,df 21 18 20,v_ 22 21,cm 23 22 1,bu 24 22 (bm 23 (k_ (.int .i32 55296))) bls_,cm 25 22 24,g7 26 25 1,ae 27 25 (bm 26 (k_ (.int .i32 57343))) bgt_,bu 28 22 (c8 25 d8 (s_ 27)) .pick,df 29 22 28,v_ 4 29]))))) (cy 4)
theorem z9d:Bm Tryz.prog 133 2=some ⟨30,2,[(.slot 4)],V6⟩:=by kernel_rfl
def Fa:AC:=ba (fh (a8 4 1) (b8 5 4) (e8 6 5 1) 3 6) 0 (fe (g6 7 3 (am 8 7 0 bge_)) (ex_ 8 0) (av 1 (aq [bk 11,v_ 12 3,a8 13 1,v_ 14 3,bp 15 13 14,a8 16 15,o3 17 11 12 16 .call,eo 18 17] 18 .ret) (ey 9 3 (e8 10 9 1) 3 10)))
theorem I5:Bm Tryz.prog 134 2=some ⟨19,2,[],Fa⟩:=by kernel_rfl
def Og:AC:=d4 (dt (fy 2) 4) [d9 5 2,a8 6 5,am 7 6 0 bge_,v_ 8 7,g1 9 8 2 f0_,ep 10 8 9,cm 11 8 1,g2 12 8 10 11 bls_,df 13 8 12,v_ 14 13,g1 15 14 2 (ap 4),e9 16 14 (ft 155 15),df 17 14 16,v_ 4 17]
theorem V7:Bm Tryz.prog 135 2=some ⟨18,2,[(.slot 4)],Og⟩:=by kernel_rfl
def Oh:AC:=cl [fy 2,z_ 4,bf_ 5] (bq [cg 6 2 4,k1 7 155 6,eo 8 7,v_ 9 8,g7 10 9 1,ae 11 9 (cn 10 0) bls_,fm 12 9 11,v_ 13 12,g7 14 13 1,ae 15 13 (cn 14 2097151) bgt_,fm 16 13 15] 16 (dt (z_ 4) 5)) (.dreg [cf 17,cr 18 2,a8 19 18,da 20 17 19 .shr,cu 21 2,a8 22 21,m_ 23 (fq (b9 1) 22) (.bin .shl),e8 24 23 1,da 25 20 24 .and,o1 26 2 f3_,a8 27 26,da 28 25 27 .shl,v_ 4 28,bt_ 5]) .ret
theorem V8:Bm Tryz.prog 136 2=some ⟨29,2,[(.slot 4),(.slot 5)],Oh⟩:=by kernel_rfl
def Oi:AC:=d4 [fy 1,bt 2 [nI_ 0,nI_ 0,nI_ 0,nI_ 0] 4] [cr 3 1,a8 4 3,cu 5 1,a8 6 5,o1 7 1 f3_,a8 8 7,o3 9 4 6 8 (.build [nI_ 0,nI_ 0,nI_ 0,nI_ 0] [(0,1),(1,1),(2,1),(3,1)] [1,2,3]),ay 2 9 4]
theorem V9:Bm Tryz.prog 137 1=some ⟨10,1,[(.cell 2 true 4)],Oi⟩:=by kernel_rfl
def Gg:AC:=sr_ [bt_ 10] (ba [bt_ 11] 0 (.block 1 (cl (fh (fk 21) (cf 22) (fu 23 21 22) 12 23) (bq (g6 24 12 (am 25 24 12 ble_)) 25 [bk 26,cf 27,fk 28,g8 29,ce 30 [d7 156,s_ 26,s_ 27,s_ 28,s_ 29]]) (bq (g6 31 3 (dz 32 31 0)) 32 [bk 33,cf 34,fk 35,g8 36,ce 37 [d7 157,s_ 33,s_ 34,s_ 35,s_ 36]]) (.seq (aq (g6 38 10 (eo 39 38)) 39 (dq [bk 40,cf 41,fk 42,g8 43,ce 44 [d7 158,s_ 40,s_ 41,s_ 42,s_ 43]] (ey 45 3 (e8 46 45 1) 3 46))) (cl [bk 48,cf 49,fk 50,g8 51,ce 52 [d7 159,s_ 48,s_ 49,s_ 50,s_ 51],v_ 47 52,az 53 47 0,az 54 47 1,v_ 13 53,v_ 14 54] (aq (g6 55 14 (dz 56 55 2)) 56 (sr_ [bk 57,cf 58,fk 59,g8 60,ce 61 [d7 160,s_ 57,s_ 58,s_ 59,s_ 60]] (dq [fk 62,e8 63 62 1,v_ 64 13,cf 65,fu 66 64 65,fu 67 63 66,v_ 13 67] [ef 14 1]))) (aq [ga 68,v_ 69 68,cm 70 69 11,df 71 69 70,v_ 72 71,cm 73 72 14,eu 74 72 73 1 beq_,df 75 72 74] 75 (aq [bk 76,cf 77,fk 78,g8 79,ce 80 [d7 161,s_ 76,s_ 77,s_ 78,s_ 79]] 80 .ret)) (.seq (ew [cf 81,dv 82 81 0,v_ 83 82,cm 84 83 4,cm 85 83 0,cm 86 83 1,eu 87 83 86 1 bsu_,g2 88 83 85 87 a1_,ep 89 83 88,cm 90 83 0,cm 91 83 13,g2 92 83 90 91 a1_,ep 93 83 92] [e9 94 83 (c8 84 (s_ 89) (s_ 93)),eu 95 83 94 0 bls_,g1 96 83 95 nt,df 97 83 96] (aj 97 (ez [bk 98,cf 99,fk 100,v_ 101 13,g8 102,ce 103 [d7 162,s_ 98,s_ 99,s_ 100,s_ 101,s_ 102],v_ 15 103] (fv 104 15 1 104) (.exit 1)))) (sr_ [bk 106,cf 107,fk 108,v_ 109 13,g8 110,ce 111 [d7 163,s_ 106,s_ 107,s_ 108,s_ 109,s_ 110],v_ 105 111,az 112 105 0,az 113 105 1,v_ 16 112,v_ 17 113] (ez (fv 114 17 11 114) [v_ 115 16,cf 116,fu 117 115 116,fk 118,v_ 119 16,fu 120 118 119,v_ 18 117,v_ 19 120] (ez (ey 121 12 (am 122 121 8 (.bin .quo)) 20 122) [v_ 123 18,v_ 124 19,be 125 123 124] (i_ 125 (sr_ (fh (v_ 126 18) (v_ 127 20) (o2 128 126 127 bge_) 10 128) (dq [bk 129,cf 130,v_ 131 16,v_ 132 3,g8 133,ce 134 [d7 138,s_ 129,s_ 130,s_ 131,s_ 132,s_ 133]] (ey 135 16 (i1_ 136 135) 1 136))) (sr_ (fh (v_ 137 19) (v_ 138 20) (o2 139 137 138 bge_) 10 139) (dq [bk 140,v_ 141 16,i1_ 142 141,fk 143,v_ 144 3,g8 145,ce 146 [d7 138,s_ 140,s_ 142,s_ 143,s_ 144,s_ 145]] (fv 147 16 2 147)))))))))))))
theorem If:Bm Tryz.prog 138 5=some ⟨148,5,[],Gg⟩:=by kernel_rfl
def Kr:AC:=db (g9 2) (.cond (.const bF_) (a7 [bk 3,o1 4 3 (.conv .u32),k1 5 164 4,dw 2]) .skip) (cj (bk 6) (k1 7 165 6) 2 7)
theorem Qa:Bm Tryz.prog 139 1=some ⟨8,1,[(.slot 2)],Kr⟩:=by kernel_rfl
def Oj:AC:=sr_ (g9 4) (db (g9 5) (aa 0 (.seq (.seq (.dreg [dw 6,bk 7,b8 8 7,be 9 6 8,v_ 10 9,cm 11 10 5,cm 12 10 1,g1 13 10 12 ln,g2 14 10 11 13 bls_,df 15 10 14,v_ 16 15,cm 17 16 0,cm 18 16 5,g2 19 16 17 18 a1_,ep 20 16 19,cm 21 16 1,cm 22 16 5,g2 23 16 21 22 a1_,ep 24 16 23,g2 25 16 20 24 beq_,df 26 16 25]) (ex_ 26 0)) (.block 1 (.reg (cj (dw 27) (i1_ 28 27) 5 28))))) (bn (dw 29) 4 29))
theorem VA:Bm Tryz.prog 140 2=some ⟨30,2,[(.slot 4)],Oj⟩:=by kernel_rfl
def IN:AC:=ez (g9 4) (cj (bk 7) (k1 8 166 7) 5 8) (cl (cj (cf 9) (k1 10 166 9) 6 10) (aq [dw 11] 11 (.seq (bq [v_ 12 6] 12 (g9 4)) (a7 [ef 4 (-1)]))) (bq [v_ 13 6] 13 [ef 4 1]) (.seq (bq [bk 14,cf 15,be 16 14 15] 16 [ef 4 (-1)]) (.seq (bq [bk 17,cf 18,o2 19 17 18 bgt_] 19 [ef 4 1]) (a7 (g9 4)))))
theorem MD:Bm Tryz.prog 141 2=some ⟨20,2,[(.slot 4)],IN⟩:=by kernel_rfl
def Ol:AC:=sr_ (cy 2) (db [ef 3 (-1073741826)] (cq (dm (bk 6) 7 6 8) 0 9 8 7 9 0 (av 1 (a6 [fp 10 6 8,cg 11 10 2,bt 5 [nI_ 0,nI_ 0] 2,ay 5 11 2] (g0 [d9 12 5,a8 13 12,cr 14 5,a8 15 14,o2 16 13 15 bgt_,v_ 17 16,bj 18 17 5 f0_,bj 19 17 18 ld,ae 20 17 (cn 19 (-1073741824)) bls_,fm 21 17 20,v_ 22 21,bj 23 22 5 f1_,bj 24 22 23 ld,ae 25 22 (cn 24 1073741824) bgt_,fm 26 22 25,v_ 27 26,bj 28 27 5 f0_,bj 29 27 28 ld,g7 30 27 3,ae 31 27 (cn 30 1) bad_,ae 32 27 (ct 29 31) ble_,fm 33 27 32] 33 2) (.reg (cj (cr 34 5) (a8 35 34) 3 35))) (bo 36 8 8 36))) [bt_ 2])
theorem VB:Bm Tryz.prog 142 1=some ⟨37,1,[(.slot 2)],Ol⟩:=by kernel_rfl
def Qb:AC:=a6 (dt (fy 4) 8) (g0 [er 11 4,cf 12,fk 13,v_ 14 3,b8 15 14,ce 16 [d7 167,s_ 11,s_ 12,s_ 13,s_ 15],eo 17 16] 17 8) (d4 [er 19 4,v_ 20 3,k2 21 168 19 20,v_ 18 21,az 22 18 0,az 23 18 1,v_ 9 22,v_ 10 23] [ga 24,v_ 25 24,cm 26 25 9,cm 27 25 2,e9 28 25 (ft 83 27),e9 29 25 [d7 116,s_ 26,s_ 28],df 30 25 29,v_ 8 30])
theorem Yk:Bm Tryz.prog 143 4=some ⟨31,4,[(.slot 8)],Qb⟩:=by kernel_rfl
def Qc:AC:=sr_ (d5 2) (a6 (fh (bk 10) (b8 11 10) (m_ 12 (fq (b9 0) 11) (.mkSlice 2 16 (.agg [nI_ 0,nI_ 0]))) 3 12) (dp (dm (bk 13) 14 13 15) 0 16 15 14 16 0 1 [fp 17 13 15,cg 18 17 2,bt 5 [nI_ 0,nI_ 0] 2,ay 5 18 2] (sr_ [d9 19 5,a8 20 19,am 21 20 (-1073741824) .max,cr 22 5,a8 23 22,am 24 23 1073741824 .min,d9 25 5,dx 25 21,cr 26 5,dx 26 24] (fo [d9 27 5,a8 28 27,cr 29 5,a8 30 29,o2 31 28 30 ble_] 31 [v_ 32 3,cg 33 5 2,fw 34 33 2 1 [nI_ 0,nI_ 0] [0],o2 35 32 34 (co 2 16 [nI_ 0,nI_ 0]),v_ 3 35])) 36 15 15 36) (sr_ (g6 37 3 (ce 38 [d7 169,s_ 37,d7 170])) (db (ey 39 3 (am 40 39 0 (ed 2 false true)) 6 40) (cq (dm (v_ 41 3) 42 41 43) 2 44 43 42 44 2 (av 3 (a6 [fp 45 41 43,cg 46 45 2,bt 8 [nI_ 0,nI_ 0] 2,ay 8 46 2] (a6 (ey 47 6 (b8 48 47) 9 48) (.dreg [v_ 49 9,dv 50 49 0,v_ 51 50,g1 52 51 8 f0_,ep 53 51 52,cm 54 51 6,cm 55 51 9,eu 56 51 55 1 bsu_,g2 57 51 54 56 a2_,g1 58 51 57 f1_,ep 59 51 58,eu 60 51 59 1 bad_,g2 61 51 53 60 ble_,df 62 51 61]) (aj 62 (ew [v_ 63 6,v_ 64 9,e8 65 64 1,v_ 66 6,v_ 67 9,e8 68 67 1,fp 69 66 68,cr 70 69,a8 71 70,cr 72 8,a8 73 72,o2 74 71 73 .max,fp 75 63 65,cr 76 75] [dx 76 74] (.exit 3)))) (.reg [v_ 77 6,cg 78 8 2,fw 79 78 2 1 [nI_ 0,nI_ 0] [0],o2 80 77 79 (co 2 16 [nI_ 0,nI_ 0]),v_ 6 80])) (bo 81 43 43 81))) (fv 82 6 2 82))))
theorem Yl:Bm Tryz.prog 144 1=some ⟨83,1,[(.slot 2)],Qc⟩:=by kernel_rfl
def Om:AC:=ez (d5 4) (d5 5) (a6 [ef 6 (-1073741824)] (dp [cf 9,k1 10 144 9,b8 11 10,z_ 12] 0 13 12 11 13 0 1 [fp 14 10 12,cg 15 14 2,bt 8 [nI_ 0,nI_ 0] 2,ay 8 15 2] (dq [dw 16,v_ 17 6,d9 18 8,a8 19 18,e8 20 19 1,o2 21 17 20 (de [nI_ 0,nI_ 0] [(0,1),(1,1)] 0 1),fw 22 21 2 1 [nI_ 0,nI_ 0] [0],o2 23 16 22 (co 2 16 [nI_ 0,nI_ 0]),v_ 5 23] (fh (cr 24 8) (a8 25 24) (i1_ 26 25) 6 26)) 27 12 12 27) (d4 [dw 28,v_ 29 6,am 30 29 1073741824 (de [nI_ 0,nI_ 0] [(0,1),(1,1)] 0 1),fw 31 30 2 1 [nI_ 0,nI_ 0] [0],o2 32 28 31 (co 2 16 [nI_ 0,nI_ 0]),v_ 5 32] (fh (bk 33) (dw 34) (k2 35 172 33 34) 4 35)))
theorem VC:Bm Tryz.prog 145 2=some ⟨36,2,[(.slot 4)],Om⟩:=by kernel_rfl
def ME:AC:=cl [ci 5 1,ci 6 2,ci 7 3,ns_ 8,bf_ 9] (.dreg [er 21 6,cr 22 5,a8 23 22,cu 24 7,a8 25 24,am 26 25 0 a1_,a8 27 26,k3 28 173 21 23 27,v_ 20 28,az 29 20 0,az 30 20 1,v_ 10 29,v_ 11 30]) (bq (g6 31 11 (am 32 31 0 bne_)) 32 (dt (ns_ 8) 9)) (.seq (bq (dh (ga 33) 34 33 (dz 35 34 0)) 35 [ns_ 8,bt_ 9]) (cl (fh (cu 36 5) (a8 37 36) (k1 38 174 37) 12 38) (dp [ei 39 7,a8 40 39,b8 41 40,z_ 42] 0 43 42 41 43 0 1 [o2 44 40 42 a6_,er 45 44,bt 14 [nI_ 0,nI_ 0,nI_ 0,nI_ 0,nI_ 0,.nilS] 6,ay 14 45 6] (a6 [er 47 14,er 48 6,k2 49 175 47 48,v_ 46 49,az 50 46 0,az 51 46 1,bt 15 [nI_ 0,nI_ 0,nI_ 0,nI_ 0,nI_ 0,.nilS] 6,ay 15 50 6,v_ 16 51] (bq (g6 52 16 (eo 53 52)) 53 (dt (ns_ 8) 9)) (.reg [v_ 54 12,er 55 15,fw 56 55 6 1 [nI_ 0,nI_ 0,nI_ 0,nI_ 0,nI_ 0,.nilS] [0],o2 57 54 56 (co 6 64 [nI_ 0,nI_ 0,nI_ 0,nI_ 0,nI_ 0,.nilS]),v_ 12 57])) 58 42 42 58) (bq (dh (v_ 59 12) 60 59 (dv 61 60 64)) 61 (dt (ns_ 8) 9)) (db (d5 17) (cq (dm (ga 62) 63 62 64) 2 65 64 63 65 2 (av 3 (a6 (cj (bp 66 62 64) (a8 67 66) 19 67) (bq (g6 68 19 (ce 69 [d7 176,s_ 68,d7 177])) 69 (dt (ns_ 8) 9)) (.reg [v_ 70 17,cr 71 7,a8 72 71,v_ 73 19,v_ 74 12,o3 75 72 73 74 (.build [nI_ 0,.nilS,.nilS] [(0,1),(1,1),(2,1)] [0,1,2]),fw 76 75 3 1 [nI_ 0,.nilS,.nilS] [0],o2 77 70 76 (co 3 56 [nI_ 0,.nilS,.nilS]),v_ 17 77])) (bo 78 64 64 78))) [v_ 79 17,v_ 8 79,bt_ 9])))
theorem MF:Bm Tryz.prog 146 4=some ⟨80,4,[(.slot 8),(.slot 9)],ME⟩:=by kernel_rfl
def Db:AC:=db (d5 2) (bq [bk 3,c2 4 3 .nilS (.eqn false)] 4 (d5 2)) (fh (o0 5 (bh 4 0 [nI_ 0,nI_ 0,nI_ 0,nI_ 0] [])) (bk 6) (o2 7 5 6 (co 4 32 [nI_ 0,nI_ 0,nI_ 0,nI_ 0])) 2 7)
theorem Eg:Bm Tryz.prog 147 1=some ⟨8,1,[(.slot 2)],Db⟩:=by kernel_rfl
def Et:AC:=cl (d5 4) (fo [cf 5,am 6 5 0 bls_] 6 [c1 7 (.str [99,97,110,110,111,116,32,98,101,32,110,101,103,97,116,105,118,101]) .no,h_ (ai 7) .no]) (sr_ [cf 8,bk 9,o1 10 9 .cap,bk 11,b8 12 11,fu 13 10 12,fu 14 8 13,v_ 1 14] (fo [cf 15,dv 16 15 0] 16 [bk 17,bk 18,o1 19 18 .cap,o2 20 17 19 (ed 6 false true),cf 21,o2 22 20 21 (.appZ 6 64 (.agg [nI_ 0,nI_ 0,nI_ 0,nI_ 0,nI_ 0,.nilS])),bk 23,b8 24 23,o2 25 22 24 (ed 6 false true),v_ 0 25])) (a7 (bn (bk 26) 4 26))
theorem FK:Bm Tryz.prog 148 2=some ⟨27,2,[(.slot 4)],Et⟩:=by kernel_rfl
def Qd:AC:=d4 (dt (fy 1) 2) [cr 3 1,a8 4 3,am 5 4 0 bge_,dw 6,g1 7 6 1 f1_,ep 8 6 7,eu 9 6 8 21 bls_,df 10 6 9,ga 11,g1 12 11 1 f2_,ep 13 11 12,eu 14 11 13 1 bge_,df 15 11 14,v_ 16 15,g1 17 16 1 f2_,ep 18 16 17,eu 19 16 18 21 ble_,df 20 16 19,v_ 21 20,g1 22 21 1 f3_,ep 23 21 22,eu 24 21 23 0 bge_,df 25 21 24,v_ 26 25,g1 27 26 1 f3_,ep 28 26 27,eu 29 26 28 21 bls_,df 30 26 29,v_ 31 30,g1 32 31 1 f3_,ep 33 31 32,eu 34 31 33 0 beq_,cm 35 31 34,bj 36 35 1 f2_,bj 37 35 36 ld,ae 38 35 (cn 37 6) ble_,bu 39 31 (c8 35 d8 (s_ 38)) .pick,df 40 31 39,v_ 2 40]
theorem Ym:Bm Tryz.prog 155 1=some ⟨41,1,[(.slot 2)],Qd⟩:=by kernel_rfl
def Fh:AC:=ba (cj (cf 10) (i1_ 11 10) 8 11) 0 (fe [v_ 12 8,fk 13,be 14 12 13] (ex_ 14 0) (av 1 (ba (fv 17 8 9 17) 2 (.seq (ew [v_ 18 9,cf 19,o2 20 18 19 bgt_,v_ 21 20,cm 22 21 3,cm 23 21 0,cm 24 21 9,g2 25 21 23 24 a1_,ep 26 21 25,cm 27 21 0,cm 28 21 9,eu 29 21 28 1 bsu_,g2 30 21 27 29 a1_,ep 31 21 30] [e9 32 21 (c8 22 (s_ 26) (s_ 31)),eu 33 21 32 0 bls_,df 34 21 33] (ex_ 34 2)) (av 3 (.greg [bk 37,v_ 38 9,bk 39,v_ 40 9,e8 41 40 1,bk 42,v_ 43 9,e8 44 43 1,bp 45 42 44,a8 46 45,bk 47,v_ 48 9,bp 49 47 48,a8 50 49,bp 51 37 38,dx 51 46,bp 52 39 41,dx 52 50]) (ey 35 9 (e8 36 35 1) 9 36)))) (ey 15 8 (i1_ 16 15) 8 16)))
theorem Hc:Bm Tryz.prog 156 4=some ⟨53,4,[],Fh⟩:=by kernel_rfl
def Jv:AC:=cl (g9 2) (aq [bk 3,c2 4 3 (.int .u64 4294967296) bge_] 4 (dq (cj (bk 5) (c2 6 5 (.int .u64 32) (.bin .shr)) 0 6) [ef 2 32])) (aq [bk 7,c2 8 7 (.int .u64 65536) bge_] 8 (dq (cj (bk 9) (c2 10 9 (.int .u64 16) (.bin .shr)) 0 10) (ey 11 2 (am 12 11 16 bad_) 2 12))) (.seq (aq [bk 13,c2 14 13 (.int .u64 256) bge_] 14 (dq (cj (bk 15) (c2 16 15 (.int .u64 8) (.bin .shr)) 0 16) (ey 17 2 (am 18 17 8 bad_) 2 18))) (a7 [fk 19,bk 20,o1 21 20 (.conv .u8),m_ 22 (fq (k_ (.str [0,1,2,2,3,3,3,3,4,4,4,4,4,4,4,4,5,5,5,5,5,5,5,5,5,5,5,5,5,5,5,5,6,6,6,6,6,6,6,6,6,6,6,6,6,6,6,6,6,6,6,6,6,6,6,6,6,6,6,6,6,6,6,6,7,7,7,7,7,7,7,7,7,7,7,7,7,7,7,7,7,7,7,7,7,7,7,7,7,7,7,7,7,7,7,7,7,7,7,7,7,7,7,7,7,7,7,7,7,7,7,7,7,7,7,7,7,7,7,7,7,7,7,7,7,7,7,7,8,8,8,8,8,8,8,8,8,8,8,8,8,8,8,8,8,8,8,8,8,8,8,8,8,8,8,8,8,8,8,8,8,8,8,8,8,8,8,8,8,8,8,8,8,8,8,8,8,8,8,8,8,8,8,8,8,8,8,8,8,8,8,8,8,8,8,8,8,8,8,8,8,8,8,8,8,8,8,8,8,8,8,8,8,8,8,8,8,8,8,8,8,8,8,8,8,8,8,8,8,8,8,8,8,8,8,8,8,8,8,8,8,8,8,8,8,8,8,8,8,8,8,8,8,8,8,8])) 21) .indexStr,o1 23 22 (.conv .i64),ek 24 19 23,v_ 2 24]))
theorem Ny:Bm Tryz.prog 165 1=some ⟨25,1,[(.slot 2)],Jv⟩:=by kernel_rfl
def JZ:AC:=d4 (cy 2) [bk 3,bk 4,o2 5 3 4 bne_,dw 2]
theorem OF:Bm Tryz.prog 166 1=some ⟨6,1,[(.slot 2)],JZ⟩:=by kernel_rfl
def On:AC:=cl (dt (fy 4) 8) (g0 [cf 11,k1 12 83 11,b8 13 12,dz 14 13 0,v_ 15 14,g7 16 15 2,ae 17 15 (ft 83 16) .call,bj 18 15 17 ln,ae 19 15 (cn 18 0) beq_,fm 20 15 19,v_ 21 20,bj 22 21 4 l6,ae 23 21 (ft 186 22) .call,bj 24 21 23 nt,fm 25 21 24] 25 8) (cq [fj 26 4,a8 27 26,b8 28 27,z_ 29] 0 30 29 28 30 0 (av 1 (a6 [o2 31 27 29 a4_,cg 32 31 4,bt 10 [nI_ 0,nI_ 0,nI_ 0,nI_ 0] 4,ay 10 32 4] (.dreg [cg 33 10 4,v_ 34 3,k2 35 135 33 34,eo 36 35,v_ 37 36,g7 38 37 1,ae 39 37 (cn 38 2) beq_,g7 40 37 39,g1 41 40 10 (ap 4),g1 42 40 10 f0_,ep 43 40 42,e9 44 40 (ft 129 43),g2 45 40 41 44 (.eqs true [1,1,1,1]),ae 46 37 (c8 40 (s_ 45) ck) .pick,fm 47 37 46]) (aj 47 (a7 (cy 8)))) (bo 48 29 29 48))) (a7 [cf 49,am 50 49 2 bne_,v_ 51 50,bj 52 51 4 f5_,bj 53 51 52 ld,bj 54 51 53 ln,ae 55 51 (cn 54 1) ble_,fm 56 51 55,v_ 57 56,cm 58 57 2,eu 59 57 58 2 bne_,cm 60 57 59,bj 61 60 4 l6,ae 62 60 (ft 187 61) .call,bu 63 57 (c8 60 d8 (s_ 62)) .pick,df 64 57 63,v_ 8 64])
theorem VD:Bm Tryz.prog 167 4=some ⟨65,4,[(.slot 8)],On⟩:=by kernel_rfl
def Oo:AC:=sr_ [fy 2,ns_ 4,bf_ 5] (cl [er 9 2,cf 10,k2 11 188 9 10,v_ 8 11,az 12 8 0,az 13 8 1,v_ 6 12,v_ 7 13] (bq (g6 14 7 (eo 15 14)) 15 (dt (ns_ 4) 5)) (bq (dh (v_ 16 6) 17 16 (dz 18 17 0)) 18 [ns_ 4,bt_ 5]) (ew [er 19 2,k1 20 137 19,v_ 21 6,k2 22 189 20 21,d9 23 2,a8 24 23] [k2 25 115 22 24,v_ 4 25,bt_ 5] .ret))
theorem VE:Bm Tryz.prog 168 2=some ⟨26,2,[(.slot 4),(.slot 5)],Oo⟩:=by kernel_rfl
def Fb:AC:=dq (cj (bk 5) (b8 6 5) 4 6) [bk 7,g8 8,g8 9,o1 10 9 (.conv .u64),k1 11 139 10,cf 12,ce 13 [d7 190,s_ 7,b9 0,s_ 8,s_ 11,s_ 12]]
theorem GO:Bm Tryz.prog 169 2=some ⟨14,2,[],Fb⟩:=by kernel_rfl
def Qe:AC:=ez (d5 4) [bk 7,k1 8 144 7,cf 9,k1 10 144 9,v_ 0 8,ga 1] (db (d5 5) (aa 0 (fe [bk 11,b8 12 11,dv 13 12 0,v_ 14 13,cm 15 14 1,g1 16 14 15 ln,eu 17 14 16 0 bgt_,df 18 14 17] (ex_ 18 0) (.block 1 (.seq (.greg [bk 19,am 20 19 0 a2_,d9 21 20,a8 22 21,cf 23,am 24 23 0 a2_,d9 25 24,a8 26 25,o2 27 22 26 .max,bk 28,am 29 28 0 a2_,cr 30 29,a8 31 30,cf 32,am 33 32 0 a2_,cr 34 33,a8 35 34,o2 36 31 35 .min,o2 37 27 36 (de [nI_ 0,nI_ 0] [(0,1),(1,1)] 0 1),bt 6 [nI_ 0,nI_ 0] 2,ay 6 37 2]) (.seq (fo [d9 38 6,a8 39 38,cr 40 6,a8 41 40,o2 42 39 41 ble_] 42 [dw 43,cg 44 6 2,fw 45 44 2 1 [nI_ 0,nI_ 0] [0],o2 46 43 45 (co 2 16 [nI_ 0,nI_ 0]),v_ 5 46]) (.seq (.dreg [bk 47,am 48 47 0 a2_,cr 49 48,a8 50 49,cf 51,am 52 51 0 a2_,cr 53 52,a8 54 53,be 55 50 54]) (i_ 55 (.reg (cj (bk 56) (am 57 56 1 (ed 2 true false)) 0 57)) (.reg (cj (cf 58) (am 59 58 1 (ed 2 true false)) 1 59))))))))) (bn (dw 60) 4 60))
theorem Yn:Bm Tryz.prog 172 2=some ⟨61,2,[(.slot 4)],Qe⟩:=by kernel_rfl
def GP:AC:=a6 [fy 3,ns_ 6,z_ 7] (bq [er 31 3,cf 32,b8 33 32,k2 34 192 31 33,eo 35 34] 35 [ns_ 6,ef 7 1]) (sr_ (cj (m_ 36 [b9 0,b9 1114111] (de [nI_ 0,nI_ 0] [(0,1),(1,1)] 0 1)) (fw 37 36 2 1 [nI_ 0,nI_ 0] [0]) 8 37) (cl [o0 38 (.build [.nilS,.nilS,.nilS,.nilS,.nilS,nI_ 0] [(0,1),(1,1),(2,1),(3,1),(4,1),(5,1)] []),ci 39 38,aw 9 .nilP 1,dx 9 39] (dp (dm (cf 40) 41 40 42) 0 43 42 41 43 0 1 (cj (bp 44 40 42) (a8 45 44) 11 45) (a6 (fh (v_ 46 11) (v_ 47 8) (k2 48 172 46 47) 11 48) (bq (dh (v_ 49 11) 50 49 (dz 51 50 0)) 51 [ns_ 6,z_ 7]) (.grx [true,true,false,true,false,false,false,false,false,false,false] [d6 52 9,d6 53 9,cv 54 53,ak 55 54 f1_,d6 56 55,f8 57 11,ak 58 57 (fx 1 [0]),dy 59 56 58 (.app 1 24 .nilS),cv 60 52,ak 61 60 f1_,h_ (ct 61 59) st])) 62 42 42 62) (.dtl [cr 63 3,a8 64 63,cu 65 3,a8 66 65,o1 67 3 f3_,a8 68 67,o3 69 64 66 68 (.build [nI_ 0,nI_ 0,nI_ 0,nI_ 0] [(0,1),(1,1),(2,1),(3,1)] [1,2,3]),v_ 70 8,fk 71,d9 72 3,a8 73 72,o1 74 73 (.un .neg),k2 75 115 71 74] (bn (k3 76 193 69 70 75) 12 76)) (ew [a8 77 9,v_ 78 12,ei 79 3,a8 80 79,o1 81 80 (.un .neg),k2 82 115 78 81,au 83 77,d9 84 83] [dx 84 82] (fe [fj 85 3,a8 86 85,k1 87 194 86] (.block 2 (.rng (.slot 87) [88,89] (.reg [bt 14 [nI_ 0,nI_ 0,nI_ 0,nI_ 0] 4,ay 14 89 4]) (.block 3 (ew [a8 90 9,au 91 90,cu 92 91,a8 93 92,d9 94 14,a8 95 94] (bn (k2 96 195 93 95) 15 96) (.seq (aq (g6 97 15 (am 98 97 0 bls_)) 98 (sr_ [a8 99 9,au 100 99,cu 101 100,a8 102 101,b8 103 102,v_ 15 103] (.gry [true,false,true,true,true,false,false,false,true,false,true,false,true,false,true,false,false,false,false,false,true,true,true,false,true,false,true,false,true,false,false,false,false,false,false,false,false,false,false,false,false,false,false,false] [d6 104 9,d6 105 9,d6 106 9,cv 107 106,ak 108 107 f2_,d6 109 108,ak 110 14 f0_,d6 111 110,ak 112 111 (dc 1 (nI_ 0) [0]),dy 113 109 112 (.app 1 8 (nI_ 0)),d6 114 9,cv 115 114,ak 116 115 f3_,d6 117 116,m_ 118 [k_ .nilS] (fx 1 [0]),dy 119 117 118 (.app 1 24 .nilS),cv 120 104,ak 121 120 f2_,h_ (ct 121 113) st,cv 122 105,ak 123 122 f3_,h_ (ct 123 119) st]))) (.grx [true,false,true,true,false,true,false,true,true,false,true,false,true,false,false,false,false] [d6 124 9,cv 125 124,ak 126 125 f3_,d6 127 126,f8 128 15,d6 129 9,cv 130 129,ak 131 130 f3_,d6 132 131,f8 133 15,dy 134 132 133 a1_,d6 135 134,ak 136 14 (ap 4),ak 137 136 (bh 4 1 [nI_ 0,nI_ 0,nI_ 0,nI_ 0] [0]),dy 138 135 137 (co 4 32 [nI_ 0,nI_ 0,nI_ 0,nI_ 0]),dy 139 127 128 a1_,h_ (ct 139 138) st])))))) (.seq (.greg [a8 140 9,a8 141 9,au 142 141,cu 143 142,a8 144 143,b8 145 144,i1_ 146 145,o2 147 146 146 (.mkSlice 1 8 (nI_ 0)),au 148 140,ei 149 148,dx 149 147]) (.seq (ba [a8 150 9,au 151 150,cu 152 151,a8 153 152,b8 154 153,e8 155 154 1,v_ 16 155] 4 (fe (g6 156 16 (am 157 156 0 bge_)) (ex_ 157 4) (av 5 (ew [a8 160 9,au 161 160,ei 162 161,a8 163 162,v_ 164 16,a8 165 9,au 166 165,ei 167 166,a8 168 167,v_ 169 16,i1_ 170 169,bp 171 168 170,a8 172 171,bp 173 163 164] [dx 173 172] (cq [a8 174 9,au 175 174,o1 176 175 f3_,a8 177 176,v_ 178 16,bp 179 177 178,a8 180 179,b8 181 180,z_ 182] 6 183 182 181 183 6 (av 7 (a6 [o2 184 180 182 a4_,cg 185 184 4,bt 18 [nI_ 0,nI_ 0,nI_ 0,nI_ 0] 4,ay 18 185 4] (.dreg [cg 187 18 4,a8 188 9,au 189 188,cr 190 189,a8 191 190,a8 192 9,au 193 192,cu 194 193,a8 195 194,v_ 196 16,bp 197 195 196,a8 198 197,bp 199 191 198,a8 200 199,k2 201 189 187 200,k1 202 196 201,v_ 186 202,az 203 186 0,az 204 186 1,v_ 19 203,v_ 20 204]) (.reg [a8 205 9,au 206 205,ei 207 206,a8 208 207,v_ 209 16,bp 210 208 209,a8 211 210,v_ 212 19,ek 213 211 212,bp 214 208 209,dx 214 213])) (bo 215 182 182 215)))) (ey 158 16 (e8 159 158 1) 16 159)))) (a6 [a8 217 9,ce 218 [d7 197,s_ 217,b9 0,b9 0],v_ 216 218,az 219 216 0,az 220 216 1,v_ 21 219,v_ 22 220] (bq [v_ 221 22,eo 222 221,v_ 223 222,g7 224 223 21,bj 225 223 224 ln,ae 226 223 (cn 225 4096) bgt_,fm 227 223 226] 227 [ns_ 6,ef 7 4]) (db (d5 23) (dp (dm (v_ 228 21) 229 228 230) 8 231 230 229 231 8 9 (cj (bp 232 228 230) (a8 233 232) 25 233) (cl [a8 234 9,au 235 234,cr 236 235,a8 237 236,b8 238 237,o2 239 238 238 (.mkSlice 1 24 .nilS),v_ 26 239] (dp [a8 240 9,au 241 240,cr 242 241,a8 243 242,b8 244 243,z_ 245] 10 246 245 244 246 10 11 [v_ 247 245,bp 248 243 245,a8 249 248,v_ 27 247,v_ 28 249] (.reg [v_ 250 26,v_ 251 27,v_ 252 28,k1 253 198 252,bp 254 250 251,dx 254 253]) 255 245 245 255) (dp (dm (v_ 256 25) 257 256 258) 12 259 258 257 259 12 13 [v_ 260 258,bp 261 256 258,a8 262 261,v_ 29 260,v_ 30 262] (.dtl [v_ 263 26,a8 264 9,au 265 264,cu 266 265,a8 267 266,v_ 268 29,bp 269 267 268,a8 270 269,v_ 271 30,k1 272 198 271,bp 273 263 270] [dx 273 272]) 274 258 258 274) (.reg [v_ 275 23,v_ 276 26,o1 277 276 (fx 1 [0]),o2 278 275 277 (.app 1 24 .nilS),v_ 23 278])) 279 230 230 279) [v_ 280 23,v_ 6 280,z_ 7]))))))))
theorem Yo:Bm Tryz.prog 173 3=some ⟨281,3,[(.slot 6),(.slot 7)],GP⟩:=by kernel_rfl
def Dc:AC:=db (d5 2) (bq [bk 3,c2 4 3 .nilS (.eqn false)] 4 (d5 2)) (fh (o0 5 (bh 6 0 [nI_ 0,nI_ 0,nI_ 0,nI_ 0,nI_ 0,.nilS] [])) (bk 6) (o2 7 5 6 (co 6 64 [nI_ 0,nI_ 0,nI_ 0,nI_ 0,nI_ 0,.nilS])) 2 7)
theorem Eh:Bm Tryz.prog 174 1=some ⟨8,1,[(.slot 2)],Dc⟩:=by kernel_rfl
def Sd:AC:=cl [fy 2,ci 3 1,bt 4 [nI_ 0,nI_ 0,nI_ 0,nI_ 0,nI_ 0,.nilS] 6,bf_ 5] (aq [fj 6 2,a8 7 6,b8 8 7,dz 9 8 0] 9 (d4 [fj 10 2,h_ (bm 10 (k_ .nilS)) st] [er 11 2,ay 4 11 6,bt_ 5])) (ew [fj 12 2,a8 13 12,b8 14 13,dv 15 14 1,v_ 16 15,bj 17 16 2 f5_,bj 18 16 17 ld,ae 19 16 (cn 18 0) a4_,bj 20 16 19 (ap 4),ae 21 16 [d7 129,b9 0] .call,ae 22 16 (ct 20 21) (.eqs true [1,1,1,1]),fm 23 16 22,v_ 24 23,bj 25 24 2 f4_,bj 26 24 25 ld] [ae 27 24 (ft 199 26) .call,bj 28 24 27 nt,fm 29 24 28] (aj 29 (a7 [o0 30 (.build [nI_ 0,nI_ 0,nI_ 0,nI_ 0,nI_ 0,.nilS] [(0,1),(1,1),(2,1),(3,1),(4,1),(5,1)] []),ay 4 30 6,bf_ 5]))) (ac 0 (sr_ [er 32 3,k1 33 187 32,v_ 34 33,g1 35 34 3 f4_,ep 36 34 35,e9 37 34 (ft 199 36),df 38 34 37,v_ 39 38,g1 40 39 2 f4_,ep 41 39 40,g1 42 39 3 f4_,ep 43 39 42,g2 44 39 41 43 bad_,e9 45 39 (ft 199 44),df 46 39 45,v_ 31 46] (i_ 31 (sr_ [ei 47 2,a8 48 47,ei 49 3,a8 50 49,ek 51 48 50,ei 52 2,dx 52 51] (d4 [fj 53 3,a8 54 53,k1 55 147 54,fj 56 2,dx 56 55] [er 57 2,ay 4 57 6,bt_ 5])) (aq [er 59 3,k1 60 187 59,eo 61 60,v_ 62 61,g1 63 62 2 l6,e9 64 62 (ft 187 63),df 65 62 64,v_ 66 65,g1 67 66 3 f0_,ep 68 66 67,e9 69 66 (ft 199 68),df 70 66 69,v_ 71 70,g1 72 71 2 f4_,ep 73 71 72,g1 74 71 3 f0_,ep 75 71 74,g2 76 71 73 75 bad_,e9 77 71 (ft 199 76),df 78 71 77,v_ 58 78] 58 (sr_ [d9 79 3,a8 80 79,ei 81 2,a8 82 81,ek 83 80 82,d9 84 3,dx 84 83] (d4 [fj 85 3,a8 86 85,k1 87 147 86,fj 88 3,dx 88 87] [er 89 3,ay 4 89 6,bt_ 5]))))) (a7 [o0 90 (.build [nI_ 0,nI_ 0,nI_ 0,nI_ 0,nI_ 0,.nilS] [(0,1),(1,1),(2,1),(3,1),(4,1),(5,1)] []),ay 4 90 6,bf_ 5]))
theorem z4o:Bm Tryz.prog 175 2=some ⟨91,2,[(.cell 4 true 6),(.slot 5)],Sd⟩:=by kernel_rfl
def Em:AC:=d4 (cy 4) [bk 5,cf 6,k2 7 200 5 6,am 8 7 0 bge_,v_ 4 8]
theorem Gd:Bm Tryz.prog 176 2=some ⟨9,2,[(.slot 4)],Em⟩:=by kernel_rfl
def HW:AC:=d4 (cy 2) [bk 3,b8 4 3,dv 5 4 64,dw 2]
theorem Lt:Bm Tryz.prog 177 1=some ⟨6,1,[(.slot 2)],HW⟩:=by kernel_rfl
def Lz:AC:=d4 (dt (fy 1) 2) [d9 3 1,a8 4 3,k1 5 199 4,dw 6,g1 7 6 1 f4_,ep 8 6 7,e9 9 6 (ft 199 8),df 10 6 9,ga 11,g1 12 11 1 l6,e9 13 11 (ft 137 12),e9 14 11 [d7 135,s_ 13,b9 1],df 15 11 14,v_ 16 15,g1 17 16 1 f5_,ep 18 16 17,e9 19 16 (ft 206 18),df 20 16 19,v_ 2 20]
theorem Ry:Bm Tryz.prog 186 1=some ⟨21,1,[(.slot 2)],Lz⟩:=by kernel_rfl
def Oq:AC:=d4 (dt (fy 1) 2) [d9 3 1,a8 4 3,dz 5 4 0,dw 6,g1 7 6 1 l6,e9 8 6 (ft 137 7),e9 9 6 [d7 129,b9 0],g2 10 6 8 9 (.eqs false [1,1,1,1]),df 11 6 10,v_ 2 11]
theorem VF:Bm Tryz.prog 187 1=some ⟨12,1,[(.slot 2)],Oq⟩:=by kernel_rfl
def Ot:AC:=a6 [fy 2,ns_ 4,bf_ 5] (bq [cf 12,b8 13 12,dv 14 13 4,v_ 15 14,bj 16 15 2 l6,ae 17 15 (ft 186 16) .call,bj 18 15 17 nt,fm 19 15 18] 19 (dt (ns_ 4) 5)) (sr_ [bt_ 6] (cl (fh (cf 20) (b8 21 20) (o2 22 21 21 (.mkSlice 1 24 .nilS)) 7 22) (dp (dm (cf 23) 24 23 25) 0 26 25 24 26 0 1 [v_ 27 25,bp 28 23 25,a8 29 28,v_ 8 27,v_ 9 29] (dq [v_ 30 7,v_ 31 8,v_ 32 9,k0 33 207,k2 34 172 32 33,bp 35 30 31,dx 35 34] [v_ 36 6,v_ 37 36,cm 38 37 7,cm 39 37 8,g2 40 37 38 39 a1_,ep 41 37 40,g1 42 37 41 ln,eu 43 37 42 0 bgt_,df 44 37 43,v_ 6 44]) 45 25 25 45) (dp [fj 46 2,a8 47 46,b8 48 47,z_ 49] 2 50 49 48 50 2 3 [o2 51 47 49 a4_,cg 52 51 4,bt 11 [nI_ 0,nI_ 0,nI_ 0,nI_ 0] 4,ay 11 52 4] (bq [cg 53 11 4,cf 54,b8 55 54,k2 56 135 53 55,eo 57 56] 57 (dt (ns_ 4) 5)) 58 49 49 58) (.seq (bq (g6 59 6 (eo 60 59)) 60 [ns_ 4,bt_ 5]) (a7 [er 61 2,v_ 62 7,k2 63 208 61 62,az 64 63 0,az 65 63 1,v_ 4 64,v_ 5 65]))))
theorem VG:Bm Tryz.prog 188 2=some ⟨66,2,[(.slot 4),(.slot 5)],Ot⟩:=by kernel_rfl
def Ks:AC:=a6 [fy 2,ns_ 4] (bq [cg 13 2 4,k1 14 155 13,eo 15 14] 15 (d5 4)) (sr_ [cu 16 2,a8 17 16,m_ 18 (fq (b9 1) 17) (.bin .shl),e8 19 18 1,v_ 5 19] (a6 (d5 6) (cq [cf 20,m_ 21 [b9 0,b9 2097151] (de [nI_ 0,nI_ 0] [(0,1),(1,1)] 0 1),fw 22 21 2 1 [nI_ 0,nI_ 0] [0],k2 23 172 20 22,b8 24 23,z_ 25] 0 26 25 24 26 0 (av 1 (cl [fp 27 23 25,cg 28 27 2,bt 8 [nI_ 0,nI_ 0] 2,ay 8 28 2] (.dreg [d9 29 8,a8 30 29,cr 31 2,a8 32 31,da 33 30 32 .shr,cr 34 8,a8 35 34,cr 36 2,a8 37 36,da 38 35 37 .shr,v_ 9 33,v_ 10 38]) (aq [ga 39,v_ 40 9,fu 41 39 40,dw 42,o2 43 41 42 bge_] 43 (sr_ (fh (dw 44) (m_ 45 (fq (b9 0) 44) (de [nI_ 0,nI_ 0] [(0,1),(1,1)] 0 1)) (fw 46 45 2 1 [nI_ 0,nI_ 0] [0]) 6 46) (.exit 0))) (sr_ [v_ 47 9,dw 48,da 49 47 48 .and,ga 50,dw 51,da 52 50 51 .and,o2 53 49 52 ble_] (i_ 53 (.reg [v_ 54 6,v_ 55 9,dw 56,da 57 55 56 .and,ga 58,dw 59,da 60 58 59 .and,o2 61 57 60 (de [nI_ 0,nI_ 0] [(0,1),(1,1)] 0 1),fw 62 61 2 1 [nI_ 0,nI_ 0] [0],o2 63 54 62 (co 2 16 [nI_ 0,nI_ 0]),v_ 6 63]) (.reg [v_ 64 6,ga 65,dw 66,da 67 65 66 .and,m_ 68 (fq (b9 0) 67) (de [nI_ 0,nI_ 0] [(0,1),(1,1)] 0 1),v_ 69 9,dw 70,da 71 69 70 .and,dw 72,o2 73 71 72 (de [nI_ 0,nI_ 0] [(0,1),(1,1)] 0 1),o2 74 68 73 (bh 2 2 [nI_ 0,nI_ 0] [0,1]),o2 75 64 74 (co 2 16 [nI_ 0,nI_ 0]),v_ 6 75])))) (bo 76 25 25 76))) (a6 (ey 77 6 (k1 78 144 77) 6 78) (bq [o1 79 2 f3_,a8 80 79,dz 81 80 0] 81 (fv 82 6 4 82)) (db [aw 11 .nilS 1] (sr_ (g6 83 6 (k1 84 209 83)) (.block 2 (.rng (.slot 84) [85] (.reg [v_ 12 85]) (.block 3 (.dtl [a8 86 11,v_ 87 12,o1 88 2 f3_,a8 89 88,da 90 87 89 .shl,v_ 91 12,o1 92 2 f3_,a8 93 92,da 94 91 93 .shl,o2 95 90 94 (de [nI_ 0,nI_ 0] [(0,1),(1,1)] 0 1),fw 96 95 2 1 [nI_ 0,nI_ 0] [0]] [o2 97 86 96 (co 2 16 [nI_ 0,nI_ 0]),dx 11 97]))))) (cj (a8 98 11) (k1 99 144 98) 4 99)))))
theorem Ou:Bm Tryz.prog 189 2=some ⟨100,2,[(.slot 4)],Ks⟩:=by kernel_rfl
def F9:AC:=sr_ [bt_ 10] (ba [bt_ 11] 0 (.block 1 (cl (fh (fk 21) (cf 22) (fu 23 21 22) 12 23) (bq (g6 24 12 (am 25 24 12 ble_)) 25 [bk 26,cf 27,fk 28,g8 29,ce 30 [d7 210,s_ 26,s_ 27,s_ 28,s_ 29]]) (bq (g6 31 3 (dz 32 31 0)) 32 [bk 33,cf 34,fk 35,g8 36,ce 37 [d7 211,s_ 33,s_ 34,s_ 35,s_ 36]]) (.seq (aq (g6 38 10 (eo 39 38)) 39 (dq [bk 40,cf 41,fk 42,g8 43,ce 44 [d7 212,s_ 40,s_ 41,s_ 42,s_ 43]] (ey 45 3 (e8 46 45 1) 3 46))) (cl [bk 48,cf 49,fk 50,g8 51,ce 52 [d7 213,s_ 48,s_ 49,s_ 50,s_ 51],v_ 47 52,az 53 47 0,az 54 47 1,v_ 13 53,v_ 14 54] (aq (g6 55 14 (dz 56 55 2)) 56 (sr_ [bk 57,cf 58,fk 59,g8 60,ce 61 [d7 214,s_ 57,s_ 58,s_ 59,s_ 60]] (dq [fk 62,e8 63 62 1,v_ 64 13,cf 65,fu 66 64 65,fu 67 63 66,v_ 13 67] [ef 14 1]))) (aq [ga 68,v_ 69 68,cm 70 69 11,df 71 69 70,v_ 72 71,cm 73 72 14,eu 74 72 73 1 beq_,df 75 72 74] 75 (aq [bk 76,cf 77,fk 78,g8 79,ce 80 [d7 215,s_ 76,s_ 77,s_ 78,s_ 79]] 80 .ret)) (.seq (ew [cf 81,dv 82 81 0,v_ 83 82,cm 84 83 4,cm 85 83 0,cm 86 83 1,eu 87 83 86 1 bsu_,g2 88 83 85 87 a2_,g1 89 83 88 (ap 2),cm 90 83 0,cm 91 83 13,g2 92 83 90 91 a2_,g1 93 83 92 (ap 2)] [e9 94 83 (c8 84 (s_ 89) (s_ 93)),eu 95 83 94 0 bls_,g1 96 83 95 nt,df 97 83 96] (aj 97 (ez [bk 98,cf 99,fk 100,v_ 101 13,g8 102,ce 103 [d7 216,s_ 98,s_ 99,s_ 100,s_ 101,s_ 102],v_ 15 103] (fv 104 15 1 104) (.exit 1)))) (sr_ [bk 106,cf 107,fk 108,v_ 109 13,g8 110,ce 111 [d7 217,s_ 106,s_ 107,s_ 108,s_ 109,s_ 110],v_ 105 111,az 112 105 0,az 113 105 1,v_ 16 112,v_ 17 113] (ez (fv 114 17 11 114) [v_ 115 16,cf 116,fu 117 115 116,fk 118,v_ 119 16,fu 120 118 119,v_ 18 117,v_ 19 120] (ez (ey 121 12 (am 122 121 8 (.bin .quo)) 20 122) [v_ 123 18,v_ 124 19,be 125 123 124] (i_ 125 (sr_ (fh (v_ 126 18) (v_ 127 20) (o2 128 126 127 bge_) 10 128) (dq [bk 129,cf 130,v_ 131 16,v_ 132 3,g8 133,ce 134 [d7 190,s_ 129,s_ 130,s_ 131,s_ 132,s_ 133]] (ey 135 16 (i1_ 136 135) 1 136))) (sr_ (fh (v_ 137 19) (v_ 138 20) (o2 139 137 138 bge_) 10 139) (dq [bk 140,v_ 141 16,i1_ 142 141,fk 143,v_ 144 3,g8 145,ce 146 [d7 190,s_ 140,s_ 142,s_ 143,s_ 144,s_ 145]] (fv 147 16 2 147)))))))))))))
theorem Hn:Bm Tryz.prog 190 5=some ⟨148,5,[],F9⟩:=by kernel_rfl
def Qf:AC:=sr_ (dt (fy 2) 4) (cl [cr 8 2,a8 9 8,cu 10 2,a8 11 10,o1 12 2 f3_,a8 13 12,o3 14 9 11 13 (.build [nI_ 0,nI_ 0,nI_ 0,nI_ 0] [(0,1),(1,1),(2,1),(3,1)] [1,2,3]),bt 5 [nI_ 0,nI_ 0,nI_ 0,nI_ 0] 4,ay 5 14 4] (g0 [cf 15,dv 16 15 4,v_ 17 16,bj 18 17 2 f5_,bj 19 17 18 ld,bj 20 17 19 ln,ae 21 17 (cn 20 4) bgt_,fm 22 17 21,v_ 23 22,bj 24 23 5 (ap 4),ae 25 23 [d7 135,s_ 24,b9 1] .call,bj 26 23 25 nt,fm 27 23 26,v_ 28 27,bj 29 28 2 f0_,bj 30 28 29 ld,bj 31 28 2 f0_,bj 32 28 31 ld,bj 33 28 32 (.un .neg),bj 34 28 2 f4_,bj 35 28 34 ld,bj 36 28 2 f4_,bj 37 28 36 ld,bj 38 28 37 (.un .neg),ae 39 28 [s_ 30,s_ 33,s_ 35,s_ 38] .max,ae 40 28 (cn 39 1114111) bgt_,fm 41 28 40,v_ 42 41,bj 43 42 2 f0_,bj 44 42 43 ld,bj 45 42 2 f4_,bj 46 42 45 ld,ae 47 42 (ct 44 46) .min,ae 48 42 (cn 47 (-1114111)) bls_,fm 49 42 48] 49 4) (cq [fj 50 2,a8 51 50,b8 52 51,z_ 53] 0 54 53 52 54 0 (av 1 (a6 [v_ 55 53,o2 56 51 53 a4_,cg 57 56 4,bt 7 [nI_ 0,nI_ 0,nI_ 0,nI_ 0] 4,v_ 6 55,ay 7 57 4] (.dreg [cg 58 7 4,cf 59,k2 60 135 58 59,eo 61 60,v_ 62 61,g7 63 62 6,ae 64 62 (cn 63 0) bgt_,g7 65 62 64,g1 66 65 7 f3_,ep 67 65 66,g1 68 65 2 f5_,ep 69 65 68,cm 70 65 6,eu 71 65 70 1 bsu_,g2 72 65 69 71 a4_,g1 73 65 72 f3_,ep 74 65 73,g2 75 65 67 74 ble_,ae 76 62 (c8 65 (s_ 75) ck) .pick,fm 77 62 76]) (aj 77 (a7 (cy 4)))) (bo 78 53 53 78))) (a7 [bt_ 4]))
theorem Yp:Bm Tryz.prog 192 2=some ⟨79,2,[(.slot 4)],Qf⟩:=by kernel_rfl
def Nz:AC:=a6 [fy 3,ns_ 6] (bq [cg 16 3 4,k1 17 155 16,eo 18 17] 18 (d5 6)) (sr_ (fh (cg 19 3 4) (fk 20) (k2 21 218 19 20) 7 21) (db (d5 8) (cq [cf 22,m_ 23 [b9 0,b9 2097151] (de [nI_ 0,nI_ 0] [(0,1),(1,1)] 0 1),fw 24 23 2 1 [nI_ 0,nI_ 0] [0],k2 25 172 22 24,b8 26 25,z_ 27] 0 28 27 26 28 0 (av 1 (a6 [fp 29 25 27,cg 30 29 2,bt 10 [nI_ 0,nI_ 0] 2,ay 10 30 2] (.dreg [d9 31 10,a8 32 31,cr 33 3,a8 34 33,da 35 32 34 .shr,cu 36 3,a8 37 36,da 38 35 37 .shr,v_ 11 38]) (aa 2 (.seq (.seq (.dreg [v_ 39 11,cr 40 10,a8 41 40,cr 42 3,a8 43 42,da 44 41 43 .shr,cu 45 3,a8 46 45,da 47 44 46 .shr,o2 48 39 47 ble_]) (ex_ 48 2)) (av 3 (cq (dm (v_ 51 7) 52 51 53) 4 54 53 52 54 4 (av 5 (cl [fp 55 51 53,cg 56 55 2,bt 13 [nI_ 0,nI_ 0] 2,ay 13 56 2] (.dreg [d9 57 10,a8 58 57,v_ 59 11,cu 60 3,a8 61 60,da 62 59 61 .shl,d9 63 13,a8 64 63,da 65 62 64 .or,cr 66 3,a8 67 66,da 68 65 67 .shl,o2 69 58 68 .max,v_ 14 69]) (.dreg [cr 70 10,a8 71 70,v_ 72 11,cu 73 3,a8 74 73,da 75 72 74 .shl,cr 76 13,a8 77 76,da 78 75 77 .or,i1_ 79 78,cr 80 3,a8 81 80,da 82 79 81 .shl,e8 83 82 1,o2 84 71 83 .min,v_ 15 84]) (fo [v_ 85 14,v_ 86 15,o2 87 85 86 ble_] 87 [v_ 88 8,v_ 89 14,v_ 90 15,o2 91 89 90 (de [nI_ 0,nI_ 0] [(0,1),(1,1)] 0 1),fw 92 91 2 1 [nI_ 0,nI_ 0] [0],o2 93 88 92 (co 2 16 [nI_ 0,nI_ 0]),v_ 8 93])) (bo 94 53 53 94))) (ey 49 11 (i1_ 50 49) 11 50))))) (bo 95 27 27 95))) (ey 96 8 (k1 97 144 96) 6 97)))
theorem Se:Bm Tryz.prog 193 3=some ⟨98,3,[(.slot 6)],Nz⟩:=by kernel_rfl
def Fc:AC:=d4 [fy 1,c1 2 .nilF .mv] (bn (o1 3 1 (.mkFunc 219)) 2 3)
theorem GQ:Bm Tryz.prog 194 1=some ⟨4,1,[(.slot 2)],Fc⟩:=by kernel_rfl
def Hp:AC:=db (g9 4) (dp (dm (bk 6) 7 6 8) 0 9 8 7 9 0 1 (fv 10 8 5 10) (bq [cf 11,bk 12,dw 13,bp 14 12 13,a8 15 14,o2 16 11 15 beq_] 16 (bn (dw 17) 4 17)) 18 8 8 18) [ef 4 (-1)]
theorem Kc:Bm Tryz.prog 195 2=some ⟨19,2,[(.slot 4)],Hp⟩:=by kernel_rfl
def Qg:AC:=sr_ (dt (z_ 2) 3) (db (cj (bk 5) (k1 6 144 5) 4 6) (bq (dh (g8 7) 8 7 (dz 9 8 0)) 9 (dt (z_ 2) 3)) [g8 10,g8 11,b8 12 11,e8 13 12 1,fp 14 10 13,cr 15 14,a8 16 15,v_ 2 16,bt_ 3])
theorem Yr:Bm Tryz.prog 196 1=some ⟨17,1,[(.slot 2),(.slot 3)],Qg⟩:=by kernel_rfl
end Go.Proofs.YtflibbceibjddaaGreat
