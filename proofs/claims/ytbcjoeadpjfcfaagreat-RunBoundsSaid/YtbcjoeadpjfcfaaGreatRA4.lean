/-
  Parts of the proof that the law holds whatever the input; without conditions.
-/
import Derived.LoopNIn
import Derived.Test.YtbcjoeadpjfcfaaGreatProg
import Derived.KernelRfl
import Derived.Test.YtbcjoeadpjfcfaaGreatRA3
import Derived.Test.YtbcjoeadpjfcfaaGreatRA2
namespace Go.Proofs.YtbcjoeadpjfcfaaGreat.Abs
section
variable {P:Program} {n b:Nat} {Q:Ex→Env→Ac→Prop}
def Py (P:Program) (n b:Nat) (c:AC) (Q:Ex→Env→Ac→Prop):Nat→Env→Ac→Prop
 | 0,_,_=>False
 | m+1,env,H=>T P n b c env H (Ex.then (Py P n b c Q m) Q)
theorem X8 {c:AC} {d:Code} (hd:C7 P n d=some c) {rd:Option Nat} {mm:Nat} (hrd:c.free=true∨rd=none) {S0:MS}:∀ (m:Nat) (env:Env) (H:Ac) (S:MS) (a:Act),BEvo b S0 S→SRel S H→FRel S n env a→Py P n b c Q m env H →
   Code.roundsIn (fen rd) mm P d (After S0 n b Q) m a S.w
 | 0,_,_,_,_,_,_,_,h=>h.elim
 | m+1,env,H,S,a,e0,hS,hF,h=>by
   rw[Code.roundsIn];refine wpIn_mono (h rd mm hrd d hd S a e0.n hS hF) fun e a' w' hh=>?_;obtain⟨S2,env2,H2,z,rfl,e2,hS2,hF2,rfl,hq⟩:=hh;cases z with
   | normal=>exact X8 hd hrd m env2 H2 S2 a' (e0.trans e2) hS2 hF2 hq
   | exit id=>exact⟨S2,env2,H2,.exit id,rfl,e0.trans e2,hS2,hF2,rfl,hq⟩
   | ret=>exact⟨S2,env2,H2,.ret,rfl,e0.trans e2,hS2,hF2,rfl,hq⟩
theorem z4u {c:AC} {env:Env} {H:Ac} (m:Nat) (h:Py P n b c Q m env H):T P n b (.loop c) env H Q:=T_of fun rd mm hrd code hc hs S a hb hS hF=>by
 cases code<;>simp only[C7,reduceCtorEq,Option.some.injEq] at hc
 case loop d =>
   obtain⟨x,hx,hh⟩:=Option.map_eq_some_iff.1 hc;cases hh;exact wpIn_loop_rounds m (X8 hx hrd m env H S a (.refl hb) hS hF h)
 case region=>exact absurd hc Cf
 case seq=>split at hc<;>cases hc
 case cond=>split at hc<;>cases hc
 case block=>obtain⟨_,_,h⟩:=Option.map_eq_some_iff.1 hc;cases h
 case rangeFunc=>split at hc<;>cases hc
 case scope d=>exact absurd rfl (hs d)
theorem Bb {c:AC} {env:Env} {H:Ac} (m:Nat) (h:W P n b c env H (Ex.then (Py P n b c Q m) Q)):@J6 ⟨T P n b (.loop c) env H Q⟩:=z4u (m+1) (W_T h)
theorem Bo {c:AC} {env:Env} {H:Ac} (m:Nat) (srcs:Env→List Src) (live:List (Nat × AV)) (heap:List Grp) (he:Head b env H (srcs env) live heap) (h:W P n b c (De live) (hl heap) (Ex.then (Py P n b c Q m) Q)):@J6 ⟨T P n b (.loop c) env H Q⟩:=Ta he (z4u (m+1) (W_T h))
theorem Am {c:AC} {env:Env} {H:Ac} {m:Nat} (h:W P n b c env H (Ex.then (Py P n b c Q m) Q)):Py P n b c Q (m+1) env H:=W_T h
end
theorem z4v {S:MS}:∀ {xs ys:List AV} {vs:List Value},Ad S (xs++ys) vs→∃ v1 v2,vs=v1++v2∧Ad S xs v1
 | [],ys,vs,h=>⟨[],vs,rfl,rfl⟩
 | x::xs,ys,vs,h=>by
   obtain⟨v,r,rfl,h1,h2⟩:=h;obtain⟨v1,v2,rfl,h3⟩:=z4v (xs:=xs) (ys:=ys) h2;exact⟨v::v1,v2,rfl,v,v1,rfl,h1,h3⟩
theorem z87 {S:MS} {w v:Nat} {ex:Bool} {xs ys:List AV} (hw:0<w) (hS:SRel S (hl [⟨w,v,ex,xs++ys⟩])):SRel S (hl [⟨w,v,false,xs⟩]):=by
 have h0:GRel S ⟨w,v,ex,xs++ys⟩ 0:=hS.grp 0 (by show 0<1;omega)
 have hg:GRel S ⟨w,v,false,xs⟩ 0:=by
   refine⟨h0.ver,h0.wid,fun _ hc=>?_,fun _=>?_,fun _ h=>(by cases h),fun h=>?_⟩
   · obtain⟨⟨cells,TT,vs,a1,a2,a3,a4⟩,a5⟩:=h0.live hw hc
     obtain⟨v1,v2,rfl,h1⟩:=z4v a3;refine⟨⟨cells,TT,v1,a1,a2,h1,fun i u hu=>a4 i u ?_⟩,a5⟩;obtain⟨hl1,_⟩:=List.getElem?_eq_some_iff.1 hu;rw[List.getElem?_append_left hl1];exact hu
   · have:=h0.len hw
     simp only[List.length_append] at this;show xs.length≤_;omega
   · simp only at h;omega
 refine⟨hS.n,fun g hg'=>?_,fun g g' a c hne=>?_,hS.im⟩
 · have hz:g<1:=hg'
   obtain rfl:g=0:=by omega
   exact hg
 · have a':g<1:=a
   have c':g'<1:=c;omega
theorem X9 {P:Program} {f:Nat} {args:List AV} {H:Ac} {w v:Nat} {ex:Bool} {xs:List AV} {y0:AV} (hw:0<w) (h:Be P f args H fun y H'=>∃ ys,y=y0∧H'=hl [⟨w,v,ex,xs++ys⟩]):Be P f args H fun y H'=>y=y0∧H'=hl [⟨w,v,false,xs⟩] :=
 ⟨h.1,fun S cargs hS hx=>(h.2 S cargs hS hx).mono fun e w' hh=>by
   obtain⟨v,S1,y,H',he,hw',ev,hS1,hv,ys,rfl,rfl⟩:=hh
   exact⟨v,S1,_,_,he,hw',ev,z87 hw hS1,hv,rfl,rfl⟩⟩
theorem zpa {P:Program} {f:Nat} {xs ys:List AV} {l:List Grp} {K:AV→Ac→Prop} (h1:okA 4 ((hl l).only (Bz xs)) xs) (h2:leSL [] (frA 4 ((hl l).only (Bz xs)) xs) ys) (h3:@Vd P f ys (hl (D1 0 (Bz xs) l)) ⟨K⟩):@Vd P f xs (hl l) ⟨K⟩ :=
 S6 4 (Bz xs) (Pu h1) (Hh (Kt h2) h3)
def Cd (i:Nat) (ks:List Nat):List Grp→List Grp→Prop
 | [],_=>True
 | _::_,[]=>False
 | G::l,G'::l'=>(i∈ks∨G=G')∧Cd (i+1) ks l l'
theorem Cd.of {ks:List Nat}:∀ {i:Nat} {l l':List Grp},Cd i ks l l'→l.length≤l'.length∧∀ g,i+g∉ks→g<l.length→l'.getD g default=l.getD g default
 | _,[],_,_=>⟨by simp,fun g _ h=>absurd h (by simp)⟩
 | _,_::_,[],h=>h.elim
 | i,G::l,G'::l',h=>by
   obtain⟨h1,h2⟩:=Cd.of h.2;refine⟨by simpa using h1,fun g hg hl=>?_⟩;cases g with
   | zero =>
     rcases h.1 with h3|h3
     · exact absurd h3 hg
     · simp[h3]
   | succ g =>
     have:=h2 g (by rwa [show i+1+g=i+(g+1) by omega]) (by simpa using hl);simpa using this
def effB (ks:List Nat):AK→List Grp→List Grp→Prop
 | .app ..,l,l'=>Cd 0 ks l l'
 | .mkMap,l,l'=>Cd 0 ks l l'
 | .mapSet,l,l'=>Cd 0 ks l l'
 | _,_,_=>True
theorem zce {ks:List Nat} {k:AK} {l l':List Grp} (h:effB ks k l l') (h2:k.eff=some 2):l.length≤l'.length∧∀ g,g∉ks→g<l.length→l'.getD g default=l.getD g default:=by
 have key:Cd 0 ks l l':=by cases k<;>first|exact h|(simp[AK.eff] at h2)
 obtain⟨a,c⟩:=key.of;exact⟨a,fun g hg=>c g (by simpa using hg)⟩
def xk (P:Program) (ks:List Nat):List Bool→List AOp→Env→List Grp→(Env→List Grp→Prop)→Prop
 | _,[],env,l,K=>K env l
 | fl,⟨dst,args,none,k⟩::r,env,l,K=>(fl.headD false=true→Bi (·∉ks) (args.map (·.eval env)))∧@opG P k l (args.map (·.eval env)) ⟨fun x l'=>effB ks k l l'∧xk P ks fl.tail r (env.put dst x) l' K⟩
 | fl,⟨dst,args,some (d,want),k⟩::r,env,l,K=>@En (env d) want
     ⟨(fl.headD false=true→Bi (·∉ks) (args.map (·.eval (env.put (some d) (.bool want)))))∧@opG P k l (args.map (·.eval (env.put (some d) (.bool want)))) ⟨fun x l'=>effB ks k l l'∧xk P ks fl.tail r ((env.put (some d) (.bool want)).put dst x) l' K⟩⟩
     ⟨xk P ks fl.tail r ((env.put (some d) (.bool (!want))).put dst (.tup [])) l K⟩ ⟨xk P ks fl.tail r (env.put dst (.tup [])) l K⟩
theorem Pz (P:Program) (ks:List Nat):∀ (L:List AOp) (fl:List Bool) (env:Env) (l:List Grp) {K:Env→List Grp→Prop},xk P ks fl L env l K→runX P ks fl L env l K
 | [],_,_,_,_,h=>h
 | ⟨dst,args,none,k⟩::r,fl,env,l,K,h=>by
   obtain⟨h0,h'⟩:=h;have:=Mt h';simp only[runX,Gq,AOp.vals,if_true];split at this
   · rename_i he
     rw[if_pos he];obtain⟨x,h1,h2⟩:=this;exact⟨h0,x,h1,Pz P ks r _ _ _ h2.2⟩
   · rename_i he
     rw[if_neg he];obtain⟨x,l',b1,b2,b3⟩:=this;exact⟨x,l',b1,b2,zce b3.1,h0,Pz P ks r _ _ _ b3.2⟩
 | ⟨dst,args,some (d,want),k⟩::r,fl,env,l,K,h=>by
   have h':Gp (env d) want ((fl.headD false=true→Bi (·∉ks) (args.map (·.eval (env.put (some d) (.bool want)))))∧@opG P k l (args.map (·.eval (env.put (some d) (.bool want)))) ⟨fun x l'=>effB ks k l l'∧xk P ks fl.tail r ((env.put (some d) (.bool want)).put dst x) l' K⟩)
     (xk P ks fl.tail r ((env.put (some d) (.bool (!want))).put dst (.tup [])) l K) (xk P ks fl.tail r (env.put dst (.tup [])) l K):=h
   simp only[runX,Gq,AOp.vals,if_true,Bool.false_eq_true,if_false];refine Kr (fun h1=>?_) (fun h1=>Pz P ks r _ _ _ h1) (fun h1=>Pz P ks r _ _ _ h1) h';obtain⟨h0,h1⟩:=h1;have:=Mt h1;split at this
   · rename_i he
     obtain⟨x,h1,h2⟩:=this;rw[if_pos he];exact⟨h0,x,h1,Pz P ks r _ _ _ h2.2⟩
   · rename_i he
     rw[if_neg he];obtain⟨x,l',b1,b2,b3⟩:=this;exact⟨x,l',b1,b2,zce b3.1,h0,Pz P ks r _ _ _ b3.2⟩
section
variable {P:Program} {n b:Nat} {Q:Ex→Env→Ac→Prop} {ks:List Nat} {env:Env} {l:List Grp} {K:Env→List Grp→Prop} {fl:List Bool} {r:List AOp} {dst:Option Nat} {args:List AArg} {k:AK}
theorem Cm {L:List AOp} (ks:List Nat) (h:xk P ks fl L env l fun env' l'=>Q .normal env' (hl l')):@J6 ⟨T P n b (.grx fl L) env (hl l) Q⟩:=T_grx ks (Pz P ks L fl env l h)
theorem G5 {x:AV} {w:Bool} {p p2 q s:HP} (h:p.p=p2.p):@En x w p q s=@En x w p2 q s:=by cases p;cases p2;cases h;rfl
theorem xk1:xk P ks fl [] env l K=K env l:=by cases fl<;>rfl
theorem xk2:xk P ks (false::fl) (⟨dst,args,none,k⟩::r) env l K=@opG P k l (args.map (·.eval env)) ⟨fun x l'=>effB ks k l l'∧xk P ks fl r (env.put dst x) l' K⟩:=propext ⟨fun h=>h.2,fun h=>⟨fun h0=>(by cases h0),h⟩⟩
theorem xk3:xk P ks (true::fl) (⟨dst,args,none,k⟩::r) env l K=(Bi (·∉ks) (args.map (·.eval env))∧@opG P k l (args.map (·.eval env)) ⟨fun x l'=>effB ks k l l'∧xk P ks fl r (env.put dst x) l' K⟩):=propext ⟨fun h=>⟨h.1 rfl,h.2⟩,fun h=>⟨fun _=>h.1,h.2⟩⟩
theorem xk4 {d:Nat} {want:Bool}:xk P ks (false::fl) (⟨dst,args,some (d,want),k⟩::r) env l K=@En (env d) want
     ⟨@opG P k l (args.map (·.eval (env.put (some d) (.bool want)))) ⟨fun x l'=>effB ks k l l'∧xk P ks fl r ((env.put (some d) (.bool want)).put dst x) l' K⟩⟩
     ⟨xk P ks fl r ((env.put (some d) (.bool (!want))).put dst (.tup [])) l K⟩ ⟨xk P ks fl r (env.put dst (.tup [])) l K⟩:=G5 (propext ⟨fun h=>h.2,fun h=>⟨fun h0=>(by cases h0),h⟩⟩)
theorem xk5 {d:Nat} {want:Bool}:xk P ks (true::fl) (⟨dst,args,some (d,want),k⟩::r) env l K=@En (env d) want
     ⟨Bi (·∉ks) (args.map (·.eval (env.put (some d) (.bool want))))∧@opG P k l (args.map (·.eval (env.put (some d) (.bool want)))) ⟨fun x l'=>effB ks k l l'∧xk P ks fl r ((env.put (some d) (.bool want)).put dst x) l' K⟩⟩
     ⟨xk P ks fl r ((env.put (some d) (.bool (!want))).put dst (.tup [])) l K⟩ ⟨xk P ks fl r (env.put dst (.tup [])) l K⟩:=G5 (propext ⟨fun h=>⟨h.1 rfl,h.2⟩,fun h=>⟨fun _=>h.1,h.2⟩⟩)
variable {l2:List Grp}
theorem xk6 {w s:Nat} {z:AV}:effB ks (.app w s z) l l2=Cd 0 ks l l2:=rfl
theorem xk7:effB ks .mapSet l l2=Cd 0 ks l l2:=rfl
theorem xk8:effB ks .mkMap l l2=Cd 0 ks l l2:=rfl
theorem zto  : effB ks (.mv ) l l2=True:=rfl
theorem zcf  : effB ks (.pick ) l l2=True:=rfl
theorem z4w {a0:AV} {a1:Nat}:effB ks (.alloc a0 a1) l l2=True:=rfl
theorem zl0  : effB ks (.box ) l l2=True:=rfl
theorem z4x {a0:List AV} {a1:List (Nat × Nat)} {a2:List Nat}:effB ks (.build a0 a1 a2) l l2=True:=rfl
theorem Ya {a0:Nat} {a1:Nat} {a2:AV} {a3:List Nat}:effB ks (.bslice a0 a1 a2 a3) l l2=True:=rfl
theorem zcg {a0:Bool} {a1:Nat}:effB ks (.load a0 a1) l l2=True:=rfl
theorem z4y {a0:Nat}:effB ks (.store a0) l l2=True:=rfl
theorem P0  : effB ks (.nilCheck ) l l2=True:=rfl
theorem zl1 {a0:BinOp}:effB ks (.bin a0) l l2=True:=rfl
theorem zl2 {a0:Bool}:effB ks (.eqb a0) l l2=True:=rfl
theorem zl3 {a0:Bool} {a1:List Nat}:effB ks (.eqs a0 a1) l l2=True:=rfl
theorem zl4 {a0:Bool}:effB ks (.eqn a0) l l2=True:=rfl
theorem ztp {a0:UnOp}:effB ks (.un a0) l l2=True:=rfl
theorem zch {a0:IntKind}:effB ks (.conv a0) l l2=True:=rfl
theorem z4z  : effB ks (.toStr ) l l2=True:=rfl
theorem Yb  : effB ks (.runStr ) l l2=True:=rfl
theorem z51 {a0:Nat} {a1:Bool} {a2:Bool} {a3:Bool}:effB ks (.slice a0 a1 a2 a3) l l2=True:=rfl
theorem z52 {a0:Bool} {a1:Nat} {a2:Nat}:effB ks (.faddr a0 a1 a2) l l2=True:=rfl
theorem z54 {a0:Bool} {a1:Nat} {a2:Nat}:effB ks (.field a0 a1 a2) l l2=True:=rfl
theorem z56 {a0:Nat}:effB ks (.iaddr a0) l l2=True:=rfl
theorem Yc {a0:Nat} {a1:Nat} {a2:Bool}:effB ks (.iaddrA a0 a1 a2) l l2=True:=rfl
theorem z57 {a0:Nat} {a1:Nat} {a2:Bool}:effB ks (.index a0 a1 a2) l l2=True:=rfl
theorem P5  : effB ks (.indexStr ) l l2=True:=rfl
theorem Tk {a0:Nat}:effB ks (.extract a0) l l2=True:=rfl
theorem zl5 {a0:Bool}:effB ks (.len a0) l l2=True:=rfl
theorem zl6  : effB ks (.max ) l l2=True:=rfl
theorem zl7  : effB ks (.min ) l l2=True:=rfl
theorem Tl {a0:Nat} {a1:Nat} {a2:AV}:effB ks (.mkSlice a0 a1 a2) l l2=True:=rfl
theorem Yd {a0:Nat}:effB ks (.mkFunc a0) l l2=True:=rfl
theorem Ye {a0:AV}:effB ks (.mapGet a0) l l2=True:=rfl
theorem zci  : effB ks (.call ) l l2=True:=rfl
theorem sb1 {i:Nat}:Cd i ks [] l=True:=rfl
theorem sb2 {i:Nat} {G G2:Grp}:Cd i ks (G::l) (G2::l2)=((i∈ks∨G=G2)∧Cd (i+1) ks l l2):=rfl
end
theorem xx:type_of% (And.intro @xk1 <| And.intro @xk2 <| And.intro @xk3 <| And.intro @xk4 <| And.intro @xk5 <| And.intro @xk6 <| And.intro @xk7 <| And.intro @xk8 <| And.intro @zto <| And.intro @zcf <| And.intro @z4w <| And.intro @zl0 <| And.intro @z4x <| And.intro @Ya <| And.intro @zcg <| And.intro @z4y <| And.intro @P0 <| And.intro @zl1 <| And.intro @zl2 <| And.intro @zl3 <| And.intro @zl4 <| And.intro @ztp <| And.intro @zch <| And.intro @z4z <| And.intro @Yb <| And.intro @z51 <| And.intro @z52 <| And.intro @z54 <| And.intro @z56 <| And.intro @Yc <| And.intro @z57 <| And.intro @P5 <| And.intro @Tk <| And.intro @zl5 <| And.intro @zl6 <| And.intro @zl7 <| And.intro @Tl <| And.intro @Yd <| And.intro @Ye <| And.intro @zci <| And.intro @sb1 <| @sb2):=And.intro @xk1 <| And.intro @xk2 <| And.intro @xk3 <| And.intro @xk4 <| And.intro @xk5 <| And.intro @xk6 <| And.intro @xk7 <| And.intro @xk8 <| And.intro @zto <| And.intro @zcf <| And.intro @z4w <| And.intro @zl0 <| And.intro @z4x <| And.intro @Ya <| And.intro @zcg <| And.intro @z4y <| And.intro @P0 <| And.intro @zl1 <| And.intro @zl2 <| And.intro @zl3 <| And.intro @zl4 <| And.intro @ztp <| And.intro @zch <| And.intro @z4z <| And.intro @Yb <| And.intro @z51 <| And.intro @z52 <| And.intro @z54 <| And.intro @z56 <| And.intro @Yc <| And.intro @z57 <| And.intro @P5 <| And.intro @Tk <| And.intro @zl5 <| And.intro @zl6 <| And.intro @zl7 <| And.intro @Tl <| And.intro @Yd <| And.intro @Ye <| And.intro @zci <| And.intro @sb1 <| @sb2
theorem zi3 {P:Program} {l:List Grp} {xs:List AV} {K:AV→List Grp→Prop}:@opG P .mapSet l xs ⟨K⟩=@opK P .mapSet (hl l) xs ⟨fun x H'=>∀ l',H'=hl l'→K x l'⟩:=(z84 rfl rfl).trans (by simp only[AK.appOk,Uy,true_and])
attribute [push_cast] zhp zi3
def effY (ks:List Nat):AK→List Grp→List Grp→Prop
 | .app ..,l,l'=>Cd 0 ks l l'
 | .mkMap,l,l'=>Cd 0 ks l l'
 | .mapSet,l,l'=>Cd 0 ks l l'
 | .store _,l,l'=>Cd 0 ks l l'∧l'.length=l.length
 | _,_,_=>True
theorem Vl {ks:List Nat} {k:AK} {l l':List Grp} (h:effY ks k l l'):((k.eff=some 1∨k.eff=some 2)→l.length≤l'.length∧∀ g,g∉ks→g<l.length→l'.getD g default=l.getD g default)∧(k.eff=some 1→l'.length=l.length):=by
 have key:(k.eff=some 1∨k.eff=some 2)→Cd 0 ks l l':=fun h2=>by cases k<;>first|exact h|exact h.1|(simp[AK.eff] at h2)
 refine⟨fun h2=>?_,fun h2=>by cases k<;>first|exact h.2|(simp[AK.eff] at h2)⟩;obtain⟨a,c⟩:=(key h2).of;exact⟨a,fun g hg=>c g (by simpa using hg)⟩
class KM where
 f:Int→Int→Prop
def twoI (x y:AV) [K:KM]:Prop:=match x,y with
 | .int _ a,.int _ b=>K.f a b
 | _,_=>False
structure KL where
 f:Grp→AV→Prop
def zpb (k:AK) (xs:List AV) (g:Nat) (K:KL):Prop:=match k,xs with
 | .alloc z w,[]=>K.f ⟨w,2,true,[z]⟩ (.ptr g 2 0 0)
 | .box,[y]=>Et y.cells=true∧0<y.cells.length∧K.f ⟨y.cells.length,2,true,[y]⟩ (.ptr g 2 0 0)
 | .mkSlice w bytes z,[a,b]=>@twoI a b ⟨fun l c=>0≤l∧l≤c∧c * bytes≤140737488355328∧K.f ⟨w,2,true,List.replicate c.toNat z⟩ (.ref g 2 0 l.toNat)⟩
 | _,_=>False
theorem zi4 {k:AK} {xs:List AV} {g:Nat} {K:KL} (h:zpb k xs g K):∃ G x,z0j k xs g G x∧K.f G x:=by
 unfold zpb at h;split at h
 · exact⟨_,_,⟨rfl,rfl⟩,h⟩
 · exact⟨_,_,⟨h.1,h.2.1,rfl,rfl⟩,h.2.2⟩
 · rename_i a b
   cases a<;>cases b<;>try exact h.elim
   obtain⟨h1,h2,h3,h4⟩:=h;exact⟨_,_,⟨h1,h2,h3,rfl,rfl⟩,h4⟩
 · exact h.elim
def gsOk:List (Option Nat)→List AOp→Bool
 | _,[]=>true
 | gs,o::r=>(match gs.headD none with|some _=>o.guard.isNone&&o.k.laid|none=>!o.k.laid)&&gsOk gs.tail r
def xy (P:Program) (ks:List Nat):List (Option Nat)→List Bool→List AOp→Env→List Grp→(Env→List Grp→Prop)→Prop
 | _,_,[],env,l,K=>K env l
 | gs,fl,⟨dst,args,none,k⟩::r,env,l,K=>match gs.headD none with
   | some g=>zpb k (args.map (·.eval env)) g ⟨fun G x=>g<l.length∧(hl l).at_ g=⟨G.w,1,true,[]⟩∧g∈ks∧∀ l',(hl l).set g G=hl l'→xy P ks gs.tail fl.tail r (env.put dst x) l' K⟩
   | none=>(fl.headD false=true→Bi (·∉ks) (args.map (·.eval env)))∧@opG P k l (args.map (·.eval env)) ⟨fun x l'=>effY ks k l l'∧xy P ks gs.tail fl.tail r (env.put dst x) l' K⟩
 | gs,fl,⟨dst,args,some (d,want),k⟩::r,env,l,K=>@En (env d) want
     ⟨(fl.headD false=true→Bi (·∉ks) (args.map (·.eval (env.put (some d) (.bool want)))))∧@opG P k l (args.map (·.eval (env.put (some d) (.bool want)))) ⟨fun x l'=>effY ks k l l'∧xy P ks gs.tail fl.tail r ((env.put (some d) (.bool want)).put dst x) l' K⟩⟩
     ⟨xy P ks gs.tail fl.tail r ((env.put (some d) (.bool (!want))).put dst (.tup [])) l K⟩ ⟨xy P ks gs.tail fl.tail r (env.put dst (.tup [])) l K⟩
theorem Nm (P:Program) (ks:List Nat):∀ (L:List AOp) (gs:List (Option Nat)) (fl:List Bool) (env:Env) (l:List Grp) {K:Env→List Grp→Prop},gsOk gs L=true→xy P ks gs fl L env l K→runY P ks fl L env l K
 | [],_,_,_,_,_,_,h=>by simpa only[xy,runY] using h
 | ⟨dst,args,none,k⟩::r,gs,fl,env,l,K,hg,h=>by
   simp only[gsOk,Bool.and_eq_true] at hg;simp only[xy] at h;simp only[runY,Gq,AOp.vals,if_true];cases hh:gs.headD none with
   | some g =>
     rw[hh] at h hg;have hla:k.laid=true:=by simpa using hg.1
     obtain⟨G,x,hG,h1,h2,h3,h4⟩:=zi4 h;rw[if_pos hla];exact⟨_,_,⟨g,G,hG,h1,h2,h3,rfl⟩,Nm P ks r _ _ _ _ hg.2 (h4 _ (G3 _ _ _ h1))⟩
   | none =>
     rw[hh] at h hg;have hl:k.laid=false:=by simpa using hg.1
     rw[if_neg (by rw[hl];simp)];obtain⟨h0,h'⟩:=h;have:=Mt h';split at this
     · rename_i he
       rw[if_pos he];obtain⟨x,h1,h2⟩:=this;exact⟨h0,x,h1,Nm P ks r _ _ _ _ hg.2 h2.2⟩
     · rename_i he
       rw[if_neg he];obtain⟨x,l',b1,b2,b3⟩:=this;exact⟨x,l',b1,b2,(Vl b3.1).1,(Vl b3.1).2,h0,Nm P ks r _ _ _ _ hg.2 b3.2⟩
 | ⟨dst,args,some (d,want),k⟩::r,gs,fl,env,l,K,hg,h=>by
   simp only[gsOk,Bool.and_eq_true] at hg
   have hl:k.laid=false:=by
     cases hh:gs.headD none with
     | some g=>rw[hh] at hg;simp at hg
     | none=>rw[hh] at hg;simpa using hg.1
   have h':Gp (env d) want ((fl.headD false=true→Bi (·∉ks) (args.map (·.eval (env.put (some d) (.bool want)))))∧@opG P k l (args.map (·.eval (env.put (some d) (.bool want)))) ⟨fun x l'=>effY ks k l l'∧xy P ks gs.tail fl.tail r ((env.put (some d) (.bool want)).put dst x) l' K⟩)
     (xy P ks gs.tail fl.tail r ((env.put (some d) (.bool (!want))).put dst (.tup [])) l K) (xy P ks gs.tail fl.tail r (env.put dst (.tup [])) l K):=h
   simp only[runY,Gq,AOp.vals,if_true,Bool.false_eq_true,if_false];refine Kr (fun h1=>?_) (fun h1=>Nm P ks r _ _ _ _ hg.2 h1) (fun h1=>Nm P ks r _ _ _ _ hg.2 h1) h';rw[if_neg (by rw[hl];simp)];obtain⟨h0,h1⟩:=h1;have:=Mt h1;split at this
   · rename_i he
     obtain⟨x,h1,h2⟩:=this;rw[if_pos he];exact⟨h0,x,h1,Nm P ks r _ _ _ _ hg.2 h2.2⟩
   · rename_i he
     rw[if_neg he];obtain⟨x,l',b1,b2,b3⟩:=this;exact⟨x,l',b1,b2,(Vl b3.1).1,(Vl b3.1).2,h0,Nm P ks r _ _ _ _ hg.2 b3.2⟩
section
variable {P:Program} {n b:Nat} {Q:Ex→Env→Ac→Prop} {ks:List Nat} {gs:List (Option Nat)} {g:Nat} {env:Env} {l:List Grp} {K:Env→List Grp→Prop} {f:Bool} {fl:List Bool} {r:List AOp} {dst:Option Nat} {args:List AArg} {k:AK}
theorem zpc {L:List AOp} (ks:List Nat) (ws:List Nat) (gs:List (Option Nat)) (hw:∀ w∈ws,0<w) (hg:gsOk gs L=true) (h:xy P ks gs fl L env (l++ws.map Iu) fun env' l'=>Q .normal env' (hl l')):@J6 ⟨T P n b (.gry fl L) env (hl l) Q⟩:=z0t ws hw (zr1 ks (Nm P ks L gs fl env _ hg h))
theorem xy1:xy P ks gs fl [] env l K=K env l:=by simp only[xy]
theorem xy2:xy P ks (none::gs) (false::fl) (⟨dst,args,none,k⟩::r) env l K=@opG P k l (args.map (·.eval env)) ⟨fun x l'=>effY ks k l l'∧xy P ks gs fl r (env.put dst x) l' K⟩:=by simp only[xy];exact propext ⟨fun h=>h.2,fun h=>⟨fun h0=>(by cases h0),h⟩⟩
theorem xy3:xy P ks (none::gs) (true::fl) (⟨dst,args,none,k⟩::r) env l K=(Bi (·∉ks) (args.map (·.eval env))∧@opG P k l (args.map (·.eval env)) ⟨fun x l'=>effY ks k l l'∧xy P ks gs fl r (env.put dst x) l' K⟩):=by simp only[xy];exact propext ⟨fun h=>⟨h.1 rfl,h.2⟩,fun h=>⟨fun _=>h.1,h.2⟩⟩
theorem xy4 {d:Nat} {want:Bool}:xy P ks (none::gs) (false::fl) (⟨dst,args,some (d,want),k⟩::r) env l K=@En (env d) want
     ⟨@opG P k l (args.map (·.eval (env.put (some d) (.bool want)))) ⟨fun x l'=>effY ks k l l'∧xy P ks gs fl r ((env.put (some d) (.bool want)).put dst x) l' K⟩⟩
     ⟨xy P ks gs fl r ((env.put (some d) (.bool (!want))).put dst (.tup [])) l K⟩ ⟨xy P ks gs fl r (env.put dst (.tup [])) l K⟩:=by simp only[xy];exact G5 (propext ⟨fun h=>h.2,fun h=>⟨fun h0=>(by cases h0),h⟩⟩)
theorem xy5 {d:Nat} {want:Bool}:xy P ks (none::gs) (true::fl) (⟨dst,args,some (d,want),k⟩::r) env l K=@En (env d) want
     ⟨Bi (·∉ks) (args.map (·.eval (env.put (some d) (.bool want))))∧@opG P k l (args.map (·.eval (env.put (some d) (.bool want)))) ⟨fun x l'=>effY ks k l l'∧xy P ks gs fl r ((env.put (some d) (.bool want)).put dst x) l' K⟩⟩
     ⟨xy P ks gs fl r ((env.put (some d) (.bool (!want))).put dst (.tup [])) l K⟩ ⟨xy P ks gs fl r (env.put dst (.tup [])) l K⟩:=by simp only[xy];exact G5 (propext ⟨fun h=>⟨h.1 rfl,h.2⟩,fun h=>⟨fun _=>h.1,h.2⟩⟩)
theorem xy6 {z:AV} {w:Nat}:xy P ks (some g::gs) (f::fl) (⟨dst,[],none,.alloc z w⟩::r) env l K=(g<l.length∧(hl l).at_ g=⟨w,1,true,[]⟩∧g∈ks∧∀ l',(hl l).set g ⟨w,2,true,[z]⟩=hl l'→xy P ks gs fl r (env.put dst (.ptr g 2 0 0)) l' K):=by simp only[xy];rfl
theorem xy6b {a:AArg}:xy P ks (some g::gs) (f::fl) (⟨dst,[a],none,.box⟩::r) env l K=(Et (a.eval env).cells=true∧0<(a.eval env).cells.length∧g<l.length∧(hl l).at_ g=⟨(a.eval env).cells.length,1,true,[]⟩∧g∈ks∧∀ l',(hl l).set g ⟨(a.eval env).cells.length,2,true,[a.eval env]⟩=hl l'→xy P ks gs fl r (env.put dst (.ptr g 2 0 0)) l' K):=by simp only[xy];rfl
theorem xy6m {a a':AArg} {w m:Nat} {z:AV}:xy P ks (some g::gs) (f::fl) (⟨dst,[a,a'],none,.mkSlice w m z⟩::r) env l K=@twoI (a.eval env) (a'.eval env) ⟨fun i c=>0≤i∧i≤c∧c * m≤140737488355328∧g<l.length∧(hl l).at_ g=⟨w,1,true,[]⟩∧g∈ks∧∀ l',(hl l).set g ⟨w,2,true,List.replicate c.toNat z⟩=hl l'→xy P ks gs fl r (env.put dst (.ref g 2 0 i.toNat)) l' K⟩:=by simp only[xy];rfl
theorem z58 {k k':IntKind} {a c:Int} {K:Int→Int→Prop}:@twoI (.int k a) (.int k' c) ⟨K⟩=K a c:=rfl
theorem xy7:xy P ks [] fl (⟨dst,args,none,k⟩::r) env l K=xy P ks [none] fl (⟨dst,args,none,k⟩::r) env l K:=by simp only[xy];rfl
theorem xy8 {d:Nat} {want:Bool}:xy P ks [] fl (⟨dst,args,some (d,want),k⟩::r) env l K=xy P ks [none] fl (⟨dst,args,some (d,want),k⟩::r) env l K:=by simp only[xy];rfl
variable {l2:List Grp}
theorem zl8 {w s:Nat} {z:AV}:effY ks (.app w s z) l l2=Cd 0 ks l l2:=rfl
theorem Yf:effY ks .mapSet l l2=Cd 0 ks l l2:=rfl
theorem z59:effY ks .mkMap l l2=Cd 0 ks l l2:=rfl
theorem z5a {s:Nat}:effY ks (.store s) l l2=(Cd 0 ks l l2∧l2.length=l.length):=rfl
theorem ztq  : effY ks (.mv ) l l2=True:=rfl
theorem zcj  : effY ks (.pick ) l l2=True:=rfl
theorem z5b {a0:AV} {a1:Nat}:effY ks (.alloc a0 a1) l l2=True:=rfl
theorem zl9  : effY ks (.box ) l l2=True:=rfl
theorem z5c {a0:List AV} {a1:List (Nat × Nat)} {a2:List Nat}:effY ks (.build a0 a1 a2) l l2=True:=rfl
theorem Yg {a0:Nat} {a1:Nat} {a2:AV} {a3:List Nat}:effY ks (.bslice a0 a1 a2 a3) l l2=True:=rfl
theorem zck {a0:Bool} {a1:Nat}:effY ks (.load a0 a1) l l2=True:=rfl
theorem P6  : effY ks (.nilCheck ) l l2=True:=rfl
theorem zla {a0:BinOp}:effY ks (.bin a0) l l2=True:=rfl
theorem zlb {a0:Bool}:effY ks (.eqb a0) l l2=True:=rfl
theorem zlc {a0:Bool} {a1:List Nat}:effY ks (.eqs a0 a1) l l2=True:=rfl
theorem zld {a0:Bool}:effY ks (.eqn a0) l l2=True:=rfl
theorem ztr {a0:UnOp}:effY ks (.un a0) l l2=True:=rfl
theorem zcl {a0:IntKind}:effY ks (.conv a0) l l2=True:=rfl
theorem z5d  : effY ks (.toStr ) l l2=True:=rfl
theorem Yh  : effY ks (.runStr ) l l2=True:=rfl
theorem z5e {a0:Nat} {a1:Bool} {a2:Bool} {a3:Bool}:effY ks (.slice a0 a1 a2 a3) l l2=True:=rfl
theorem z5f {a0:Bool} {a1:Nat} {a2:Nat}:effY ks (.faddr a0 a1 a2) l l2=True:=rfl
theorem z5g {a0:Bool} {a1:Nat} {a2:Nat}:effY ks (.field a0 a1 a2) l l2=True:=rfl
theorem z5h {a0:Nat}:effY ks (.iaddr a0) l l2=True:=rfl
theorem Yi {a0:Nat} {a1:Nat} {a2:Bool}:effY ks (.iaddrA a0 a1 a2) l l2=True:=rfl
theorem z5i {a0:Nat} {a1:Nat} {a2:Bool}:effY ks (.index a0 a1 a2) l l2=True:=rfl
theorem P7  : effY ks (.indexStr ) l l2=True:=rfl
theorem Tm {a0:Nat}:effY ks (.extract a0) l l2=True:=rfl
theorem zle {a0:Bool}:effY ks (.len a0) l l2=True:=rfl
theorem zlf  : effY ks (.max ) l l2=True:=rfl
theorem zlg  : effY ks (.min ) l l2=True:=rfl
theorem Tn {a0:Nat} {a1:Nat} {a2:AV}:effY ks (.mkSlice a0 a1 a2) l l2=True:=rfl
theorem Yj {a0:Nat}:effY ks (.mkFunc a0) l l2=True:=rfl
theorem Yk {a0:AV}:effY ks (.mapGet a0) l l2=True:=rfl
theorem zcm  : effY ks (.call ) l l2=True:=rfl
end
theorem yy:type_of% (And.intro @xy1 <| And.intro @xy2 <| And.intro @xy3 <| And.intro @xy4 <| And.intro @xy5 <| And.intro @xy6 <| And.intro @xy6b <| And.intro @xy6m <| And.intro @z58 <| And.intro @xy7 <| And.intro @xy8 <| And.intro @zl8 <| And.intro @Yf <| And.intro @z59 <| And.intro @z5a <| And.intro @ztq <| And.intro @zcj <| And.intro @z5b <| And.intro @zl9 <| And.intro @z5c <| And.intro @Yg <| And.intro @zck <| And.intro @P6 <| And.intro @zla <| And.intro @zlb <| And.intro @zlc <| And.intro @zld <| And.intro @ztr <| And.intro @zcl <| And.intro @z5d <| And.intro @Yh <| And.intro @z5e <| And.intro @z5f <| And.intro @z5g <| And.intro @z5h <| And.intro @Yi <| And.intro @z5i <| And.intro @P7 <| And.intro @Tm <| And.intro @zle <| And.intro @zlf <| And.intro @zlg <| And.intro @Tn <| And.intro @Yj <| And.intro @Yk <| And.intro @zcm <| And.intro @sb1 <| @sb2):=And.intro @xy1 <| And.intro @xy2 <| And.intro @xy3 <| And.intro @xy4 <| And.intro @xy5 <| And.intro @xy6 <| And.intro @xy6b <| And.intro @xy6m <| And.intro @z58 <| And.intro @xy7 <| And.intro @xy8 <| And.intro @zl8 <| And.intro @Yf <| And.intro @z59 <| And.intro @z5a <| And.intro @ztq <| And.intro @zcj <| And.intro @z5b <| And.intro @zl9 <| And.intro @z5c <| And.intro @Yg <| And.intro @zck <| And.intro @P6 <| And.intro @zla <| And.intro @zlb <| And.intro @zlc <| And.intro @zld <| And.intro @ztr <| And.intro @zcl <| And.intro @z5d <| And.intro @Yh <| And.intro @z5e <| And.intro @z5f <| And.intro @z5g <| And.intro @z5h <| And.intro @Yi <| And.intro @z5i <| And.intro @P7 <| And.intro @Tm <| And.intro @zle <| And.intro @zlf <| And.intro @zlg <| And.intro @Tn <| And.intro @Yj <| And.intro @Yk <| And.intro @zcm <| And.intro @sb1 <| @sb2
end Go.Proofs.YtbcjoeadpjfcfaaGreat.Abs
set_option linter.unusedSimpArgs false
set_option linter.unusedVariables false
namespace Go.Proofs.YtbcjoeadpjfcfaaGreat.Abs
def Ent (n b:Nat) (env:Env) (H:Ac) (env':Env) (H':Ac):Prop:=∀ (S:MS) (val:Nat→Value),b≤S.n→SRel S H→(∀ i,i<n→VRel S (env i) (val i)) →
 ∃ S',S'.w=S.w∧BEvo b S S'∧SRel S' H'∧∀ i,i<n→VRel S' (env' i) (val i)
section
variable {P:Program} {n b:Nat} {env env':Env} {H H':Ac} {Q:Ex→Env→Ac→Prop}
theorem Ent.refl:Ent n b env H env H:=fun S val hb hS hv=>⟨S,rfl,.refl hb,hS,hv⟩
theorem Ent.trans {env2:Env} {H2:Ac} (h1:Ent n b env H env' H') (h2:Ent n b env' H' env2 H2):Ent n b env H env2 H2:=fun S val hb hS hv=>by
 obtain⟨S1,a1,a2,a3,a4⟩:=h1 S val hb hS hv;obtain⟨S2,c1,c2,c3,c4⟩:=h2 S1 val a2.n a3 a4;exact⟨S2,c1.trans a1,a2.trans c2,c3,c4⟩
theorem Yl {c:AC} (he:Ent n b env H env' H') (h:T P n b c env' H' Q):T P n b c env H Q:=by
 intro rd mm hrd code hc S a hbS hS hF;obtain⟨S',hw,hev,hS',hv⟩:=he S (fun i=>a.tmps.getD i undef) hbS hS hF.val;have:=h rd mm hrd code hc S' a hev.n hS' ⟨hF.size,hF.defers.of hev.base hev.size hev.keep hev.fresh (fun b hb=>hev.kept b (.inr hb)),hv⟩;rw[hw] at this;exact wpIn_mono this fun e a w hh=>hh.trans hev
theorem Kv {σ:Type} (Fact:σ→Prop) (μ:σ→Nat) (envs:σ→Env) (heap:σ→Ac) {c:AC} (s0:σ) (h0:Fact s0) (he:Ent n b env H (envs s0) (heap s0))
   (round:∀ s,Fact s→T P n b c (envs s) (heap s) (Ex.then (fun env' H'=>∃ s',Ent n b env' H' (envs s') (heap s')∧Fact s'∧μ s'<μ s) Q)):T P n b (.loop c) env H Q:=by
 refine zku (fun s env H=>Fact s∧Ent n b env H (envs s) (heap s)) μ s0 ⟨h0,he⟩ fun s env H hI=>?_;refine Yl hI.2 (T.mono (round s hI.1) fun x env' H' hh=>?_);cases x with
 | normal=>obtain⟨s',k1,k2,k3⟩:=hh;exact⟨s',⟨k2,k1⟩,k3⟩
 | exit id=>exact hh
 | ret=>exact hh
theorem Oz (live:List (Nat × AV)) (h:∀ p∈live,env p.1=p.2):Ent n b env H (De live) H:=fun S val hb hS hv=>by
 refine⟨S,rfl,.refl hb,hS,fun i hi=>?_⟩
 have key:∀ (l:List (Nat × AV)),(∀ p∈l,env p.1=p.2)→VRel S (De l i) (val i):=fun l=>by
   induction l with
   | nil=>exact fun _=>trivial
   | cons p l ih =>
     intro hp;obtain⟨t,y⟩:=p;show VRel S (if i=t then y else De l i) _;split
     · rename_i hit
       subst hit;have e:env i=y:=hp (i,y) (by simp);rw[←e];exact hv i hi
     · exact ih fun p hp'=>hp p (by simp[hp'])
 exact key live h
mutual
theorem Vm:∀ x:AV,ren (fun g=>g) x=x
 | .any|.bool _|.int _ _|.str _|.nilS|.nul|.emp|.nilP|.nilF|.yld _|.lst _ _|.full _ _|.cptr _|.map _ _|.ref _ _ _ _|.ptr _ _ _ _=>rfl
 | .agg cs=>by rw[ren,I2 cs]
 | .tup cs=>by rw[ren,I2 cs]
 | .fn f cs=>by rw[ren,I2 cs]
theorem I2:∀ xs:List AV,renL (fun g=>g) xs=xs
 | []=>rfl
 | x::xs=>by rw[renL,Vm x,I2 xs]
end
theorem P8 {l gar:List Grp} (hb:b≤l.length) (hcl:∀ G∈l,ltL l.length G.xs) (hlive:∀ i,i<n→ltV l.length (env i)):Ent n b env (hl (l++gar)) env (hl l):=fun S val hbS hS hv=>by
 have hn:S.n=l.length+gar.length:=by rw[←List.length_append];exact hS.n
 have hat:∀ g,g<l.length→(hl (l++gar)).at_ g=(hl l).at_ g:=fun g hg=>by
   rw[Cy,Cy];simp[List.getD,List.getElem?_append_left hg]
 let S':MS:={ S with n:=l.length }
 have hdown:∀ (x:AV) {v:Value},ltV l.length x→VRel S x v→VRel S' x v:=fun x v hx h=>by
   rw[←Vm x] at h;exact Vi (A:=S') (B:=S) (σ:=fun g=>g) (m:=l.length) rfl (fun b hb=>hb) (fun g hg=>⟨hg,rfl,rfl,rfl,rfl⟩) x hx h
 have hdownL:∀ (xs:List AV) {vs:List Value},ltL l.length xs→Ad S xs vs→Ad S' xs vs:=fun xs vs hx h=>by
   rw[←I2 xs] at h;exact F7 (A:=S') (B:=S) (σ:=fun g=>g) (m:=l.length) rfl (fun b hb=>hb) (fun g hg=>⟨hg,rfl,rfl,rfl,rfl⟩) xs hx h
 refine⟨S',rfl,⟨rfl,rfl,⟨rfl,Nat.le_refl _⟩,rfl,Nat.le_refl _,fun _ _=>rfl,fun _ h=>h,fun _ h=>h,fun _ h=>.inl h,hb,fun _ _=>Nat.le_refl _,fun _ _ _=>⟨rfl,rfl,rfl⟩⟩,⟨rfl,fun g hg=>?_,fun g g' hg hg' hne hw hw'=>?_,hS.im⟩,fun i hi=>hdown _ (hlive i hi) (hv i hi)⟩
 · have hg':g<l.length:=hg
   have hG:=hS.grp g (by show g<(l++gar).length;rw[List.length_append];omega);rw[hat g hg'] at hG;have hm:(hl l).at_ g∈l:=by rw[Cy,List.getD_eq_getElem?_getD,List.getElem?_eq_getElem hg'];exact List.getElem_mem _
   have hc:=hcl _ hm;refine⟨hG.ver,hG.wid,fun hw hcap=>?_,hG.len,hG.full,fun hw he=>?_⟩
   · obtain⟨⟨cells,TT,vs,a1,a2,a3,a4⟩,a5⟩:=hG.live hw hcap
     exact⟨⟨cells,TT,vs,a1,a2,hdownL _ hc a3,a4⟩,a5⟩
   · obtain⟨⟨es,clock,a1,a2⟩,a5⟩:=hG.mlive hw he
     exact⟨⟨es,clock,a1,hdownL _ hc a2⟩,a5⟩
 · have hg1:g<l.length:=hg
   have hg2:g'<l.length:=hg';rw[←hat g hg1] at hw;rw[←hat g' hg2] at hw';exact hS.apart g g' (by show g<(l++gar).length;rw[List.length_append];omega) (by show g'<(l++gar).length;rw[List.length_append];omega) hne hw hw'
theorem z5j {l:List Grp} (ws:List Nat) (hw:∀ w∈ws,0<w):Ent n b env (hl l) env (hl (l++ws.map Iu)):=fun S val hbS hS hv=>by
 obtain⟨S',e1,e2,e3,e4⟩:=Vk ws (env:=fun i=>if i<n then env i else .any) (val:=val) hw hS (fun i=>by
   show VRel S (if i<n then env i else .any) _;split
   · exact hv i (by assumption)
   · trivial)
 refine⟨S',e1,e2.down hbS,e3,fun i hi=>?_⟩;have:=e4 i;simp only[if_pos hi] at this;exact this
theorem zcn {l l':List Grp} (h:Hi l l l') (hv:∀ i,i<n→leS l (env i) (env' i)):Ent n b env (hl l) env' (hl l'):=fun S val hbS hS hval =>
 ⟨S,rfl,.refl hbS,Hj hS h,fun i hi=>Xz (.inl hS) _ (hv i hi) (hval i hi)⟩
theorem zco (i d:Nat) (ks:List Nat) (hok:Cp d (H.only ks) (env i)):Ent n b env H (env.put (some i) (frzV d (H.only ks) (env i))) (H.kill ks):=fun S val hbS hS hv=>by
 refine⟨S.kill H ks,rfl,(G4 ks hS).down hbS,Ov ks hS,fun j hj=>?_⟩;show VRel _ (if j=i then _ else _) _;split
 · rename_i hji
   subst hji;exact Ow ks hS d hok (hv j hj)
 · exact VRel.mono (G4 ks hS) _ (hv j hj)
theorem zpd {c:AC} (he:Ent n b env H env' H') (h:@J6 ⟨T P n b c env' H' Q⟩):@J6 ⟨T P n b c env H Q⟩:=Yl he h
end
end Go.Proofs.YtbcjoeadpjfcfaaGreat.Abs
namespace Go.Proofs.YtbcjoeadpjfcfaaGreat
open Abs
structure Span where
 lo:Int
 hi:Int
 deriving DecidableEq,Inhabited
structure Part where
 at_:Int
 drop:Int
 take:Int
 up:Int
 deriving DecidableEq,Inhabited
structure Term where
 base:Int
 drop:Int
 take:Int
 up:Int
 sum:Int
 parts:List Part
 deriving DecidableEq,Inhabited
structure Rule where
 from_:Int
 to_:Int
 guards:List (List Span)
 eat:Int
 out:List Term
 deriving DecidableEq,Inhabited
structure Eu where
 from_:Int
 guards:List (List Span)
 out:List Term
 deriving DecidableEq,Inhabited
structure Desc where
 in_:Int
 out:Int
 states:Int
 start:Int
 rules:List Rule
 finals:List Eu
 deriving DecidableEq,Inhabited
abbrev Sd (l:List Int):AV:=.lst 1 (l.map (AV.int .i64))
abbrev Ag (l:List Int):AV:=.lst 1 (l.map (AV.int .i32))
abbrev B3 (s:Span):AV:=.agg [.int .i64 s.lo,.int .i64 s.hi]
abbrev Aj (l:List Span):AV:=.lst 2 (l.map B3)
abbrev Ao (l:List (List Span)):AV:=.lst 1 (l.map Aj)
abbrev Cj (p:Part):AV:=.agg [.int .i64 p.at_,.int .i64 p.drop,.int .i64 p.take,.int .i64 p.up]
abbrev Bg (l:List Part):AV:=.lst 4 (l.map Cj)
abbrev Cn (t:Term):AV:=.agg [.int .i64 t.base,.int .i64 t.drop,.int .i64 t.take,.int .i64 t.up,.int .i64 t.sum,Bg t.parts]
abbrev Ea (l:List Term):AV:=.lst 6 (l.map Cn)
abbrev Se (r:Rule):AV:=.agg [.int .i64 r.from_,.int .i64 r.to_,Ao r.guards,.int .i64 r.eat,Ea r.out]
abbrev J8 (f:Eu):AV:=.agg [.int .i64 f.from_,Ao f.guards,Ea f.out]
abbrev Cz (l:List Rule):AV:=.lst 5 (l.map Se)
abbrev Cw (l:List Eu):AV:=.lst 3 (l.map J8)
abbrev B2 (d:Desc):AV:=.agg [.int .i64 d.in_,.int .i64 d.out,.int .i64 d.states,.int .i64 d.start,Cz d.rules,Cw d.finals]
abbrev Dg (l:List (List Int)):AV:=.lst 1 (l.map Ag)
theorem Dm (l:List Span):Ak (l.map B3)=true:=Fb (fun _=>rfl) l
theorem Hl (l:List Part):Ak (l.map Cj)=true:=Fb (fun _=>rfl) l
theorem Ah (l:List (List Span)):Ak (l.map Aj)=true:=Fb (fun s=>by simp only[Aj,AV.pure,Dm]) l
theorem Bl (l:List Term):Ak (l.map Cn)=true:=Fb (fun s=>by simp[Cn,AV.pure,Ak,Hl]) l
theorem Az (l:List Rule):Ak (l.map Se)=true:=Fb (fun s=>by simp[Se,AV.pure,Ak,Ah,Bl]) l
theorem As (l:List Eu):Ak (l.map J8)=true:=Fb (fun s=>by simp[J8,AV.pure,Ak,Ah,Bl]) l
theorem Aw (l:List (List Int)):Ak (l.map Ag)=true:=Fb (fun s=>by simp only[Ag,AV.pure,Ay]) l
attribute [push_cast] Dm Hl Ah Bl Az As Aw
end Go.Proofs.YtbcjoeadpjfcfaaGreat
set_option maxRecDepth 100000
namespace Go.Proofs.YtbcjoeadpjfcfaaGreat
open Abs
abbrev s_ (n:Nat):AArg:=.slot n
abbrev k_ (x:AV):AArg:=.const x
abbrev h_ (a:List AArg) (k:AK):AOp:=⟨none,a,none,k⟩
abbrev m_ (d:Nat) (a:List AArg) (k:AK):AOp:=⟨some d,a,none,k⟩
abbrev g_ (d g:Nat) (w:Bool) (a:List AArg) (k:AK):AOp:=⟨some d,a,some (g,w),k⟩
abbrev ld:AK:=.load false 1
abbrev ln:AK:=.len false
abbrev l6:AK:=.load true 6
abbrev nt:AK:=.un .not
abbrev st:AK:=.store 1
abbrev f0_:AK:=.faddr false 0 1
abbrev f1_:AK:=.faddr false 1 1
abbrev f2_:AK:=.faddr false 2 1
abbrev f3_:AK:=.faddr false 3 1
abbrev f4_:AK:=.faddr false 4 1
abbrev f5_:AK:=.faddr false 5 1
abbrev bad_:AK:=.bin .add
abbrev bls_:AK:=.bin .lss
abbrev beq_:AK:=.bin .eql
abbrev bgt_:AK:=.bin .gtr
abbrev bsu_:AK:=.bin .sub
abbrev ble_:AK:=.bin .leq
abbrev bne_:AK:=.bin .neq
abbrev bge_:AK:=.bin .geq
abbrev a1_:AK:=.iaddr 1
abbrev a2_:AK:=.iaddr 2
abbrev a3_:AK:=.iaddr 3
abbrev a4_:AK:=.iaddr 4
abbrev a5_:AK:=.iaddr 5
abbrev a6_:AK:=.iaddr 6
abbrev v_ (d a:Nat):AOp:=⟨some d,[.slot a],none,.mv⟩
abbrev z_ (d:Nat):AOp:=⟨some d,[.const (.int .i64 0)],none,.mv⟩
abbrev i1_ (d a:Nat):AOp:=⟨some d,[.slot a,.const (.int .i64 1)],none,.bin .add⟩
abbrev bf_ (d:Nat):AOp:=⟨some d,[.const (.bool false)],none,.mv⟩
abbrev bt_ (d:Nat):AOp:=⟨some d,[.const (.bool true)],none,.mv⟩
abbrev ns_ (d:Nat):AOp:=⟨some d,[.const .nilS],none,.mv⟩
abbrev ex_ (s e:Nat):AC:=.cond (.slot s) .skip (.exit e)
abbrev i_ (s:Nat) (a b:AC):AC:=.cond (.slot s) a b
abbrev sr_ (l:List AOp) (c:AC):AC:=.seq (.reg l) c
def Co:AC:=(sr_ [o1 2 0 .box,bf_ 4] (.seq (sr_ [o1 11 2 l6,v_ 12 1,k2 13 23 11 12] (i_ 13 (sr_ [k0 14 24,v_ 4 14] .ret) .skip)) (sr_ [o1 16 2 l6,v_ 17 1,m_ 18 [k_ (.fn 26 []),s_ 16,s_ 17,k_ (.int .i64 300)] .call,v_ 15 18,o1 19 15 (.extract 0),o1 20 15 (.extract 1),v_ 5 19,v_ 6 20] (.seq (sr_ [v_ 21 6,c2 22 21 (.int .i64 0) bne_,v_ 23 22,g_ 24 23 false [s_ 5] .mv,g_ 25 23 false [s_ 24] ln,g_ 26 23 false [s_ 25,k_ (.int .i64 0)] beq_,m_ 27 [s_ 23,k_ (.bool true),s_ 26] .pick] (i_ 27 (sr_ [k0 28 24,v_ 4 28] .ret) .skip)) (sr_ [o1 30 2 l6,v_ 31 1,v_ 32 5,o1 33 32 ln,k3 34 26 30 31 33,v_ 29 34,o1 35 29 (.extract 0),o1 36 29 (.extract 1),v_ 7 35,v_ 8 36] (.seq (sr_ [v_ 37 8,c2 38 37 (.int .i64 0) bne_,v_ 39 38,g_ 40 39 false [s_ 5] .mv,g_ 41 39 false [s_ 7] .mv,g_ 42 39 false [k_ (.fn 28 []),s_ 40,s_ 41] .call,g_ 43 39 false [s_ 42] nt,m_ 44 [s_ 39,k_ (.bool true),s_ 43] .pick] (i_ 44 (sr_ [bf_ 4] .ret) .skip)) (.seq (sr_ [v_ 45 5,o1 46 45 ln,c2 47 46 (.int .i64 1) beq_] (i_ 47 (sr_ [k0 48 24,v_ 4 48] .ret) .skip)) (sr_ [o1 50 2 l6,v_ 51 1,v_ 52 5,o1 53 52 ln,c2 54 53 (.int .i64 1) bsu_,k3 55 26 50 51 54,v_ 49 55,o1 56 49 (.extract 0),o1 57 49 (.extract 1),v_ 9 56,v_ 10 57] (sr_ [v_ 58 10,c2 59 58 (.int .i64 5) beq_,v_ 60 59,g1 61 60 9 .mv,g1 62 60 61 ln,g_ 63 60 true [s_ 62,k_ (.int .i64 0)] beq_,m_ 64 [s_ 60,s_ 63,k_ (.bool false)] .pick,v_ 65 64,g_ 66 65 true [k_ (.fn 24 [])] .call,m_ 67 [s_ 65,s_ 66,k_ (.bool false)] .pick,v_ 4 67] .ret)))))))))
theorem C0:Ar Tryz.prog 6 2=some ⟨68,2,[(.slot 4)],Co⟩:=by kernel_rfl
def Eb:AC:=(sr_ [bf_ 4] (sr_ [v_ 10 0,v_ 5 10] (.seq (sr_ [v_ 11 1,o1 12 11 ln,c2 13 12 (.int .i64 1024) bgt_] (i_ 13 (sr_ [k0 14 24,v_ 4 14] .ret) .skip)) (sr_ [v_ 16 5,k1 17 29 16,v_ 18 1,m_ 19 [k_ (.fn 26 []),s_ 17,s_ 18,k_ (.int .i64 2)] .call,v_ 15 19,o1 20 15 (.extract 0),o1 21 15 (.extract 1),v_ 6 20,v_ 7 21] (sr_ [v_ 23 5,m_ 24 [k_ (.fn 30 []),s_ 23,k_ (.int .i64 1)] .call,v_ 25 1,m_ 26 [k_ (.fn 26 []),s_ 24,s_ 25,k_ (.int .i64 2)] .call,v_ 22 26,o1 27 22 (.extract 0),o1 28 22 (.extract 1),v_ 8 27,v_ 9 28] (.seq (sr_ [v_ 29 0,c2 30 29 (.int .i64 1) bne_,v_ 31 30,g1 32 31 0 .mv,g_ 33 31 true [s_ 32,k_ (.int .i64 2)] bne_,m_ 34 [s_ 31,s_ 33,k_ (.bool false)] .pick] (i_ 34 (sr_ [v_ 35 7,c2 36 35 (.int .i64 2) beq_,v_ 37 36,g1 38 37 9 .mv,g_ 39 37 true [s_ 38,k_ (.int .i64 2)] beq_,m_ 40 [s_ 37,s_ 39,k_ (.bool false)] .pick,v_ 41 40,g_ 42 41 true [k_ (.fn 24 [])] .call,m_ 43 [s_ 41,s_ 42,k_ (.bool false)] .pick,v_ 4 43] .ret) .skip)) (.seq (sr_ [v_ 44 5,v_ 45 1,k2 46 31 44 45,o1 47 46 nt] (i_ 47 (sr_ [v_ 48 7,c2 49 48 (.int .i64 1) beq_,v_ 50 49,g1 51 50 9 .mv,g_ 52 50 true [s_ 51,k_ (.int .i64 1)] beq_,m_ 53 [s_ 50,s_ 52,k_ (.bool false)] .pick,v_ 54 53,g_ 55 54 true [k_ (.fn 24 [])] .call,m_ 56 [s_ 54,s_ 55,k_ (.bool false)] .pick,v_ 4 56] .ret) .skip)) (sr_ [v_ 57 7,c2 58 57 (.int .i64 0) beq_,v_ 59 58,g1 60 59 9 .mv,g_ 61 59 true [s_ 60,k_ (.int .i64 0)] beq_,m_ 62 [s_ 59,s_ 61,k_ (.bool false)] .pick,v_ 63 62,g1 64 63 6 .mv,g1 65 63 64 ln,g_ 66 63 true [s_ 65,k_ (.int .i64 1)] beq_,m_ 67 [s_ 63,s_ 66,k_ (.bool false)] .pick,v_ 68 67,g1 69 68 6 .mv,g_ 70 68 true [s_ 69,k_ (.int .i64 0)] a1_,g1 71 68 70 ld,g1 72 68 1 .mv,g_ 73 68 true [k_ (.fn 32 []),s_ 71,s_ 72] .call,m_ 74 [s_ 68,s_ 73,k_ (.bool false)] .pick,v_ 75 74,g1 76 75 8 .mv,g1 77 75 76 ln,g_ 78 75 true [s_ 77,k_ (.int .i64 0)] beq_,m_ 79 [s_ 75,s_ 78,k_ (.bool false)] .pick,v_ 80 79,g_ 81 80 true [k_ (.fn 24 [])] .call,m_ 82 [s_ 80,s_ 81,k_ (.bool false)] .pick,v_ 4 82] .ret))))))))
theorem Ff:Ar Tryz.prog 7 2=some ⟨83,2,[(.slot 4)],Eb⟩:=by kernel_rfl
def B7:AC:=(sr_ [o1 3 0 .box,o1 4 1 .box,bf_ 6] (.seq (sr_ [o1 15 3 l6,v_ 16 2,k2 17 23 15 16,v_ 18 17,g_ 19 18 false [s_ 4] l6,g_ 20 18 false [s_ 2] .mv,g_ 21 18 false [k_ (.fn 23 []),s_ 19,s_ 20] .call,m_ 22 [s_ 18,k_ (.bool true),s_ 21] .pick] (i_ 22 (sr_ [k0 23 24,v_ 6 23] .ret) .skip)) (sr_ [o1 25 3 l6,o1 26 4 l6,k2 27 35 25 26,v_ 24 27,o1 28 24 (.extract 0),o1 29 24 (.extract 1),o0 7 (.alloc (.agg [(.int .i64 0),(.int .i64 0),(.int .i64 0),(.int .i64 0),.nilS,.nilS]) 6),n2 7 28 (.store 6),v_ 8 29] (.seq (sr_ [v_ 30 8,c2 31 30 (.int .i64 0) bne_] (i_ 31 (sr_ [k0 32 24,v_ 6 32] .ret) .skip)) (sr_ [o1 34 3 l6,v_ 35 2,m_ 36 [k_ (.fn 26 []),s_ 34,s_ 35,k_ (.int .i64 200)] .call,v_ 33 36,o1 37 33 (.extract 0),o1 38 33 (.extract 1),v_ 9 37,v_ 10 38] (sr_ [o1 40 4 l6,v_ 41 2,m_ 42 [k_ (.fn 26 []),s_ 40,s_ 41,k_ (.int .i64 200)] .call,v_ 39 42,o1 43 39 (.extract 0),o1 44 39 (.extract 1),v_ 11 43,v_ 12 44] (.seq (sr_ [v_ 45 10,c2 46 45 (.int .i64 0) bne_,v_ 47 46,g_ 48 47 false [s_ 12] .mv,g_ 49 47 false [s_ 48,k_ (.int .i64 0)] bne_,m_ 50 [s_ 47,k_ (.bool true),s_ 49] .pick] (i_ 50 (sr_ [k0 51 24,v_ 6 51] .ret) .skip)) (sr_ [o1 53 7 l6,v_ 54 2,m_ 55 [k_ (.fn 26 []),s_ 53,s_ 54,k_ (.int .i64 400)] .call,v_ 52 55,o1 56 52 (.extract 0),o1 57 52 (.extract 1),v_ 13 56,v_ 14 57] (sr_ [v_ 58 14,c2 59 58 (.int .i64 0) beq_,v_ 60 59,g1 61 60 13 .mv,g1 62 60 9 .mv,g1 63 60 11 .mv,g_ 64 60 true [k_ (.fn 36 []),s_ 62,s_ 63] .call,g_ 65 60 true [k_ (.fn 28 []),s_ 61,s_ 64] .call,m_ 66 [s_ 60,s_ 65,k_ (.bool false)] .pick,v_ 67 66,g_ 68 67 true [k_ (.fn 24 [])] .call,m_ 69 [s_ 67,s_ 68,k_ (.bool false)] .pick,v_ 6 69] .ret)))))))))
theorem Cg:Ar Tryz.prog 9 3=some ⟨70,3,[(.slot 6)],B7⟩:=by kernel_rfl
def Lr:AC:=(sr_ [o1 1 0 .box,bf_ 2] (sr_ [z_ 3] (.seq (sr_ [o1 6 1 f4_,o1 7 6 ld,o1 8 7 ln,c2 9 8 (.int .i64 80) bgt_,v_ 10 9,g_ 11 10 false [s_ 1] f5_,g_ 12 10 false [s_ 11] ld,g_ 13 10 false [s_ 12] ln,g_ 14 10 false [s_ 13,k_ (.int .i64 80)] bgt_,m_ 15 [s_ 10,k_ (.bool true),s_ 14] .pick] (i_ 15 (sr_ [bf_ 2] .ret) .skip)) (.seq (sr_ [z_ 4] (.block 0 (.loop (.seq (sr_ [v_ 16 4,o1 17 1 f4_,o1 18 17 ld,o1 19 18 ln,o2 20 16 19 bls_] (ex_ 20 0)) (.seq (.block 1 (.dreg [v_ 23 3,o1 24 1 f4_,o1 25 24 ld,v_ 26 4,o2 27 25 26 a5_,o1 28 27 f2_,o1 29 28 ld,o1 30 1 f4_,o1 31 30 ld,v_ 32 4,o2 33 31 32 a5_,o1 34 33 f4_,o1 35 34 ld,k2 36 43 29 35,o2 37 23 36 bad_,v_ 3 37])) (.reg [v_ 21 4,i1_ 22 21,v_ 4 22])))))) (.seq (sr_ [z_ 5] (.block 2 (.loop (.seq (sr_ [v_ 38 5,o1 39 1 f5_,o1 40 39 ld,o1 41 40 ln,o2 42 38 41 bls_] (ex_ 42 2)) (.seq (.block 3 (.dreg [v_ 45 3,o1 46 1 f5_,o1 47 46 ld,v_ 48 5,o2 49 47 48 a3_,o1 50 49 f1_,o1 51 50 ld,o1 52 1 f5_,o1 53 52 ld,v_ 54 5,o2 55 53 54 a3_,o1 56 55 f2_,o1 57 56 ld,k2 58 43 51 57,o2 59 45 58 bad_,v_ 3 59])) (.reg [v_ 43 5,i1_ 44 43,v_ 5 44])))))) (sr_ [v_ 60 3,c2 61 60 (.int .i64 1500) ble_,v_ 2 61] .ret))))))
theorem Vn:Ar Tryz.prog 15 1=some ⟨62,1,[(.slot 2)],Lr⟩:=by kernel_rfl
def Ls:AC:=(sr_ [o1 2 0 .box,bf_ 4] (sr_ [o1 5 2 l6,k1 6 15 5,o1 7 6 nt,v_ 8 7,g_ 9 8 false [s_ 1] .mv,g_ 10 8 false [s_ 9] ln,g_ 11 8 false [s_ 10,k_ (.int .i64 12)] bgt_,g_ 12 8 false [s_ 11] .mv,g1 13 12 1 .mv,g1 14 12 13 ln,g_ 15 12 true [s_ 14,k_ (.int .i64 1024)] ble_,g_ 16 8 false [s_ 12,s_ 15,k_ (.bool false)] .pick,m_ 17 [s_ 8,k_ (.bool true),s_ 16] .pick,v_ 4 17] .ret))
theorem Vo:Ar Tryz.prog 23 2=some ⟨18,2,[(.slot 4)],Ls⟩:=by kernel_rfl
def Lt:AC:=(sr_ [bf_ 0] (sr_ [m_ 7 [k_ (.int .i64 97),k_ (.int .i64 97)] (.build [(.int .i64 0),(.int .i64 0)] [(0,1),(1,1)] [0,1]),o1 8 7 (.bslice 2 1 (.agg [(.int .i64 0),(.int .i64 0)]) [0]),o1 9 8 (.bslice 1 1 .nilS [0]),v_ 1 9] (sr_ [o0 10 (.build [(.int .i64 0),.nilS,.nilS] [(0,1),(1,1),(2,1)] []),o1 11 10 (.bslice 3 1 (.agg [(.int .i64 0),.nilS,.nilS]) [0]),v_ 12 1,m_ 13 [k_ (.int .i64 21),k_ (.int .i64 120)] (.build [(.int .i64 0),(.int .i64 0),(.int .i64 0),(.int .i64 0),(.int .i64 0),.nilS] [(0,1),(1,1),(2,1),(3,1),(4,1),(5,1)] [2,4]),o1 14 13 (.bslice 6 1 (.agg [(.int .i64 0),(.int .i64 0),(.int .i64 0),(.int .i64 0),(.int .i64 0),.nilS]) [0]),m_ 15 [s_ 12,k_ (.int .i64 1),s_ 14] (.build [(.int .i64 0),(.int .i64 0),.nilS,(.int .i64 0),.nilS] [(0,1),(1,1),(2,1),(3,1),(4,1)] [2,3,4]),v_ 16 1,m_ 17 [k_ (.int .i64 21),k_ (.int .i64 121)] (.build [(.int .i64 0),(.int .i64 0),(.int .i64 0),(.int .i64 0),(.int .i64 0),.nilS] [(0,1),(1,1),(2,1),(3,1),(4,1),(5,1)] [2,4]),o1 18 17 (.bslice 6 1 (.agg [(.int .i64 0),(.int .i64 0),(.int .i64 0),(.int .i64 0),(.int .i64 0),.nilS]) [0]),m_ 19 [s_ 16,k_ (.int .i64 1),s_ 18] (.build [(.int .i64 0),(.int .i64 0),.nilS,(.int .i64 0),.nilS] [(0,1),(1,1),(2,1),(3,1),(4,1)] [2,3,4]),o2 20 15 19 (.bslice 5 2 (.agg [(.int .i64 0),(.int .i64 0),.nilS,(.int .i64 0),.nilS]) [0,1]),m_ 21 [k_ (.int .i64 1),k_ (.int .i64 1),k_ (.int .i64 1),s_ 11,s_ 20] (.build [(.int .i64 0),(.int .i64 0),(.int .i64 0),(.int .i64 0),.nilS,.nilS] [(0,1),(1,1),(2,1),(3,1),(4,1),(5,1)] [0,1,2,5,4]),o0 2 (.alloc (.agg [(.int .i64 0),(.int .i64 0),(.int .i64 0),(.int .i64 0),.nilS,.nilS]) 6),n2 2 21 (.store 6)] (sr_ [o1 23 2 l6,m_ 24 [k_ (.int .i32 97),k_ (.int .i32 97)] (.bslice 1 2 (.int .i32 0) [0,1]),m_ 25 [k_ (.fn 26 []),s_ 23,s_ 24,k_ (.int .i64 4)] .call,v_ 22 25,o1 26 22 (.extract 0),o1 27 22 (.extract 1),v_ 3 26,v_ 4 27] (sr_ [o1 29 2 l6,m_ 30 [k_ (.int .i32 97),k_ (.int .i32 97)] (.bslice 1 2 (.int .i32 0) [0,1]),m_ 31 [k_ (.fn 26 []),s_ 29,s_ 30,k_ (.int .i64 3)] .call,v_ 28 31,o1 32 28 (.extract 0),o1 33 28 (.extract 1),v_ 5 32,v_ 6 33] (sr_ [v_ 34 4,c2 35 34 (.int .i64 0) beq_,v_ 36 35,g1 37 36 3 .mv,g1 38 36 37 ln,g_ 39 36 true [s_ 38,k_ (.int .i64 4)] beq_,m_ 40 [s_ 36,s_ 39,k_ (.bool false)] .pick,v_ 41 40,g1 42 41 3 .mv,g_ 43 41 true [s_ 42,k_ (.int .i64 1)] a1_,g1 44 41 43 ld,g1 45 41 44 .runStr,g_ 46 41 true [s_ 45,k_ (.str [120,121])] beq_,m_ 47 [s_ 41,s_ 46,k_ (.bool false)] .pick,v_ 48 47,g1 49 48 6 .mv,g_ 50 48 true [s_ 49,k_ (.int .i64 5)] beq_,m_ 51 [s_ 48,s_ 50,k_ (.bool false)] .pick,v_ 0 51] .ret))))))
theorem Vp:Ar Tryz.prog 24 0=some ⟨52,0,[(.slot 0)],Lt⟩:=by kernel_rfl
def Ge:AC:=(sr_ [o1 3 0 .box,o1 5 2 .box,ns_ 6,z_ 7] (.seq (sr_ [o1 12 3 l6,v_ 13 1,k2 14 59 12 13,v_ 8 14] (sr_ [v_ 15 8,c2 16 15 (.int .i64 0) bne_] (i_ 16 (sr_ [v_ 17 8,ns_ 6,v_ 7 17] .ret) .skip))) (.seq (sr_ [o1 18 5 ld,c2 19 18 (.int .i64 1) bls_] (i_ 19 (sr_ [ns_ 6,c1 7 (.int .i64 1) .mv] .ret) .skip)) (sr_ [o1 20 3 l6,v_ 21 1,k2 22 60 20 21,o0 9 (.alloc .nilP 1),n2 9 22 st] (sr_ [o1 23 9 ld,o1 24 23 .nilCheck,o1 25 24 (.faddr false 10 1),o1 26 25 ld,o1 27 26 ln,o2 28 27 27 (.mkSlice 1 24 .nilS),o0 10 (.alloc .nilS 1),n2 10 28 st] (sr_ [o0 11 (.alloc (.bool false) 1),h_ [s_ 11,k_ (.bool false)] st] (sr_ [o1 29 9 ld,m_ 30 [s_ 11,s_ 9,s_ 3,s_ 10,s_ 5] (.mkFunc 62),k2 31 61 29 30] (.seq (sr_ [o1 32 11 ld] (i_ 32 (sr_ [ns_ 6,c1 7 (.int .i64 5) .mv] .ret) .skip)) (sr_ [o1 33 10 ld,o1 34 3 f3_,o1 35 34 ld,o2 36 33 35 a1_,o1 37 36 ld,v_ 6 37,z_ 7] .ret)))))))))
theorem Ic:Ar Tryz.prog 26 3=some ⟨38,3,[(.slot 6),(.slot 7)],Ge⟩:=by kernel_rfl
def Hm:AC:=(sr_ [bf_ 4] (.seq (sr_ [v_ 6 0,o1 7 6 ln,v_ 8 1,o1 9 8 ln,o2 10 7 9 bne_] (i_ 10 (sr_ [bf_ 4] .ret) .skip)) (.seq (sr_ [z_ 5] (.block 0 (.loop (.seq (sr_ [v_ 11 5,v_ 12 0,o1 13 12 ln,o2 14 11 13 bls_] (ex_ 14 0)) (.seq (.block 1 (.seq (.dtl [v_ 17 0,v_ 18 5,o2 19 17 18 a1_,o1 20 19 ld,v_ 21 1,v_ 22 5,o2 23 21 22 a1_,o1 24 23 ld] [k2 25 32 20 24,o1 26 25 nt]) (i_ 26 (sr_ [bf_ 4] .ret) .skip))) (.reg [v_ 15 5,i1_ 16 15,v_ 5 16])))))) (sr_ [bt_ 4] .ret))))
theorem My:Ar Tryz.prog 28 2=some ⟨27,2,[(.slot 4)],Hm⟩:=by kernel_rfl
def P9:AC:=(sr_ [o0 2 (.alloc (.agg [(.int .i64 0),(.int .i64 0),(.int .i64 0),(.int .i64 0),.nilS,.nilS]) 6)] (sr_ [v_ 4 0,v_ 5 0,k2 6 30 4 5,o0 3 (.alloc (.agg [(.int .i64 0),(.int .i64 0),(.int .i64 0),(.int .i64 0),.nilS,.nilS]) 6),n2 3 6 (.store 6)] (sr_ [v_ 7 0,k1 8 72 7,o1 9 8 (.bslice 1 1 .nilS [0]),m_ 10 [k_ (.fn 73 []),k_ (.int .i64 0),k_ (.int .i64 0)] .call,o1 11 10 (.bslice 6 1 (.agg [(.int .i64 0),(.int .i64 0),(.int .i64 0),(.int .i64 0),(.int .i64 0),.nilS]) [0]),m_ 12 [s_ 9,k_ (.int .i64 1),s_ 11] (.build [(.int .i64 0),(.int .i64 0),.nilS,(.int .i64 0),.nilS] [(0,1),(1,1),(2,1),(3,1),(4,1)] [2,3,4]),o1 13 12 (.bslice 5 1 (.agg [(.int .i64 0),(.int .i64 0),.nilS,(.int .i64 0),.nilS]) [0]),o1 14 3 f4_,n2 14 13 st] (sr_ [o0 15 (.build [(.int .i64 0),.nilS,.nilS] [(0,1),(1,1),(2,1)] []),o1 16 15 (.bslice 3 1 (.agg [(.int .i64 0),.nilS,.nilS]) [0]),o1 17 3 f5_,n2 17 16 st] (sr_ [o1 18 3 l6,n2 2 18 (.store 6)] .ret)))))
theorem z0z:Ar Tryz.prog 29 1=some ⟨19,1,[(.cell 2 true 6)],P9⟩:=by kernel_rfl
def Nn:AC:=(sr_ [o0 4 (.alloc (.agg [(.int .i64 0),(.int .i64 0),(.int .i64 0),(.int .i64 0),.nilS,.nilS]) 6)] (sr_ [v_ 5 0,v_ 6 1,m_ 7 [s_ 5,s_ 6,k_ (.int .i64 1)] (.build [(.int .i64 0),(.int .i64 0),(.int .i64 0),(.int .i64 0),.nilS,.nilS] [(0,1),(1,1),(2,1),(3,1),(4,1),(5,1)] [0,1,2]),n2 4 7 (.store 6)] .ret))
theorem Ym:Ar Tryz.prog 30 2=some ⟨8,2,[(.cell 4 true 6)],Nn⟩:=by kernel_rfl
def No:AC:=(sr_ [bf_ 4] (.seq (sr_ [z_ 5] (.block 0 (.loop (.seq (sr_ [v_ 6 5,v_ 7 1,o1 8 7 ln,o2 9 6 8 bls_] (ex_ 9 0)) (.seq (.block 1 (sr_ [v_ 12 0,v_ 13 1,v_ 14 5,o2 15 13 14 a1_,o1 16 15 ld,k2 17 74 12 16,o1 18 17 nt] (i_ 18 (sr_ [bf_ 4] .ret) .skip))) (.reg [v_ 10 5,i1_ 11 10,v_ 5 11])))))) (sr_ [bt_ 4] .ret)))
theorem Yn:Ar Tryz.prog 31 2=some ⟨19,2,[(.slot 4)],No⟩:=by kernel_rfl
def Np:AC:=(sr_ [bf_ 4] (.seq (sr_ [v_ 6 0,o1 7 6 ln,v_ 8 1,o1 9 8 ln,o2 10 7 9 bne_] (i_ 10 (sr_ [bf_ 4] .ret) .skip)) (.seq (sr_ [z_ 5] (.block 0 (.loop (.seq (sr_ [v_ 11 5,v_ 12 0,o1 13 12 ln,o2 14 11 13 bls_] (ex_ 14 0)) (.seq (.block 1 (.seq (.dreg [v_ 17 0,v_ 18 5,o2 19 17 18 a1_,o1 20 19 ld,v_ 21 1,v_ 22 5,o2 23 21 22 a1_,o1 24 23 ld,o2 25 20 24 bne_]) (i_ 25 (sr_ [bf_ 4] .ret) .skip))) (.reg [v_ 15 5,i1_ 16 15,v_ 5 16])))))) (sr_ [bt_ 4] .ret))))
theorem Yo:Ar Tryz.prog 32 2=some ⟨26,2,[(.slot 4)],Np⟩:=by kernel_rfl
def Ie:AC:=(sr_ [o1 2 0 .box,o1 3 1 .box,o0 4 (.alloc (.agg [(.int .i64 0),(.int .i64 0),(.int .i64 0),(.int .i64 0),.nilS,.nilS]) 6),z_ 5] (.seq (sr_ [o1 15 2 l6,k1 16 39 15,c2 17 16 (.int .i64 0) bne_,v_ 18 17,g_ 19 18 false [s_ 3] l6,g_ 20 18 false [k_ (.fn 39 []),s_ 19] .call,g_ 21 18 false [s_ 20,k_ (.int .i64 0)] bne_,m_ 22 [s_ 18,k_ (.bool true),s_ 21] .pick,v_ 23 22,g_ 24 23 false [s_ 2] f0_,g_ 25 23 false [s_ 24] ld,g_ 26 23 false [s_ 3] f0_,g_ 27 23 false [s_ 26] ld,g_ 28 23 false [s_ 25,s_ 27] bne_,m_ 29 [s_ 23,k_ (.bool true),s_ 28] .pick,v_ 30 29,g_ 31 30 false [s_ 2] f1_,g_ 32 30 false [s_ 31] ld,g_ 33 30 false [s_ 3] f1_,g_ 34 30 false [s_ 33] ld,g_ 35 30 false [s_ 32,s_ 34] bne_,m_ 36 [s_ 30,k_ (.bool true),s_ 35] .pick] (i_ 36 (sr_ [o0 37 (.build [(.int .i64 0),(.int .i64 0),(.int .i64 0),(.int .i64 0),.nilS,.nilS] [(0,1),(1,1),(2,1),(3,1),(4,1),(5,1)] []),n2 4 37 (.store 6),c1 5 (.int .i64 2) .mv] .ret) .skip)) (sr_ [o1 38 2 f2_,o1 39 38 ld,m_ 40 [k_ (.int .i64 1),s_ 39] bad_,o1 41 3 f2_,o1 42 41 ld,o2 43 40 42 bad_,v_ 6 43] (.seq (sr_ [v_ 44 6,c2 45 44 (.int .i64 1024) bgt_,v_ 46 45,g_ 47 46 false [s_ 2] f4_,g_ 48 46 false [s_ 47] ld,g_ 49 46 false [s_ 48] ln,g_ 50 46 false [k_ (.int .i64 2),s_ 49] bad_,g_ 51 46 false [s_ 3] f4_,g_ 52 46 false [s_ 51] ld,g_ 53 46 false [s_ 52] ln,g_ 54 46 false [s_ 50,s_ 53] bad_,g_ 55 46 false [s_ 54,k_ (.int .i64 4096)] bgt_,m_ 56 [s_ 46,k_ (.bool true),s_ 55] .pick,v_ 57 56,g_ 58 57 false [s_ 2] f5_,g_ 59 57 false [s_ 58] ld,g_ 60 57 false [s_ 59] ln,g_ 61 57 false [s_ 3] f5_,g_ 62 57 false [s_ 61] ld,g_ 63 57 false [s_ 62] ln,g_ 64 57 false [s_ 60,s_ 63] bad_,g_ 65 57 false [s_ 64,k_ (.int .i64 4096)] bgt_,m_ 66 [s_ 57,k_ (.bool true),s_ 65] .pick] (i_ 66 (sr_ [o0 67 (.build [(.int .i64 0),(.int .i64 0),(.int .i64 0),(.int .i64 0),.nilS,.nilS] [(0,1),(1,1),(2,1),(3,1),(4,1),(5,1)] []),n2 4 67 (.store 6),c1 5 (.int .i64 4) .mv] .ret) .skip)) (sr_ [o1 68 2 f0_,o1 69 68 ld,o1 70 2 f1_,o1 71 70 ld,v_ 72 6,o3 73 69 71 72 (.build [(.int .i64 0),(.int .i64 0),(.int .i64 0),(.int .i64 0),.nilS,.nilS] [(0,1),(1,1),(2,1),(3,1),(4,1),(5,1)] [0,1,2]),o0 7 (.alloc (.agg [(.int .i64 0),(.int .i64 0),(.int .i64 0),(.int .i64 0),.nilS,.nilS]) 6),n2 7 73 (.store 6)] (sr_ [o1 74 2 f3_,o1 75 74 ld,m_ 76 [k_ (.int .i64 1),s_ 75] bad_,o1 77 76 (.build [(.int .i64 0),(.int .i64 0),.nilS,(.int .i64 0),.nilS] [(0,1),(1,1),(2,1),(3,1),(4,1)] [1]),o1 78 2 f2_,o1 79 78 ld,m_ 80 [k_ (.int .i64 1),s_ 79] bad_,o1 81 3 f3_,o1 82 81 ld,o2 83 80 82 bad_,o1 84 83 (.build [(.int .i64 0),(.int .i64 0),.nilS,(.int .i64 0),.nilS] [(0,1),(1,1),(2,1),(3,1),(4,1)] [1]),o2 85 77 84 (.bslice 5 2 (.agg [(.int .i64 0),(.int .i64 0),.nilS,(.int .i64 0),.nilS]) [0,1]),o1 86 7 f4_,n2 86 85 st] (.seq (sr_ [o1 87 2 l6,o1 88 3 l6,o2 89 87 88 (.build [(.int .i64 0),(.int .i64 0),(.int .i64 0),(.int .i64 0),.nilS,.nilS,(.int .i64 0),(.int .i64 0),(.int .i64 0),(.int .i64 0),.nilS,.nilS] [(0,6),(6,6)] [0,1]),z_ 90] (.block 0 (.loop (sr_ [c2 91 90 (.int .i64 2) bls_] (.seq (ex_ 91 0) (.seq (.block 1 (sr_ [v_ 92 90,o2 93 89 90 (.index 2 6 true),o0 9 (.alloc (.agg [(.int .i64 0),(.int .i64 0),(.int .i64 0),(.int .i64 0),.nilS,.nilS]) 6),v_ 8 92,n2 9 93 (.store 6)] (sr_ [v_ 94 8,o1 95 2 f2_,o1 96 95 ld,o2 97 94 96 (.bin .mul),m_ 98 [k_ (.int .i64 1),s_ 97] bad_,v_ 10 98] (.seq (sr_ [o1 99 9 f4_,o1 100 99 ld,o1 101 100 ln,z_ 102] (.block 2 (.loop (sr_ [o2 103 102 101 bls_] (.seq (ex_ 103 2) (.seq (.block 3 (sr_ [o2 104 100 102 a5_,o1 105 104 (.load true 5),o0 12 (.alloc (.agg [(.int .i64 0),(.int .i64 0),.nilS,(.int .i64 0),.nilS]) 5),n2 12 105 (.store 5)] (.dtl [o1 106 7 f4_,o1 107 106 ld,o1 108 12 f0_,o1 109 108 ld,v_ 110 10,o2 111 109 110 bad_,o1 112 12 f1_,o1 113 112 ld,v_ 114 10,o2 115 113 114 bad_,o1 116 12 f2_,o1 117 116 ld,k1 118 78 117,o1 119 12 f3_,o1 120 119 ld,o1 121 12 f4_,o1 122 121 ld,k1 123 79 122,m_ 124 [s_ 111,s_ 115,s_ 118,s_ 120,s_ 123] (.build [(.int .i64 0),(.int .i64 0),.nilS,(.int .i64 0),.nilS] [(0,1),(1,1),(2,1),(3,1),(4,1)] [0,1,2,3,4]),o1 125 124 (.bslice 5 1 (.agg [(.int .i64 0),(.int .i64 0),.nilS,(.int .i64 0),.nilS]) [0])] [o2 126 107 125 (.app 5 72 (.agg [(.int .i64 0),(.int .i64 0),.nilS,(.int .i64 0),.nilS])),o1 127 7 f4_,n2 127 126 st]))) (.reg [i1_ 128 102,v_ 102 128]))))))) (sr_ [o1 129 9 f5_,o1 130 129 ld,o1 131 130 ln,z_ 132] (.block 4 (.loop (sr_ [o2 133 132 131 bls_] (.seq (ex_ 133 4) (.seq (.block 5 (sr_ [o2 134 130 132 a3_,o1 135 134 (.load true 3),o0 14 (.alloc (.agg [(.int .i64 0),.nilS,.nilS]) 3),n2 14 135 (.store 3)] (.dtl [o1 136 7 f5_,o1 137 136 ld,o1 138 14 f0_,o1 139 138 ld,v_ 140 10,o2 141 139 140 bad_,o1 142 14 f1_,o1 143 142 ld,k1 144 78 143,o1 145 14 f2_,o1 146 145 ld,k1 147 79 146,o3 148 141 144 147 (.build [(.int .i64 0),.nilS,.nilS] [(0,1),(1,1),(2,1)] [0,1,2]),o1 149 148 (.bslice 3 1 (.agg [(.int .i64 0),.nilS,.nilS]) [0])] [o2 150 137 149 (.app 3 56 (.agg [(.int .i64 0),.nilS,.nilS])),o1 151 7 f5_,n2 151 150 st]))) (.reg [i1_ 152 132,v_ 132 152]))))))))))) (.reg [i1_ 153 90,v_ 90 153]))))))) (sr_ [o1 154 7 l6,n2 4 154 (.store 6),z_ 5] .ret))))))))
theorem Kw:Ar Tryz.prog 35 2=some ⟨155,2,[(.cell 4 true 6),(.slot 5)],Ie⟩:=by kernel_rfl
def Nq:AC:=(sr_ [ns_ 4] (sr_ [ns_ 5] (.seq (sr_ [z_ 6] (.block 0 (.loop (.seq (sr_ [v_ 8 6,v_ 9 0,o1 10 9 ln,o2 11 8 10 bls_] (ex_ 11 0)) (.seq (.block 1 (.reg [v_ 14 5,v_ 15 0,v_ 16 6,o2 17 15 16 a1_,o1 18 17 ld,k2 19 69 14 18,v_ 5 19])) (.reg [v_ 12 6,i1_ 13 12,v_ 6 13])))))) (.seq (sr_ [z_ 7] (.block 2 (.loop (.seq (sr_ [v_ 20 7,v_ 21 1,o1 22 21 ln,o2 23 20 22 bls_] (ex_ 23 2)) (.seq (.block 3 (.reg [v_ 26 5,v_ 27 1,v_ 28 7,o2 29 27 28 a1_,o1 30 29 ld,k2 31 69 26 30,v_ 5 31])) (.reg [v_ 24 7,i1_ 25 24,v_ 7 25])))))) (sr_ [v_ 32 5,v_ 4 32] .ret)))))
theorem Yp:Ar Tryz.prog 36 2=some ⟨33,2,[(.slot 4)],Nq⟩:=by kernel_rfl
def Nr:AC:=(sr_ [o1 1 0 .box,z_ 2] (.seq (sr_ [o1 6 1 l6,k1 7 82 6,v_ 5 7,o1 8 5 (.extract 0),o1 9 5 (.extract 1),v_ 3 8,v_ 4 9] (sr_ [v_ 10 3,c2 11 10 (.int .i64 0) bne_] (i_ 11 (sr_ [c1 2 (.int .i64 2) .mv] .ret) .skip))) (sr_ [z_ 2] .ret)))
theorem Yq:Ar Tryz.prog 39 1=some ⟨12,1,[(.slot 2)],Nr⟩:=by kernel_rfl
def Ns:AC:=(sr_ [z_ 4] (.seq (sr_ [v_ 8 0,o1 9 8 ln,c2 10 9 (.int .i64 100) bgt_,v_ 11 10,g_ 12 11 false [s_ 1] .mv,g_ 13 11 false [s_ 12] ln,g_ 14 11 false [s_ 13,k_ (.int .i64 200)] bgt_,m_ 15 [s_ 11,k_ (.bool true),s_ 14] .pick] (i_ 15 (sr_ [c1 4 (.int .i64 4000) .mv] .ret) .skip)) (sr_ [c1 5 (.int .i64 1) .mv] (.seq (sr_ [z_ 6] (.block 0 (.loop (.seq (sr_ [v_ 16 6,v_ 17 0,o1 18 17 ln,o2 19 16 18 bls_] (ex_ 19 0)) (.seq (.block 1 (.reg [v_ 22 5,v_ 23 0,v_ 24 6,o2 25 23 24 a1_,o1 26 25 ld,o1 27 26 ln,c2 28 27 (.int .i64 4000) .min,o2 29 22 28 bad_,v_ 5 29])) (.reg [v_ 20 6,i1_ 21 20,v_ 6 21])))))) (.seq (sr_ [z_ 7] (.block 2 (.loop (.seq (sr_ [v_ 30 7,v_ 31 1,o1 32 31 ln,o2 33 30 32 bls_] (ex_ 33 2)) (.seq (.block 3 (.reg [v_ 36 5,i1_ 37 36,v_ 38 1,v_ 39 7,o2 40 38 39 a6_,o1 41 40 f5_,o1 42 41 ld,o1 43 42 ln,c2 44 43 (.int .i64 4000) .min,o2 45 37 44 bad_,v_ 5 45])) (.reg [v_ 34 7,i1_ 35 34,v_ 7 35])))))) (sr_ [v_ 46 5,v_ 4 46] .ret))))))
theorem Yr:Ar Tryz.prog 43 2=some ⟨47,2,[(.slot 4)],Ns⟩:=by kernel_rfl
def Qa:AC:=(sr_ [o1 2 0 .box,z_ 4] (.seq (.block 0 (sr_ [o1 6 2 l6,k1 7 39 6,c2 8 7 (.int .i64 0) bne_,v_ 5 8] (i_ 5 (sr_ [c1 4 (.int .i64 2) .mv] .ret) (sr_ [v_ 10 1,o1 11 10 ln,c2 12 11 (.int .i64 1024) bgt_,v_ 9 12] (i_ 9 (sr_ [c1 4 (.int .i64 4) .mv] .ret) (sr_ [o1 14 2 f0_,o1 15 14 ld,v_ 16 1,k2 17 100 15 16,o1 18 17 nt,v_ 13 18] (i_ 13 (sr_ [c1 4 (.int .i64 1) .mv] .ret) .skip))))))) (sr_ [z_ 4] .ret)))
theorem z1a:Ar Tryz.prog 59 2=some ⟨19,2,[(.slot 4)],Qa⟩:=by kernel_rfl
def Qb:AC:=(sr_ [o1 2 0 .box,c1 4 .nilP .mv] (.seq (.gry [true,false,true,true,false,true,true,false,false,false,false,false] [m_ 18 [s_ 2] l6,m_ 19 [s_ 1] .mv,m_ 20 [s_ 2] f2_,m_ 21 [s_ 20] ld,m_ 22 [s_ 21,s_ 21] (.mkSlice 1 24 .nilS),m_ 23 [s_ 2] f2_,m_ 24 [s_ 23] ld,m_ 25 [s_ 24,s_ 24] (.mkSlice 1 24 .nilS),m_ 26 [s_ 18,s_ 19,s_ 22,s_ 25] (.build [(.int .i64 0),(.int .i64 0),(.int .i64 0),(.int .i64 0),.nilS,.nilS,.nilS,.nilS,.nilS,.nilS,.nilS] [(0,6),(6,1),(7,1),(8,1),(9,1),(10,1)] [0,1,2,3]),m_ 27 [s_ 26] .box,m_ 5 [] (.alloc .nilP 1),h_ [s_ 5,s_ 27] st]) (.seq (sr_ [o1 28 2 f4_,o1 29 28 ld,o1 30 29 ln,z_ 31] (.block 0 (.loop (sr_ [o2 32 31 30 bls_] (.seq (ex_ 32 0) (.seq (.block 1 (sr_ [v_ 33 31,o2 34 29 31 a5_,o1 35 34 (.load true 5),o0 7 (.alloc (.agg [(.int .i64 0),(.int .i64 0),.nilS,(.int .i64 0),.nilS]) 5),v_ 6 33,n2 7 35 (.store 5)] (.grx [true,false,true,true,true,true,true,false,true,true,true,true,true,false,false,false,false,false,false] [m_ 36 [s_ 5] ld,m_ 37 [s_ 36] .nilCheck,m_ 38 [s_ 37] (.faddr false 7 1),m_ 39 [s_ 38] ld,m_ 40 [s_ 7] f0_,m_ 41 [s_ 40] ld,m_ 42 [s_ 5] ld,m_ 43 [s_ 42] .nilCheck,m_ 44 [s_ 43] (.faddr false 7 1),m_ 45 [s_ 44] ld,m_ 46 [s_ 7] f0_,m_ 47 [s_ 46] ld,m_ 48 [s_ 45,s_ 47] a1_,m_ 49 [s_ 48] ld,m_ 50 [s_ 6] .mv,m_ 51 [s_ 50] (.bslice 1 1 (.int .i64 0) [0]),m_ 52 [s_ 49,s_ 51] (.app 1 8 (.int .i64 0)),m_ 53 [s_ 39,s_ 41] a1_,h_ [s_ 53,s_ 52] st]))) (.reg [i1_ 54 31,v_ 31 54]))))))) (.seq (sr_ [o1 55 2 f5_,o1 56 55 ld,o1 57 56 ln,z_ 58] (.block 2 (.loop (sr_ [o2 59 58 57 bls_] (.seq (ex_ 59 2) (.seq (.block 3 (sr_ [v_ 60 58,o2 61 56 58 a3_,o1 62 61 (.load true 3),o0 9 (.alloc (.agg [(.int .i64 0),.nilS,.nilS]) 3),v_ 8 60,n2 9 62 (.store 3)] (.grx [true,false,true,true,true,true,true,false,true,true,true,true,true,false,false,false,false,false,false] [m_ 63 [s_ 5] ld,m_ 64 [s_ 63] .nilCheck,m_ 65 [s_ 64] (.faddr false 8 1),m_ 66 [s_ 65] ld,m_ 67 [s_ 9] f0_,m_ 68 [s_ 67] ld,m_ 69 [s_ 5] ld,m_ 70 [s_ 69] .nilCheck,m_ 71 [s_ 70] (.faddr false 8 1),m_ 72 [s_ 71] ld,m_ 73 [s_ 9] f0_,m_ 74 [s_ 73] ld,m_ 75 [s_ 72,s_ 74] a1_,m_ 76 [s_ 75] ld,m_ 77 [s_ 8] .mv,m_ 78 [s_ 77] (.bslice 1 1 (.int .i64 0) [0]),m_ 79 [s_ 76,s_ 78] (.app 1 8 (.int .i64 0)),m_ 80 [s_ 66,s_ 68] a1_,h_ [s_ 80,s_ 79] st]))) (.reg [i1_ 81 58,v_ 58 81]))))))) (sr_ [o1 82 2 f2_,o1 83 82 ld,o2 84 83 83 (.mkSlice 1 1 (.bool false)),v_ 10 84] (.seq (sr_ [o1 85 2 f2_,o1 86 85 ld,z_ 87] (.block 4 (.loop (sr_ [o2 88 87 86 bls_] (.seq (ex_ 88 4) (.seq (.block 5 (sr_ [v_ 89 87,v_ 11 89] (.reg [o1 90 5 ld,v_ 91 11,v_ 92 10,k3 93 101 90 91 92]))) (.reg [i1_ 94 87,v_ 87 94]))))))) (.seq (.greg [o1 95 5 ld,v_ 96 1,o1 97 96 ln,i1_ 98 97,o1 99 2 f2_,o1 100 99 ld,o2 101 98 100 (.bin .mul),o2 102 101 101 (.mkSlice 1 1 (.bool false)),o1 103 95 .nilCheck,o1 104 103 (.faddr false 10 1),n2 104 102 st]) (.seq (.dtl [o1 105 5 ld,o1 106 105 .nilCheck,o1 107 106 (.faddr false 10 1),o1 108 107 ld,o1 109 2 f3_,o1 110 109 ld,o2 111 108 110 a1_] [h_ [s_ 111,k_ (.bool true)] st]) (.seq (sr_ [o0 12 (.alloc (.int .i64 0) 1),h_ [s_ 12,k_ (.int .i64 0)] st] (.block 6 (.loop (.seq (sr_ [o1 112 12 ld,v_ 113 1,o1 114 113 ln,o2 115 112 114 ble_] (ex_ 115 6)) (.seq (.block 7 (sr_ [o1 118 5 ld,o1 119 118 .nilCheck,o1 120 119 (.faddr false 9 1),o1 121 120 ld,k1 122 102 121] (.block 8 (.rng (.slot 122) [123,124] (.reg [v_ 14 124]) (.block 9 (.seq (.seq (.dreg [o1 125 5 ld,o1 126 125 .nilCheck,o1 127 126 (.faddr false 10 1),o1 128 127 ld,o1 129 12 ld,o1 130 2 f2_,o1 131 130 ld,o2 132 129 131 (.bin .mul),v_ 133 14,o2 134 132 133 bad_,o2 135 128 134 a1_,o1 136 135 ld,o1 137 136 nt]) (i_ 137 (.exit 9) .skip)) (sr_ [o1 138 5 ld,o1 139 138 .nilCheck,o1 140 139 (.faddr false 7 1),o1 141 140 ld,v_ 142 14,o2 143 141 142 a1_,o1 144 143 ld,o1 145 144 ln,z_ 146] (.block 10 (.loop (sr_ [o2 147 146 145 bls_] (.seq (ex_ 147 10) (.seq (.block 11 (sr_ [o2 148 144 146 a1_,o1 149 148 ld,v_ 16 149] (sr_ [o1 150 2 f4_,o1 151 150 ld,v_ 152 16,o2 153 151 152 a5_,o1 154 153 (.load true 5),o0 17 (.alloc (.agg [(.int .i64 0),(.int .i64 0),.nilS,(.int .i64 0),.nilS]) 5),n2 17 154 (.store 5)] (sr_ [o1 155 5 ld,o1 156 17 f2_,o1 157 156 ld,o1 158 12 ld,k3 159 65 155 157 158] (i_ 159 (.dtl [o1 160 5 ld,o1 161 160 .nilCheck,o1 162 161 (.faddr false 10 1),o1 163 162 ld,o1 164 12 ld,o1 165 17 f3_,o1 166 165 ld,o2 167 164 166 bad_,o1 168 2 f2_,o1 169 168 ld,o2 170 167 169 (.bin .mul),o1 171 17 f1_,o1 172 171 ld,o2 173 170 172 bad_,o2 174 163 173 a1_] [h_ [s_ 174,k_ (.bool true)] st]) .skip))))) (.reg [i1_ 175 146,v_ 146 175]))))))))))))) (.seq (sr_ [o1 176 12 ld] (.reg [o0 12 (.alloc (.int .i64 0) 1),n2 12 176 st])) (.reg [o1 116 12 ld,i1_ 117 116,n2 12 117 st]))))))) (sr_ [o1 177 5 ld,v_ 4 177] .ret))))))))))
theorem z1b:Ar Tryz.prog 60 2=some ⟨178,2,[(.slot 4)],Qb⟩:=by kernel_rfl
def Hn:AC:=(sr_ [v_ 7 0,o1 8 7 .nilCheck,o1 9 8 (.faddr false 6 1),o1 10 9 ld,o1 11 10 ln,v_ 4 11] (.block 0 (.loop (.seq (sr_ [v_ 12 4,c2 13 12 (.int .i64 0) bge_] (ex_ 13 0)) (.seq (.block 1 (sr_ [v_ 16 0,o1 17 16 .nilCheck,o1 18 17 (.faddr false 9 1),o1 19 18 ld,o1 20 19 ln,z_ 21] (.block 2 (.loop (sr_ [o2 22 21 20 bls_] (.seq (ex_ 22 2) (.seq (.block 3 (sr_ [o2 23 19 21 a1_,o1 24 23 ld,v_ 6 24] (.seq (.dreg [v_ 25 0,o1 26 25 .nilCheck,o1 27 26 (.faddr false 10 1),o1 28 27 ld,v_ 29 4,v_ 30 0,o1 31 30 .nilCheck,o1 32 31 (.faddr true 0 6),o1 33 32 f2_,o1 34 33 ld,o2 35 29 34 (.bin .mul),v_ 36 6,o2 37 35 36 bad_,o2 38 28 37 a1_,o1 39 38 ld]) (i_ 39 (.reg [v_ 40 1,v_ 41 4,v_ 42 6,o3 43 40 41 42 .call]) .skip)))) (.reg [i1_ 44 21,v_ 21 44])))))))) (.reg [v_ 14 4,c2 15 14 (.int .i64 1) bsu_,v_ 4 15]))))))
theorem Mz:Ar Tryz.prog 61 2=some ⟨45,2,[],Hn⟩:=by kernel_rfl
def I3:AC:=(.seq (sr_ [o1 19 2 ld] (i_ 19 .ret .skip)) (sr_ [ns_ 9] (.seq (sr_ [o1 20 3 ld,o1 21 20 .nilCheck,o1 22 21 (.faddr false 8 1),o1 23 22 ld,v_ 24 1,o2 25 23 24 a1_,o1 26 25 ld,o1 27 26 ln,z_ 28] (.block 0 (.loop (sr_ [o2 29 28 27 bls_] (.seq (ex_ 29 0) (.seq (.block 1 (sr_ [o2 30 26 28 a1_,o1 31 30 ld,v_ 11 31] (sr_ [o1 32 4 f5_,o1 33 32 ld,v_ 34 11,o2 35 33 34 a3_,o1 36 35 (.load true 3),o0 12 (.alloc (.agg [(.int .i64 0),.nilS,.nilS]) 3),n2 12 36 (.store 3)] (sr_ [o1 37 3 ld,o1 38 12 (.load true 3),v_ 39 0,k3 40 63 37 38 39] (i_ 40 (.reg [v_ 41 9,o1 42 3 ld,o1 43 12 f2_,o1 44 43 ld,v_ 45 0,o1 46 12 f1_,o1 47 46 ld,o1 48 47 ln,m_ 49 [k_ (.fn 64 []),s_ 42,s_ 44,s_ 45,s_ 48] .call,o1 50 49 (.bslice 1 1 .nilS [0]),o2 51 41 50 (.app 1 24 .nilS),v_ 9 51]) .skip))))) (.reg [i1_ 52 28,v_ 28 52]))))))) (.seq (sr_ [o1 53 3 ld,o1 54 53 .nilCheck,o1 55 54 (.faddr false 7 1),o1 56 55 ld,v_ 57 1,o2 58 56 57 a1_,o1 59 58 ld,o1 60 59 ln,z_ 61] (.block 2 (.loop (sr_ [o2 62 61 60 bls_] (.seq (ex_ 62 2) (.seq (.block 3 (sr_ [o2 63 59 61 a1_,o1 64 63 ld,v_ 14 64] (sr_ [o1 65 4 f4_,o1 66 65 ld,v_ 67 14,o2 68 66 67 a5_,o1 69 68 (.load true 5),o0 15 (.alloc (.agg [(.int .i64 0),(.int .i64 0),.nilS,(.int .i64 0),.nilS]) 5),n2 15 69 (.store 5)] (.seq (sr_ [o1 70 3 ld,o1 71 15 f2_,o1 72 71 ld,v_ 73 0,k3 74 65 70 72 73,o1 75 74 nt] (i_ 75 (.exit 3) .skip)) (sr_ [o1 76 3 ld,o1 77 15 f4_,o1 78 77 ld,v_ 79 0,o1 80 15 f2_,o1 81 80 ld,o1 82 81 ln,m_ 83 [k_ (.fn 64 []),s_ 76,s_ 78,s_ 79,s_ 82] .call,v_ 16 83] (sr_ [o1 84 5 ld,v_ 85 0,o1 86 15 f3_,o1 87 86 ld,o2 88 85 87 bad_,o1 89 4 f2_,o1 90 89 ld,o2 91 88 90 (.bin .mul),o1 92 15 f1_,o1 93 92 ld,o2 94 91 93 bad_,o2 95 84 94 a1_,o1 96 95 ld,o1 97 96 ln,z_ 98] (.block 4 (.loop (sr_ [o2 99 98 97 bls_] (.seq (ex_ 99 4) (.seq (.block 5 (sr_ [o2 100 96 98 a1_,o1 101 100 ld,v_ 18 101] (.reg [v_ 102 9,v_ 103 16,v_ 104 18,o2 105 103 104 (.bslice 1 2 .nilS [0,1]),k1 106 66 105,o1 107 106 (.bslice 1 1 .nilS [0]),o2 108 102 107 (.app 1 24 .nilS),v_ 9 108]))) (.reg [i1_ 109 98,v_ 98 109])))))))))))) (.reg [i1_ 110 61,v_ 61 110]))))))) (sr_ [v_ 111 9,k1 112 67 111,v_ 9 112] (sr_ [v_ 113 9,o1 114 113 ln,o1 115 6 ld,o2 116 114 115 bgt_,n2 2 116 st] (.reg [o1 117 5 ld,v_ 118 0,o1 119 4 f2_,o1 120 119 ld,o2 121 118 120 (.bin .mul),v_ 122 1,o2 123 121 122 bad_,v_ 124 9,o2 125 117 123 a1_,n2 125 124 st])))))))
theorem Qc:Ar Tryz.prog 62 7=some ⟨126,7,[],I3⟩:=by kernel_rfl
def Ho:AC:=(sr_ [o1 4 1 .box,bf_ 6] (.seq (.dtl [o1 7 4 f1_,o1 8 7 ld,o1 9 8 ln,v_ 10 0,o1 11 10 .nilCheck,o1 12 11 (.faddr false 6 1),o1 13 12 ld,o1 14 13 ln,v_ 15 2,o2 16 14 15 bsu_,o2 17 9 16 beq_,v_ 18 17,g1 19 18 0 .mv,g1 20 18 4 f1_,g1 21 18 20 ld,g1 22 18 2 .mv] [g_ 23 18 true [k_ (.fn 65 []),s_ 19,s_ 21,s_ 22] .call,m_ 24 [s_ 18,s_ 23,k_ (.bool false)] .pick,v_ 6 24]) .ret))
theorem M0:Ar Tryz.prog 63 3=some ⟨25,3,[(.slot 6)],Ho⟩:=by kernel_rfl
def Gu:AC:=(sr_ [ns_ 8] (sr_ [ns_ 9] (.seq (sr_ [v_ 14 1,o1 15 14 ln,z_ 16] (.block 0 (.loop (sr_ [o2 17 16 15 bls_] (.seq (ex_ 17 0) (.seq (.block 1 (sr_ [o2 18 14 16 a6_,o1 19 18 l6,o0 11 (.alloc (.agg [(.int .i64 0),(.int .i64 0),(.int .i64 0),(.int .i64 0),(.int .i64 0),.nilS]) 6),n2 11 19 (.store 6)] (.seq (.dreg [o1 21 11 l6,v_ 22 0,o1 23 22 .nilCheck,o1 24 23 (.faddr false 6 1),o1 25 24 ld,v_ 26 2,v_ 27 2,v_ 28 3,o2 29 27 28 bad_,o3 30 25 26 29 (.slice 1 true true false),k2 31 103 21 30,v_ 20 31,o1 32 20 (.extract 0),o1 33 20 (.extract 1),v_ 12 32,v_ 13 33]) (.reg [v_ 34 9,v_ 35 12,o1 36 35 (.conv .i32),o1 37 36 (.bslice 1 1 (.int .i32 0) [0]),o2 38 34 37 (.app 1 4 (.int .i32 0)),v_ 9 38])))) (.reg [i1_ 39 16,v_ 16 39]))))))) (sr_ [v_ 40 9,v_ 8 40] .ret))))
theorem Kx:Ar Tryz.prog 64 4=some ⟨41,4,[(.slot 8)],Gu⟩:=by kernel_rfl
def Hp:AC:=(sr_ [bf_ 6] (.seq (sr_ [v_ 9 1,o1 10 9 ln,v_ 11 0,o1 12 11 .nilCheck,o1 13 12 (.faddr false 6 1),o1 14 13 ld,o1 15 14 ln,v_ 16 2,o2 17 15 16 bsu_,o2 18 10 17 bgt_] (i_ 18 (sr_ [bf_ 6] .ret) .skip)) (.seq (sr_ [v_ 19 1,o1 20 19 ln,z_ 21] (.block 0 (.loop (sr_ [o2 22 21 20 bls_] (.seq (ex_ 22 0) (.seq (.block 1 (sr_ [v_ 23 21,o2 24 19 21 a1_,o1 25 24 ld,v_ 7 23,v_ 8 25] (sr_ [v_ 26 8,v_ 27 0,o1 28 27 .nilCheck,o1 29 28 (.faddr false 6 1),o1 30 29 ld,v_ 31 2,v_ 32 7,o2 33 31 32 bad_,o2 34 30 33 a1_,o1 35 34 ld,o1 36 35 (.conv .i64),k2 37 104 26 36,o1 38 37 nt] (i_ 38 (sr_ [bf_ 6] .ret) .skip)))) (.reg [i1_ 39 21,v_ 21 39]))))))) (sr_ [bt_ 6] .ret))))
theorem M1:Ar Tryz.prog 65 3=some ⟨40,3,[(.slot 6)],Hp⟩:=by kernel_rfl
def Df:AC:=(sr_ [ns_ 2] (sr_ [z_ 3] (.seq (sr_ [v_ 9 0,o1 10 9 ln,z_ 11] (.block 0 (.loop (sr_ [o2 12 11 10 bls_] (.seq (ex_ 12 0) (.seq (.block 1 (sr_ [o2 13 9 11 a1_,o1 14 13 ld,v_ 5 14] (sr_ [v_ 15 3,v_ 16 5,o1 17 16 ln,o2 18 15 17 bad_,v_ 3 18] (sr_ [v_ 19 3,c2 20 19 (.int .i64 0) bls_] (i_ 20 (.reg [c1 21 (.str [108,101,110,32,111,117,116,32,111,102,32,114,97,110,103,101]) .no,h_ [s_ 21] .no]) .skip))))) (.reg [i1_ 22 11,v_ 11 22]))))))) (sr_ [v_ 23 3,m_ 24 [k_ (.fn 105 []),k_ .nilS,s_ 23] .call,v_ 6 24] (.seq (sr_ [v_ 25 0,o1 26 25 ln,z_ 27] (.block 2 (.loop (sr_ [o2 28 27 26 bls_] (.seq (ex_ 28 2) (.seq (.block 3 (sr_ [o2 29 25 27 a1_,o1 30 29 ld,v_ 8 30] (.reg [v_ 31 6,v_ 32 8,o2 33 31 32 (.app 1 4 (.int .i32 0)),v_ 6 33]))) (.reg [i1_ 34 27,v_ 27 34]))))))) (sr_ [v_ 35 6,v_ 2 35] .ret))))))
theorem Ev:Ar Tryz.prog 66 1=some ⟨36,1,[(.slot 2)],Df⟩:=by kernel_rfl
def Qd:AC:=(sr_ [ns_ 2] (sr_ [v_ 6 0,o1 7 6 ln,o2 8 7 7 (.mkSlice 1 24 .nilS),v_ 3 8] (.seq (sr_ [v_ 9 0,o1 10 9 ln,z_ 11] (.block 0 (.loop (sr_ [o2 12 11 10 bls_] (.seq (ex_ 12 0) (.seq (.block 1 (sr_ [v_ 13 11,o2 14 9 11 a1_,o1 15 14 ld,v_ 4 13,v_ 5 15] (.reg [v_ 16 3,v_ 17 4,v_ 18 5,k1 19 106 18,o2 20 16 17 a1_,n2 20 19 st]))) (.reg [i1_ 21 11,v_ 11 21]))))))) (sr_ [v_ 22 3,m_ 23 [k_ (.fn 107 []),s_ 22,k_ (.fn 77 [])] .call] (sr_ [v_ 24 3,m_ 25 [k_ (.fn 108 []),s_ 24,k_ (.fn 109 [])] .call,v_ 2 25] .ret)))))
theorem z1c:Ar Tryz.prog 67 1=some ⟨26,1,[(.slot 2)],Qd⟩:=by kernel_rfl
def Qe:AC:=(sr_ [ns_ 4] (sr_ [v_ 10 0,o1 11 10 ln,z_ 5,v_ 6 11] (.seq (.block 0 (.loop (.seq (sr_ [v_ 12 5,v_ 13 6,o2 14 12 13 bls_] (ex_ 14 0)) (.block 1 (sr_ [v_ 15 5,v_ 16 6,o2 17 15 16 bad_,c2 18 17 (.int .i64 2) (.bin .quo),v_ 7 18] (sr_ [v_ 19 0,v_ 20 7,o2 21 19 20 a1_,o1 22 21 ld,v_ 23 1,k2 24 111 22 23,c2 25 24 (.int .i64 0) bls_] (i_ 25 (.reg [v_ 26 7,i1_ 27 26,v_ 5 27]) (.reg [v_ 28 7,v_ 6 28])))))))) (.seq (sr_ [v_ 29 5,v_ 30 0,o1 31 30 ln,o2 32 29 31 bls_,v_ 33 32,g1 34 33 0 .mv,g1 35 33 5 .mv,g2 36 33 34 35 a1_,g1 37 33 36 ld,g1 38 33 1 .mv,g_ 39 33 true [k_ (.fn 111 []),s_ 37,s_ 38] .call,g_ 40 33 true [s_ 39,k_ (.int .i64 0)] beq_,m_ 41 [s_ 33,s_ 40,k_ (.bool false)] .pick] (i_ 41 (sr_ [v_ 42 0,v_ 4 42] .ret) .skip)) (sr_ [ns_ 8] (.seq (sr_ [z_ 9] (.block 2 (.loop (.seq (sr_ [v_ 43 9,v_ 44 0,o1 45 44 ln,o2 46 43 45 bls_] (ex_ 46 2)) (.seq (.block 3 (.seq (sr_ [v_ 49 9,v_ 50 5,o2 51 49 50 beq_] (i_ 51 (.reg [v_ 52 8,v_ 53 1,o1 54 53 (.bslice 1 1 .nilS [0]),o2 55 52 54 (.app 1 24 .nilS),v_ 8 55]) .skip)) (.reg [v_ 56 8,v_ 57 0,v_ 58 9,o2 59 57 58 a1_,o1 60 59 ld,o1 61 60 (.bslice 1 1 .nilS [0]),o2 62 56 61 (.app 1 24 .nilS),v_ 8 62]))) (.reg [v_ 47 9,i1_ 48 47,v_ 9 48])))))) (.seq (sr_ [v_ 63 5,v_ 64 0,o1 65 64 ln,o2 66 63 65 beq_] (i_ 66 (.reg [v_ 67 8,v_ 68 1,o1 69 68 (.bslice 1 1 .nilS [0]),o2 70 67 69 (.app 1 24 .nilS),v_ 8 70]) .skip)) (sr_ [v_ 71 8,v_ 4 71] .ret))))))))
theorem z1d:Ar Tryz.prog 69 2=some ⟨72,2,[(.slot 4)],Qe⟩:=by kernel_rfl
def Lu:AC:=(sr_ [ns_ 2] (.seq (sr_ [v_ 3 0] (.block 0 (sr_ [c2 5 3 (.int .i64 1) beq_,v_ 4 5] (i_ 4 (sr_ [m_ 6 [k_ (.int .i64 0),k_ (.int .i64 255)] (.build [(.int .i64 0),(.int .i64 0)] [(0,1),(1,1)] [0,1]),o1 7 6 (.bslice 2 1 (.agg [(.int .i64 0),(.int .i64 0)]) [0]),v_ 2 7] .ret) (sr_ [c2 9 3 (.int .i64 2) beq_,v_ 8 9] (i_ 8 (sr_ [m_ 10 [k_ (.int .i64 0),k_ (.int .i64 55295)] (.build [(.int .i64 0),(.int .i64 0)] [(0,1),(1,1)] [0,1]),m_ 11 [k_ (.int .i64 57344),k_ (.int .i64 1114111)] (.build [(.int .i64 0),(.int .i64 0)] [(0,1),(1,1)] [0,1]),o2 12 10 11 (.bslice 2 2 (.agg [(.int .i64 0),(.int .i64 0)]) [0,1]),v_ 2 12] .ret) .skip)))))) (sr_ [ns_ 2] .ret)))
theorem Vq:Ar Tryz.prog 72 1=some ⟨13,1,[(.slot 2)],Lu⟩:=by kernel_rfl
def Qf:AC:=(sr_ [o0 4 (.alloc (.agg [(.int .i64 0),(.int .i64 0),(.int .i64 0),(.int .i64 0),(.int .i64 0),.nilS]) 6)] (sr_ [v_ 5 1,v_ 6 0,k1 7 113 6,o1 8 7 (.bslice 4 1 (.agg [(.int .i64 0),(.int .i64 0),(.int .i64 0),(.int .i64 0)]) [0]),m_ 9 [k_ (.int .i64 21),s_ 5,s_ 8] (.build [(.int .i64 0),(.int .i64 0),(.int .i64 0),(.int .i64 0),(.int .i64 0),.nilS] [(0,1),(1,1),(2,1),(3,1),(4,1),(5,1)] [2,4,5]),n2 4 9 (.store 6)] .ret))
theorem z1e:Ar Tryz.prog 73 2=some ⟨10,2,[(.cell 4 true 6)],Qf⟩:=by kernel_rfl
def To:AC:=(sr_ [bf_ 4] (.seq (sr_ [v_ 5 0,c2 6 5 (.int .i64 1) beq_] (i_ 6 (sr_ [v_ 7 1,m_ 8 [k_ (.int .i32 0),s_ 7] ble_,v_ 9 8,g1 10 9 1 .mv,g_ 11 9 true [s_ 10,k_ (.int .i32 256)] bls_,m_ 12 [s_ 9,s_ 11,k_ (.bool false)] .pick,v_ 4 12] .ret) .skip)) (sr_ [v_ 13 0,c2 14 13 (.int .i64 2) beq_,v_ 15 14,g1 16 15 1 .mv,g_ 17 15 true [k_ (.int .i32 0),s_ 16] ble_,m_ 18 [s_ 15,s_ 17,k_ (.bool false)] .pick,v_ 19 18,g1 20 19 1 .mv,g_ 21 19 true [s_ 20,k_ (.int .i32 1114112)] bls_,m_ 22 [s_ 19,s_ 21,k_ (.bool false)] .pick,v_ 23 22,g1 24 23 1 .mv,g_ 25 23 true [k_ (.int .i32 55296),s_ 24] ble_,g1 26 23 25 .mv,g1 27 26 1 .mv,g_ 28 26 true [s_ 27,k_ (.int .i32 57344)] bls_,g_ 29 23 true [s_ 26,s_ 28,k_ (.bool false)] .pick,g1 30 23 29 nt,m_ 31 [s_ 23,s_ 30,k_ (.bool false)] .pick,v_ 4 31] .ret)))
theorem z88:Ar Tryz.prog 74 2=some ⟨32,2,[(.slot 4)],To⟩:=by kernel_rfl
def J9:AC:=(sr_ [z_ 4] (sr_ [v_ 6 0,v_ 7 1,k2 8 114 6 7,v_ 5 8] (.seq (.block 0 (sr_ [v_ 10 5,v_ 11 0,o1 12 11 ln,o2 13 10 12 beq_,v_ 14 13,g1 15 14 5 .mv,g1 16 14 1 .mv,g1 17 14 16 ln,g2 18 14 15 17 beq_,m_ 19 [s_ 14,s_ 18,k_ (.bool false)] .pick,v_ 9 19] (i_ 9 (sr_ [z_ 4] .ret) (sr_ [v_ 21 5,v_ 22 0,o1 23 22 ln,o2 24 21 23 beq_,v_ 20 24] (i_ 20 (sr_ [c1 4 (.int .i64 (-1)) .mv] .ret) (sr_ [v_ 26 5,v_ 27 1,o1 28 27 ln,o2 29 26 28 beq_,v_ 25 29] (i_ 25 (sr_ [c1 4 (.int .i64 1) .mv] .ret) .skip))))))) (.seq (.dtl [v_ 30 0,v_ 31 5,o2 32 30 31 a1_,o1 33 32 ld,v_ 34 1,v_ 35 5,o2 36 34 35 a1_,o1 37 36 ld] [k2 38 115 33 37,v_ 4 38]) .ret))))
theorem Sf:Ar Tryz.prog 77 2=some ⟨39,2,[(.slot 4)],J9⟩:=by kernel_rfl
def Lv:AC:=(sr_ [ns_ 2] (sr_ [ns_ 3] (.seq (sr_ [v_ 6 0,o1 7 6 ln,z_ 8] (.block 0 (.loop (sr_ [o2 9 8 7 bls_] (.seq (ex_ 9 0) (.seq (.block 1 (sr_ [o2 10 6 8 a1_,o1 11 10 ld,v_ 5 11] (.reg [v_ 12 3,v_ 13 5,k1 14 95 13,o1 15 14 (.bslice 1 1 .nilS [0]),o2 16 12 15 (.app 1 24 .nilS),v_ 3 16]))) (.reg [i1_ 17 8,v_ 8 17]))))))) (sr_ [v_ 18 3,v_ 2 18] .ret))))
theorem Vr:Ar Tryz.prog 78 1=some ⟨19,1,[(.slot 2)],Lv⟩:=by kernel_rfl
def Nt:AC:=(sr_ [ns_ 2] (sr_ [ns_ 3] (.seq (sr_ [v_ 6 0,o1 7 6 ln,z_ 8] (.block 0 (.loop (sr_ [o2 9 8 7 bls_] (.seq (ex_ 9 0) (.seq (.block 1 (sr_ [o2 10 6 8 a6_,o1 11 10 l6,o0 5 (.alloc (.agg [(.int .i64 0),(.int .i64 0),(.int .i64 0),(.int .i64 0),(.int .i64 0),.nilS]) 6),n2 5 11 (.store 6)] (sr_ [o1 12 5 f5_,o1 13 12 ld,k1 14 97 13,o1 15 5 f5_,n2 15 14 st] (.reg [v_ 16 3,o1 17 5 l6,o1 18 17 (.bslice 6 1 (.agg [(.int .i64 0),(.int .i64 0),(.int .i64 0),(.int .i64 0),(.int .i64 0),.nilS]) [0]),o2 19 16 18 (.app 6 64 (.agg [(.int .i64 0),(.int .i64 0),(.int .i64 0),(.int .i64 0),(.int .i64 0),.nilS])),v_ 3 19])))) (.reg [i1_ 20 8,v_ 8 20]))))))) (sr_ [v_ 21 3,v_ 2 21] .ret))))
theorem Ys:Ar Tryz.prog 79 1=some ⟨22,1,[(.slot 2)],Nt⟩:=by kernel_rfl
def Nu:AC:=(sr_ [o1 1 0 .box,z_ 2,z_ 3] (.seq (sr_ [o1 8 1 l6,k1 9 117 8,o1 10 9 nt] (i_ 10 (sr_ [c1 2 (.int .i64 1) .mv,z_ 3] .ret) .skip)) (.seq (sr_ [o1 11 1 f4_,o1 12 11 ld,o1 13 12 ln,z_ 14] (.block 0 (.loop (sr_ [o2 15 14 13 bls_] (.seq (ex_ 15 0) (.seq (.block 1 (sr_ [v_ 16 14,o2 17 12 14 a5_,o1 18 17 (.load true 5),o0 5 (.alloc (.agg [(.int .i64 0),(.int .i64 0),.nilS,(.int .i64 0),.nilS]) 5),v_ 4 16,n2 5 18 (.store 5)] (sr_ [o1 19 1 l6,o1 20 5 (.load true 5),k2 21 118 19 20,o1 22 21 nt] (i_ 22 (sr_ [v_ 23 4,c1 2 (.int .i64 2) .mv,v_ 3 23] .ret) .skip)))) (.reg [i1_ 24 14,v_ 14 24]))))))) (.seq (sr_ [o1 25 1 f5_,o1 26 25 ld,o1 27 26 ln,z_ 28] (.block 2 (.loop (sr_ [o2 29 28 27 bls_] (.seq (ex_ 29 2) (.seq (.block 3 (sr_ [v_ 30 28,o2 31 26 28 a3_,o1 32 31 (.load true 3),o0 7 (.alloc (.agg [(.int .i64 0),.nilS,.nilS]) 3),v_ 6 30,n2 7 32 (.store 3)] (sr_ [o1 33 1 l6,o1 34 7 f0_,o1 35 34 ld,k2 36 119 33 35,o1 37 36 nt,v_ 38 37,g_ 39 38 false [s_ 1] f0_,g_ 40 38 false [s_ 39] ld,g_ 41 38 false [s_ 7] f1_,g_ 42 38 false [s_ 41] ld,g_ 43 38 false [k_ (.fn 120 []),s_ 40,s_ 42] .call,g_ 44 38 false [s_ 43] nt,m_ 45 [s_ 38,k_ (.bool true),s_ 44] .pick,v_ 46 45,g_ 47 46 false [s_ 1] l6,g_ 48 46 false [s_ 7] f2_,g_ 49 46 false [s_ 48] ld,g_ 50 46 false [s_ 7] f1_,g_ 51 46 false [s_ 50] ld,g_ 52 46 false [k_ (.fn 121 []),s_ 47,s_ 49,s_ 51] .call,g_ 53 46 false [s_ 52] nt,m_ 54 [s_ 46,k_ (.bool true),s_ 53] .pick] (i_ 54 (sr_ [v_ 55 6,c1 2 (.int .i64 3) .mv,v_ 3 55] .ret) .skip)))) (.reg [i1_ 56 28,v_ 28 56]))))))) (.seq (sr_ [o1 57 1 l6,k1 58 122 57] (i_ 58 (sr_ [c1 2 (.int .i64 4) .mv,z_ 3] .ret) .skip)) (sr_ [z_ 2,z_ 3] .ret))))))
theorem Yt:Ar Tryz.prog 82 1=some ⟨59,1,[(.slot 2),(.slot 3)],Nu⟩:=by kernel_rfl
end Go.Proofs.YtbcjoeadpjfcfaaGreat
set_option maxRecDepth 100000
namespace Go.Proofs.YtbcjoeadpjfcfaaGreat
open Abs
def Bw:AC:=(sr_ [ns_ 2] (.seq (sr_ [v_ 3 0,c2 4 3 .nilS (.eqn false)] (i_ 4 (sr_ [ns_ 2] .ret) .skip)) (sr_ [o0 5 (.bslice 2 0 (.agg [(.int .i64 0),(.int .i64 0)]) []),v_ 6 0,o2 7 5 6 (.app 2 16 (.agg [(.int .i64 0),(.int .i64 0)])),v_ 2 7] .ret)))
theorem Ch:Ar Tryz.prog 95 1=some ⟨8,1,[(.slot 2)],Bw⟩:=by kernel_rfl
def By:AC:=(sr_ [ns_ 2] (.seq (sr_ [v_ 3 0,c2 4 3 .nilS (.eqn false)] (i_ 4 (sr_ [ns_ 2] .ret) .skip)) (sr_ [o0 5 (.bslice 4 0 (.agg [(.int .i64 0),(.int .i64 0),(.int .i64 0),(.int .i64 0)]) []),v_ 6 0,o2 7 5 6 (.app 4 32 (.agg [(.int .i64 0),(.int .i64 0),(.int .i64 0),(.int .i64 0)])),v_ 2 7] .ret)))
theorem Ci:Ar Tryz.prog 97 1=some ⟨8,1,[(.slot 2)],By⟩:=by kernel_rfl
def Qg:AC:=(sr_ [bf_ 4] (.seq (sr_ [v_ 7 1,o1 8 7 ln,z_ 9] (.block 0 (.loop (sr_ [o2 10 9 8 bls_] (.seq (ex_ 10 0) (.seq (.block 1 (sr_ [o2 11 7 9 a1_,o1 12 11 ld,v_ 6 12] (sr_ [v_ 13 0,v_ 14 6,k2 15 133 13 14,o1 16 15 nt] (i_ 16 (sr_ [bf_ 4] .ret) .skip)))) (.reg [i1_ 17 9,v_ 9 17]))))))) (sr_ [bt_ 4] .ret)))
theorem z1f:Ar Tryz.prog 100 2=some ⟨18,2,[(.slot 4)],Qg⟩:=by kernel_rfl
def Hq:AC:=(.seq (sr_ [v_ 9 2,v_ 10 1,o2 11 9 10 a1_,o1 12 11 ld] (i_ 12 .ret .skip)) (sr_ [v_ 13 2,v_ 14 1,o2 15 13 14 a1_,h_ [s_ 15,k_ (.bool true)] st] (.seq (sr_ [v_ 16 0,o1 17 16 .nilCheck,o1 18 17 (.faddr false 7 1),o1 19 18 ld,v_ 20 1,o2 21 19 20 a1_,o1 22 21 ld,o1 23 22 ln,z_ 24] (.block 0 (.loop (sr_ [o2 25 24 23 bls_] (.seq (ex_ 25 0) (.seq (.block 1 (sr_ [o2 26 22 24 a1_,o1 27 26 ld,v_ 7 27] (sr_ [v_ 28 0,o1 29 28 .nilCheck,o1 30 29 (.faddr true 0 6),o1 31 30 f4_,o1 32 31 ld,v_ 33 7,o2 34 32 33 a5_,o1 35 34 (.load true 5),o0 8 (.alloc (.agg [(.int .i64 0),(.int .i64 0),.nilS,(.int .i64 0),.nilS]) 5),n2 8 35 (.store 5)] (sr_ [o1 36 8 f2_,o1 37 36 ld,o1 38 37 ln,c2 39 38 (.int .i64 0) beq_] (i_ 39 (.reg [v_ 40 0,o1 41 8 f1_,o1 42 41 ld,v_ 43 2,k3 44 101 40 42 43]) .skip))))) (.reg [i1_ 45 24,v_ 24 45]))))))) (.reg [v_ 46 0,v_ 47 0,o1 48 47 .nilCheck,o1 49 48 (.faddr false 9 1),o1 50 49 ld,v_ 51 1,o1 52 51 (.bslice 1 1 (.int .i64 0) [0]),o2 53 50 52 (.app 1 8 (.int .i64 0)),o1 54 46 .nilCheck,o1 55 54 (.faddr false 9 1),n2 55 53 st]))))
theorem M2:Ar Tryz.prog 101 3=some ⟨56,3,[],Hq⟩:=by kernel_rfl
def Ew:AC:=(sr_ [o1 1 0 .box,c1 2 .nilF .mv] (sr_ [o1 3 1 (.mkFunc 134),v_ 2 3] .ret))
theorem Hb:Ar Tryz.prog 102 1=some ⟨4,1,[(.slot 2)],Ew⟩:=by kernel_rfl
def Nv:AC:=(sr_ [o1 2 0 .box,z_ 4,bf_ 5] (.seq (sr_ [v_ 15 1,o1 16 15 ln,z_ 17] (.block 0 (.loop (sr_ [o2 18 17 16 bls_] (.seq (ex_ 18 0) (.seq (.block 1 (sr_ [o2 19 15 17 a1_,o1 20 19 ld,v_ 7 20] (sr_ [v_ 21 7,c2 22 21 (.int .i32 0) bls_,v_ 23 22,g_ 24 23 false [s_ 7] .mv,g_ 25 23 false [s_ 24,k_ (.int .i32 1114111)] bgt_,m_ 26 [s_ 23,k_ (.bool true),s_ 25] .pick] (i_ 26 (sr_ [z_ 4,bf_ 5] .ret) .skip)))) (.reg [i1_ 27 17,v_ 17 27]))))))) (sr_ [o1 28 2 f4_,o1 29 28 ld,v_ 8 29] (.seq (sr_ [o1 30 2 f5_,o1 31 30 ld,o1 32 31 ln,z_ 33] (.block 2 (.loop (sr_ [o2 34 33 32 bls_] (.seq (ex_ 34 2) (.seq (.block 3 (sr_ [o2 35 31 33 a4_,o1 36 35 (.load true 4),o0 10 (.alloc (.agg [(.int .i64 0),(.int .i64 0),(.int .i64 0),(.int .i64 0)]) 4),n2 10 36 (.store 4)] (.seq (sr_ [o1 37 10 (.load true 4),v_ 38 1,o1 39 38 ln,k2 40 135 37 39,o1 41 40 nt] (i_ 41 (sr_ [z_ 4,bf_ 5] .ret) .skip)) (.seq (.dreg [o1 43 10 (.load true 4),v_ 44 1,o1 45 10 f0_,o1 46 45 ld,o2 47 44 46 a1_,o1 48 47 ld,o1 49 48 (.conv .i64),k2 50 136 43 49,v_ 42 50,o1 51 42 (.extract 0),o1 52 42 (.extract 1),v_ 11 51,v_ 12 52]) (.reg [v_ 53 8,v_ 54 11,o2 55 53 54 bad_,v_ 8 55]))))) (.reg [i1_ 56 33,v_ 33 56]))))))) (.seq (sr_ [v_ 57 8,c2 58 57 (.int .i64 1114111) bgt_] (i_ 58 (sr_ [z_ 4,bf_ 5] .ret) .skip)) (sr_ [o1 60 2 l6,k1 61 137 60,v_ 62 8,k2 63 136 61 62,v_ 59 63,o1 64 59 (.extract 0),o1 65 59 (.extract 1),v_ 13 64,v_ 14 65] (.seq (sr_ [v_ 66 14,o1 67 66 nt] (i_ 67 (sr_ [z_ 4,bf_ 5] .ret) .skip)) (sr_ [o1 68 2 f0_,o1 69 68 ld,v_ 70 13,o2 71 69 70 bad_,v_ 4 71,bt_ 5] .ret))))))))
theorem Yu:Ar Tryz.prog 103 2=some ⟨72,2,[(.slot 4),(.slot 5)],Nv⟩:=by kernel_rfl
def Tp:AC:=(sr_ [bf_ 4] (.seq (sr_ [v_ 7 1,c2 8 7 (.int .i64 (-1073741824)) bls_,v_ 9 8,g_ 10 9 false [s_ 1] .mv,g_ 11 9 false [s_ 10,k_ (.int .i64 1073741824)] bgt_,m_ 12 [s_ 9,k_ (.bool true),s_ 11] .pick] (i_ 12 (sr_ [bf_ 4] .ret) .skip)) (.seq (sr_ [v_ 13 0,o1 14 13 ln,z_ 15] (.block 0 (.loop (sr_ [o2 16 15 14 bls_] (.seq (ex_ 16 0) (.seq (.block 1 (sr_ [o2 17 13 15 a2_,o1 18 17 (.load true 2),o0 6 (.alloc (.agg [(.int .i64 0),(.int .i64 0)]) 2),n2 6 18 (.store 2)] (sr_ [v_ 19 1,o1 20 6 f0_,o1 21 20 ld,o2 22 19 21 bge_,v_ 23 22,g1 24 23 1 .mv,g1 25 23 6 f1_,g1 26 23 25 ld,g2 27 23 24 26 ble_,m_ 28 [s_ 23,s_ 27,k_ (.bool false)] .pick] (i_ 28 (sr_ [bt_ 4] .ret) .skip)))) (.reg [i1_ 29 15,v_ 15 29]))))))) (sr_ [bf_ 4] .ret))))
theorem z89:Ar Tryz.prog 104 2=some ⟨30,2,[(.slot 4)],Tp⟩:=by kernel_rfl
def Dy:AC:=(sr_ [ns_ 4] (.seq (sr_ [v_ 5 1,c2 6 5 (.int .i64 0) bls_] (i_ 6 (.reg [c1 7 (.str [99,97,110,110,111,116,32,98,101,32,110,101,103,97,116,105,118,101]) .no,h_ [s_ 7] .no]) .skip)) (.seq (sr_ [v_ 8 1,v_ 9 0,o1 10 9 .cap,v_ 11 0,o1 12 11 ln,o2 13 10 12 bsu_,o2 14 8 13 bsu_,v_ 1 14] (sr_ [v_ 15 1,c2 16 15 (.int .i64 0) bgt_] (i_ 16 (.reg [v_ 17 0,v_ 18 0,o1 19 18 .cap,o2 20 17 19 (.slice 1 false true false),v_ 21 1,o2 22 20 21 (.appZ 1 4 (.int .i32 0)),v_ 23 0,o1 24 23 ln,o2 25 22 24 (.slice 1 false true false),v_ 0 25]) .skip))) (sr_ [v_ 26 0,v_ 4 26] .ret))))
theorem Fg:Ar Tryz.prog 105 2=some ⟨27,2,[(.slot 4)],Dy⟩:=by kernel_rfl
def Ct:AC:=(sr_ [ns_ 2] (.seq (sr_ [v_ 3 0,c2 4 3 .nilS (.eqn false)] (i_ 4 (sr_ [ns_ 2] .ret) .skip)) (sr_ [o0 5 (.bslice 1 0 (.int .i32 0) []),v_ 6 0,o2 7 5 6 (.app 1 4 (.int .i32 0)),v_ 2 7] .ret)))
theorem Dn:Ar Tryz.prog 106 1=some ⟨8,1,[(.slot 2)],Ct⟩:=by kernel_rfl
def D2:AC:=(sr_ [v_ 5 0,o1 6 5 ln,v_ 4 6] (.reg [v_ 7 0,v_ 8 4,v_ 9 4,o1 10 9 (.conv .u64),k1 11 139 10,v_ 12 1,m_ 13 [k_ (.fn 138 []),s_ 7,k_ (.int .i64 0),s_ 8,s_ 11,s_ 12] .call]))
theorem Gb:Ar Tryz.prog 107 2=some ⟨14,2,[],D2⟩:=by kernel_rfl
def Dh:AC:=(sr_ [ns_ 4] (.seq (sr_ [v_ 8 0,o1 9 8 ln,c2 10 9 (.int .i64 2) bls_] (i_ 10 (sr_ [v_ 11 0,v_ 4 11] .ret) .skip)) (.seq (sr_ [c1 5 (.int .i64 1) .mv] (.block 0 (.loop (.seq (sr_ [v_ 12 5,v_ 13 0,o1 14 13 ln,o2 15 12 14 bls_] (ex_ 15 0)) (.seq (.block 1 (.seq (.dtl [v_ 18 1,v_ 19 0,v_ 20 5,o2 21 19 20 a1_,o1 22 21 ld,v_ 23 0,v_ 24 5,c2 25 24 (.int .i64 1) bsu_,o2 26 23 25 a1_,o1 27 26 ld] [o3 28 18 22 27 .call]) (i_ 28 (sr_ [v_ 29 0,v_ 30 5,o2 31 29 30 (.slice 1 true false false),v_ 6 31] (.seq (sr_ [c1 7 (.int .i64 1) .mv] (.block 2 (.loop (.seq (sr_ [v_ 32 7,v_ 33 6,o1 34 33 ln,o2 35 32 34 bls_] (ex_ 35 2)) (.seq (.block 3 (.seq (.dtl [v_ 38 1,v_ 39 6,v_ 40 7,o2 41 39 40 a1_,o1 42 41 ld,v_ 43 6,v_ 44 7,c2 45 44 (.int .i64 1) bsu_,o2 46 43 45 a1_,o1 47 46 ld] [o3 48 38 42 47 .call,o1 49 48 nt]) (i_ 49 (sr_ [v_ 50 0,v_ 51 5,v_ 52 6,v_ 53 7,o2 54 52 53 a1_,o1 55 54 ld,o2 56 50 51 a1_,n2 56 55 st] (.reg [v_ 57 5,i1_ 58 57,v_ 5 58])) .skip))) (.reg [v_ 36 7,i1_ 37 36,v_ 7 37])))))) (sr_ [v_ 59 0,v_ 60 5,o2 61 59 60 (.slice 1 true false false),h_ [s_ 61] (.clr 1 .nilS)] (sr_ [v_ 62 0,v_ 63 5,o2 64 62 63 (.slice 1 false true false),v_ 4 64] .ret)))) .skip))) (.reg [v_ 16 5,i1_ 17 16,v_ 5 17])))))) (sr_ [v_ 65 0,v_ 4 65] .ret))))
theorem Fo:Ar Tryz.prog 108 2=some ⟨66,2,[(.slot 4)],Dh⟩:=by kernel_rfl
def Lw:AC:=(sr_ [bf_ 4] (sr_ [v_ 5 0,v_ 6 1,k2 7 77 5 6,c2 8 7 (.int .i64 0) beq_,v_ 4 8] .ret))
theorem Vs:Ar Tryz.prog 109 2=some ⟨9,2,[(.slot 4)],Lw⟩:=by kernel_rfl
def I4:AC:=(sr_ [z_ 4] (sr_ [v_ 6 0,v_ 7 1,k2 8 140 6 7,v_ 5 8] (.seq (sr_ [v_ 9 5,v_ 10 0,o1 11 10 ln,o2 12 9 11 bls_,v_ 13 12,g1 14 13 5 .mv,g1 15 13 1 .mv,g1 16 13 15 ln,g2 17 13 14 16 bls_,m_ 18 [s_ 13,s_ 17,k_ (.bool false)] .pick] (i_ 18 (.seq (.seq (.dreg [v_ 19 0,v_ 20 5,o2 21 19 20 a1_,o1 22 21 ld,v_ 23 1,v_ 24 5,o2 25 23 24 a1_,o1 26 25 ld,o2 27 22 26 bls_]) (i_ 27 (sr_ [c1 4 (.int .i64 (-1)) .mv] .ret) .skip)) (sr_ [c1 4 (.int .i64 1) .mv] .ret)) .skip)) (.seq (sr_ [v_ 28 0,o1 29 28 ln,v_ 30 1,o1 31 30 ln,o2 32 29 31 bls_] (i_ 32 (sr_ [c1 4 (.int .i64 (-1)) .mv] .ret) .skip)) (.seq (sr_ [v_ 33 0,o1 34 33 ln,v_ 35 1,o1 36 35 ln,o2 37 34 36 bgt_] (i_ 37 (sr_ [c1 4 (.int .i64 1) .mv] .ret) .skip)) (sr_ [z_ 4] .ret))))))
theorem Qh:Ar Tryz.prog 111 2=some ⟨38,2,[(.slot 4)],I4⟩:=by kernel_rfl
def Nw:AC:=(sr_ [o0 2 (.alloc (.agg [(.int .i64 0),(.int .i64 0),(.int .i64 0),(.int .i64 0)]) 4)] (sr_ [v_ 3 0,c2 4 3 (.int .i64 21) (.build [(.int .i64 0),(.int .i64 0),(.int .i64 0),(.int .i64 0)] [(0,1),(1,1),(2,1),(3,1)] [0,2]),n2 2 4 (.store 4)] .ret))
theorem Yv:Ar Tryz.prog 113 1=some ⟨5,1,[(.cell 2 true 4)],Nw⟩:=by kernel_rfl
def Nx:AC:=(sr_ [z_ 4] (sr_ [z_ 5] (.seq (.block 0 (.loop (.seq (.seq (.dreg [v_ 6 5,v_ 7 0,o1 8 7 ln,o2 9 6 8 bls_,v_ 10 9,g1 11 10 5 .mv,g1 12 10 1 .mv,g1 13 10 12 ln,g2 14 10 11 13 bls_,m_ 15 [s_ 10,s_ 14,k_ (.bool false)] .pick,v_ 16 15,g1 17 16 0 .mv,g1 18 16 5 .mv,g2 19 16 17 18 a1_,g1 20 16 19 ld,g1 21 16 1 .mv,g1 22 16 5 .mv,g2 23 16 21 22 a1_,g1 24 16 23 ld,g2 25 16 20 24 beq_,m_ 26 [s_ 16,s_ 25,k_ (.bool false)] .pick]) (ex_ 26 0)) (.block 1 (.reg [v_ 27 5,i1_ 28 27,v_ 5 28]))))) (sr_ [v_ 29 5,v_ 4 29] .ret))))
theorem Yw:Ar Tryz.prog 114 2=some ⟨30,2,[(.slot 4)],Nx⟩:=by kernel_rfl
def G6:AC:=(sr_ [z_ 4] (sr_ [v_ 7 0,k1 8 144 7,v_ 5 8] (sr_ [v_ 9 1,k1 10 144 9,v_ 6 10] (.seq (sr_ [v_ 11 5] (i_ 11 (.seq (sr_ [v_ 12 6] (i_ 12 (sr_ [z_ 4] .ret) .skip)) (sr_ [c1 4 (.int .i64 (-1)) .mv] .ret)) .skip)) (.seq (sr_ [v_ 13 6] (i_ 13 (sr_ [c1 4 (.int .i64 1) .mv] .ret) .skip)) (.seq (sr_ [v_ 14 0,v_ 15 1,o2 16 14 15 bls_] (i_ 16 (sr_ [c1 4 (.int .i64 (-1)) .mv] .ret) .skip)) (.seq (sr_ [v_ 17 0,v_ 18 1,o2 19 17 18 bgt_] (i_ 19 (sr_ [c1 4 (.int .i64 1) .mv] .ret) .skip)) (sr_ [z_ 4] .ret))))))))
theorem Lx:Ar Tryz.prog 115 2=some ⟨20,2,[(.slot 4)],G6⟩:=by kernel_rfl
def Qi:AC:=(sr_ [o1 1 0 .box,bf_ 2] (sr_ [o1 3 1 f0_,o1 4 3 ld,k1 5 72 4,o1 6 5 ln,c2 7 6 (.int .i64 0) bgt_,v_ 8 7,g1 9 8 1 f1_,g1 10 8 9 ld,g_ 11 8 true [k_ (.fn 72 []),s_ 10] .call,g1 12 8 11 ln,g_ 13 8 true [s_ 12,k_ (.int .i64 0)] bgt_,m_ 14 [s_ 8,s_ 13,k_ (.bool false)] .pick,v_ 15 14,g1 16 15 1 f2_,g1 17 15 16 ld,g_ 18 15 true [s_ 17,k_ (.int .i64 1)] bge_,m_ 19 [s_ 15,s_ 18,k_ (.bool false)] .pick,v_ 20 19,g1 21 20 1 f2_,g1 22 20 21 ld,g_ 23 20 true [s_ 22,k_ (.int .i64 1024)] ble_,m_ 24 [s_ 20,s_ 23,k_ (.bool false)] .pick,v_ 25 24,g1 26 25 1 l6,g1 27 25 1 f3_,g1 28 25 27 ld,g_ 29 25 true [k_ (.fn 119 []),s_ 26,s_ 28] .call,m_ 30 [s_ 25,s_ 29,k_ (.bool false)] .pick,v_ 31 30,g1 32 31 1 f4_,g1 33 31 32 ld,g1 34 31 33 ln,g_ 35 31 true [s_ 34,k_ (.int .i64 4096)] ble_,m_ 36 [s_ 31,s_ 35,k_ (.bool false)] .pick,v_ 37 36,g1 38 37 1 f5_,g1 39 37 38 ld,g1 40 37 39 ln,g_ 41 37 true [s_ 40,k_ (.int .i64 4096)] ble_,m_ 42 [s_ 37,s_ 41,k_ (.bool false)] .pick,v_ 2 42] .ret))
theorem z1g:Ar Tryz.prog 117 1=some ⟨43,1,[(.slot 2)],Qi⟩:=by kernel_rfl
def Qj:AC:=(sr_ [o1 2 0 .box,o1 3 1 .box,bf_ 4] (sr_ [o1 6 3 f2_,o1 7 6 ld,o1 8 7 ln,v_ 5 8] (.seq (sr_ [o1 9 2 l6,o1 10 3 f0_,o1 11 10 ld,k2 12 119 9 11,o1 13 12 nt,v_ 14 13,g_ 15 14 false [s_ 2] l6,g_ 16 14 false [s_ 3] f1_,g_ 17 14 false [s_ 16] ld,g_ 18 14 false [k_ (.fn 119 []),s_ 15,s_ 17] .call,g_ 19 14 false [s_ 18] nt,m_ 20 [s_ 14,k_ (.bool true),s_ 19] .pick,v_ 21 20,g_ 22 21 false [s_ 2] f0_,g_ 23 21 false [s_ 22] ld,g_ 24 21 false [s_ 3] f2_,g_ 25 21 false [s_ 24] ld,g_ 26 21 false [k_ (.fn 120 []),s_ 23,s_ 25] .call,g_ 27 21 false [s_ 26] nt,m_ 28 [s_ 21,k_ (.bool true),s_ 27] .pick,v_ 29 28,g_ 30 29 false [s_ 3] f3_,g_ 31 29 false [s_ 30] ld,g_ 32 29 false [s_ 5] .mv,g_ 33 29 false [s_ 32,k_ (.int .i64 1)] .min,g_ 34 29 false [s_ 31,s_ 33] bls_,m_ 35 [s_ 29,k_ (.bool true),s_ 34] .pick,v_ 36 35,g_ 37 36 false [s_ 3] f3_,g_ 38 36 false [s_ 37] ld,g_ 39 36 false [s_ 5] .mv,g_ 40 36 false [s_ 38,s_ 39] bgt_,m_ 41 [s_ 36,k_ (.bool true),s_ 40] .pick] (i_ 41 (sr_ [bf_ 4] .ret) .skip)) (sr_ [o1 42 2 l6,o1 43 3 f4_,o1 44 43 ld,o1 45 3 f2_,o1 46 45 ld,k3 47 121 42 44 46,v_ 4 47] .ret))))
theorem z1h:Ar Tryz.prog 118 2=some ⟨48,2,[(.slot 4)],Qj⟩:=by kernel_rfl
def Ny:AC:=(sr_ [o1 2 0 .box,bf_ 4] (sr_ [v_ 5 1,c2 6 5 (.int .i64 0) bge_,v_ 7 6,g1 8 7 1 .mv,g1 9 7 2 f2_,g1 10 7 9 ld,g2 11 7 8 10 bls_,m_ 12 [s_ 7,s_ 11,k_ (.bool false)] .pick,v_ 4 12] .ret))
theorem Yx:Ar Tryz.prog 119 2=some ⟨13,2,[(.slot 4)],Ny⟩:=by kernel_rfl
def Ly:AC:=(sr_ [bf_ 4] (.seq (sr_ [v_ 8 1,o1 9 8 ln,c2 10 9 (.int .i64 4) bgt_] (i_ 10 (sr_ [bf_ 4] .ret) .skip)) (sr_ [v_ 11 0,k1 12 72 11,v_ 5 12] (.seq (sr_ [v_ 13 1,o1 14 13 ln,z_ 15] (.block 0 (.loop (sr_ [o2 16 15 14 bls_] (.seq (ex_ 16 0) (.seq (.block 1 (sr_ [o2 17 13 15 a1_,o1 18 17 ld,v_ 7 18] (sr_ [v_ 19 7,o1 20 19 ln,c2 21 20 (.int .i64 0) beq_,v_ 22 21,g_ 23 22 false [s_ 7] .mv,g_ 24 22 false [s_ 23] ln,g_ 25 22 false [s_ 24,k_ (.int .i64 64)] bgt_,m_ 26 [s_ 22,k_ (.bool true),s_ 25] .pick,v_ 27 26,g_ 28 27 false [s_ 7] .mv,g_ 29 27 false [k_ (.fn 145 []),s_ 28] .call,g_ 30 27 false [s_ 29] nt,m_ 31 [s_ 27,k_ (.bool true),s_ 30] .pick,v_ 32 31,g_ 33 32 false [s_ 7] .mv,g_ 34 32 false [s_ 5] .mv,g_ 35 32 false [k_ (.fn 146 []),s_ 33,s_ 34] .call,g_ 36 32 false [s_ 35] nt,m_ 37 [s_ 32,k_ (.bool true),s_ 36] .pick] (i_ 37 (sr_ [bf_ 4] .ret) .skip)))) (.reg [i1_ 38 15,v_ 15 38]))))))) (sr_ [bt_ 4] .ret)))))
theorem Vt:Ar Tryz.prog 120 2=some ⟨39,2,[(.slot 4)],Ly⟩:=by kernel_rfl
def Lz:AC:=(sr_ [o1 3 0 .box,bf_ 6] (.seq (sr_ [v_ 9 1,o1 10 9 ln,c2 11 10 (.int .i64 64) bgt_] (i_ 11 (sr_ [bf_ 6] .ret) .skip)) (.seq (sr_ [v_ 12 1,o1 13 12 ln,z_ 14] (.block 0 (.loop (sr_ [o2 15 14 13 bls_] (.seq (ex_ 15 0) (.seq (.block 1 (sr_ [o2 16 12 14 a6_,o1 17 16 l6,o0 8 (.alloc (.agg [(.int .i64 0),(.int .i64 0),(.int .i64 0),(.int .i64 0),(.int .i64 0),.nilS]) 6),n2 8 17 (.store 6)] (sr_ [o1 18 8 l6,o1 19 3 f0_,o1 20 19 ld,o1 21 3 f1_,o1 22 21 ld,v_ 23 2,m_ 24 [k_ (.fn 147 []),s_ 18,s_ 20,s_ 22,s_ 23] .call,o1 25 24 nt] (i_ 25 (sr_ [bf_ 6] .ret) .skip)))) (.reg [i1_ 26 14,v_ 14 26]))))))) (sr_ [bt_ 6] .ret))))
theorem Vu:Ar Tryz.prog 121 3=some ⟨27,3,[(.slot 6)],Lz⟩:=by kernel_rfl
def Nz:AC:=(sr_ [o1 1 0 .box,bf_ 2] (sr_ [o1 14 1 f2_,o1 15 14 ld,o2 16 15 15 (.mkSlice 1 24 .nilS),v_ 3 16] (sr_ [o1 17 1 f2_,o1 18 17 ld,o2 19 18 18 (.mkSlice 1 8 (.int .i64 0)),v_ 4 19] (.seq (sr_ [o1 20 1 f4_,o1 21 20 ld,o1 22 21 ln,z_ 23] (.block 0 (.loop (sr_ [o2 24 23 22 bls_] (.seq (ex_ 24 0) (.seq (.block 1 (sr_ [o2 25 21 23 a5_,o1 26 25 (.load true 5),o0 6 (.alloc (.agg [(.int .i64 0),(.int .i64 0),.nilS,(.int .i64 0),.nilS]) 5),n2 6 26 (.store 5)] (sr_ [o1 27 6 f2_,o1 28 27 ld,o1 29 28 ln,c2 30 29 (.int .i64 0) beq_] (i_ 30 (.seq (.grx [false,true,true,false,true,true,true,false,true,true,false,false,false,false] [m_ 31 [s_ 3] .mv,m_ 32 [s_ 6] f0_,m_ 33 [s_ 32] ld,m_ 34 [s_ 3] .mv,m_ 35 [s_ 6] f0_,m_ 36 [s_ 35] ld,m_ 37 [s_ 34,s_ 36] a1_,m_ 38 [s_ 37] ld,m_ 39 [s_ 6] f1_,m_ 40 [s_ 39] ld,m_ 41 [s_ 40] (.bslice 1 1 (.int .i64 0) [0]),m_ 42 [s_ 38,s_ 41] (.app 1 8 (.int .i64 0)),m_ 43 [s_ 31,s_ 33] a1_,h_ [s_ 43,s_ 42] st]) (.reg [v_ 44 4,o1 45 6 f1_,o1 46 45 ld,o2 47 44 46 a1_,o1 48 47 ld,i1_ 49 48,o2 50 44 46 a1_,n2 50 49 st])) .skip)))) (.reg [i1_ 51 23,v_ 23 51]))))))) (sr_ [ns_ 7] (.seq (sr_ [v_ 52 4,o1 53 52 ln,z_ 54] (.block 2 (.loop (sr_ [o2 55 54 53 bls_] (.seq (ex_ 55 2) (.seq (.block 3 (sr_ [v_ 56 54,o2 57 52 54 a1_,o1 58 57 ld,v_ 8 56,v_ 9 58] (sr_ [v_ 59 9,c2 60 59 (.int .i64 0) beq_] (i_ 60 (.reg [v_ 61 7,v_ 62 8,o1 63 62 (.bslice 1 1 (.int .i64 0) [0]),o2 64 61 63 (.app 1 8 (.int .i64 0)),v_ 7 64]) .skip)))) (.reg [i1_ 65 54,v_ 54 65]))))))) (sr_ [z_ 10] (.seq (.block 4 (.loop (.seq (sr_ [v_ 66 7,o1 67 66 ln,c2 68 67 (.int .i64 0) bgt_] (ex_ 68 4)) (.seq (.block 5 (sr_ [v_ 71 7,c2 72 71 (.int .i64 0) a1_,o1 73 72 ld,v_ 11 73] (sr_ [v_ 74 7,c2 75 74 (.int .i64 1) (.slice 1 true false false),v_ 7 75] (sr_ [v_ 76 3,v_ 77 11,o2 78 76 77 a1_,o1 79 78 ld,o1 80 79 ln,z_ 81] (.block 6 (.loop (sr_ [o2 82 81 80 bls_] (.seq (ex_ 82 6) (.seq (.block 7 (sr_ [o2 83 79 81 a1_,o1 84 83 ld,v_ 13 84] (sr_ [v_ 85 4,v_ 86 13,o2 87 85 86 a1_,o1 88 87 ld,c2 89 88 (.int .i64 1) bsu_,o2 90 85 86 a1_,n2 90 89 st] (sr_ [v_ 91 4,v_ 92 13,o2 93 91 92 a1_,o1 94 93 ld,c2 95 94 (.int .i64 0) beq_] (i_ 95 (.reg [v_ 96 7,v_ 97 13,o1 98 97 (.bslice 1 1 (.int .i64 0) [0]),o2 99 96 98 (.app 1 8 (.int .i64 0)),v_ 7 99]) .skip))))) (.reg [i1_ 100 81,v_ 81 100])))))))))) (.reg [v_ 69 10,i1_ 70 69,v_ 10 70]))))) (sr_ [v_ 101 10,o1 102 1 f2_,o1 103 102 ld,o2 104 101 103 bls_,v_ 2 104] .ret)))))))))
theorem Yy:Ar Tryz.prog 122 1=some ⟨105,1,[(.slot 2)],Nz⟩:=by kernel_rfl
def Yz:AC:=(sr_ [bf_ 4] (.seq (sr_ [v_ 5 0] (.block 0 (sr_ [c2 7 5 (.int .i64 1) beq_,v_ 6 7] (i_ 6 (sr_ [v_ 8 1,c2 9 8 (.int .i32 0) bge_,v_ 10 9,g1 11 10 1 .mv,g_ 12 10 true [s_ 11,k_ (.int .i32 255)] ble_,m_ 13 [s_ 10,s_ 12,k_ (.bool false)] .pick,v_ 4 13] .ret) (sr_ [c2 15 5 (.int .i64 2) beq_,v_ 14 15] (i_ 14 (sr_ [v_ 16 1,c2 17 16 (.int .i32 0) bge_,v_ 18 17,g1 19 18 1 .mv,g_ 20 18 true [s_ 19,k_ (.int .i32 1114111)] ble_,m_ 21 [s_ 18,s_ 20,k_ (.bool false)] .pick,v_ 22 21,g1 23 22 1 .mv,g_ 24 22 true [s_ 23,k_ (.int .i32 55296)] bls_,g1 25 22 24 .mv,g_ 26 25 false [s_ 1] .mv,g_ 27 25 false [s_ 26,k_ (.int .i32 57343)] bgt_,g_ 28 22 true [s_ 25,k_ (.bool true),s_ 27] .pick,m_ 29 [s_ 22,s_ 28,k_ (.bool false)] .pick,v_ 4 29] .ret) .skip)))))) (sr_ [bf_ 4] .ret)))
theorem zcp:Ar Tryz.prog 133 2=some ⟨30,2,[(.slot 4)],Yz⟩:=by kernel_rfl
def C2:AC:=(sr_ [o1 4 1 ld,o1 5 4 ln,c2 6 5 (.int .i64 1) bsu_,v_ 3 6] (.block 0 (.loop (.seq (sr_ [v_ 7 3,c2 8 7 (.int .i64 0) bge_] (ex_ 8 0)) (.seq (.block 1 (sr_ [v_ 11 0,v_ 12 3,o1 13 1 ld,v_ 14 3,o2 15 13 14 a1_,o1 16 15 ld,o3 17 11 12 16 .call,o1 18 17 nt] (i_ 18 .ret .skip))) (.reg [v_ 9 3,c2 10 9 (.int .i64 1) bsu_,v_ 3 10]))))))
theorem Gv:Ar Tryz.prog 134 2=some ⟨19,2,[],C2⟩:=by kernel_rfl
def N0:AC:=(sr_ [o1 2 0 .box,bf_ 4] (sr_ [o1 5 2 f0_,o1 6 5 ld,c2 7 6 (.int .i64 0) bge_,v_ 8 7,g1 9 8 2 f0_,g1 10 8 9 ld,g1 11 8 1 .mv,g2 12 8 10 11 bls_,m_ 13 [s_ 8,s_ 12,k_ (.bool false)] .pick,v_ 14 13,g1 15 14 2 (.load true 4),g_ 16 14 true [k_ (.fn 153 []),s_ 15] .call,m_ 17 [s_ 14,s_ 16,k_ (.bool false)] .pick,v_ 4 17] .ret))
theorem Y0:Ar Tryz.prog 135 2=some ⟨18,2,[(.slot 4)],N0⟩:=by kernel_rfl
def N1:AC:=(sr_ [o1 2 0 .box,z_ 4,bf_ 5] (.seq (sr_ [o1 6 2 (.load true 4),k1 7 153 6,o1 8 7 nt,v_ 9 8,g_ 10 9 false [s_ 1] .mv,g_ 11 9 false [s_ 10,k_ (.int .i64 0)] bls_,m_ 12 [s_ 9,k_ (.bool true),s_ 11] .pick,v_ 13 12,g_ 14 13 false [s_ 1] .mv,g_ 15 13 false [s_ 14,k_ (.int .i64 2097151)] bgt_,m_ 16 [s_ 13,k_ (.bool true),s_ 15] .pick] (i_ 16 (sr_ [z_ 4,bf_ 5] .ret) .skip)) (.seq (.dreg [v_ 17 1,o1 18 2 f1_,o1 19 18 ld,o2 20 17 19 (.bin .shr),o1 21 2 f2_,o1 22 21 ld,m_ 23 [k_ (.int .i64 1),s_ 22] (.bin .shl),c2 24 23 (.int .i64 1) bsu_,o2 25 20 24 (.bin .and),o1 26 2 f3_,o1 27 26 ld,o2 28 25 27 (.bin .shl),v_ 4 28,bt_ 5]) .ret)))
theorem Y1:Ar Tryz.prog 136 2=some ⟨29,2,[(.slot 4),(.slot 5)],N1⟩:=by kernel_rfl
def N2:AC:=(sr_ [o1 1 0 .box,o0 2 (.alloc (.agg [(.int .i64 0),(.int .i64 0),(.int .i64 0),(.int .i64 0)]) 4)] (sr_ [o1 3 1 f1_,o1 4 3 ld,o1 5 1 f2_,o1 6 5 ld,o1 7 1 f3_,o1 8 7 ld,o3 9 4 6 8 (.build [(.int .i64 0),(.int .i64 0),(.int .i64 0),(.int .i64 0)] [(0,1),(1,1),(2,1),(3,1)] [1,2,3]),n2 2 9 (.store 4)] .ret))
theorem Y2:Ar Tryz.prog 137 1=some ⟨10,1,[(.cell 2 true 4)],N2⟩:=by kernel_rfl
def D4:AC:=(sr_ [bt_ 10] (sr_ [bt_ 11] (.block 0 (.loop (.block 1 (sr_ [v_ 21 2,v_ 22 1,o2 23 21 22 bsu_,v_ 12 23] (.seq (sr_ [v_ 24 12,c2 25 24 (.int .i64 12) ble_] (i_ 25 (sr_ [v_ 26 0,v_ 27 1,v_ 28 2,v_ 29 4,m_ 30 [k_ (.fn 154 []),s_ 26,s_ 27,s_ 28,s_ 29] .call] .ret) .skip)) (.seq (sr_ [v_ 31 3,c2 32 31 (.int .i64 0) beq_] (i_ 32 (sr_ [v_ 33 0,v_ 34 1,v_ 35 2,v_ 36 4,m_ 37 [k_ (.fn 155 []),s_ 33,s_ 34,s_ 35,s_ 36] .call] .ret) .skip)) (.seq (sr_ [v_ 38 10,o1 39 38 nt] (i_ 39 (sr_ [v_ 40 0,v_ 41 1,v_ 42 2,v_ 43 4,m_ 44 [k_ (.fn 156 []),s_ 40,s_ 41,s_ 42,s_ 43] .call] (.reg [v_ 45 3,c2 46 45 (.int .i64 1) bsu_,v_ 3 46])) .skip)) (sr_ [v_ 48 0,v_ 49 1,v_ 50 2,v_ 51 4,m_ 52 [k_ (.fn 157 []),s_ 48,s_ 49,s_ 50,s_ 51] .call,v_ 47 52,o1 53 47 (.extract 0),o1 54 47 (.extract 1),v_ 13 53,v_ 14 54] (.seq (sr_ [v_ 55 14,c2 56 55 (.int .i64 2) beq_] (i_ 56 (sr_ [v_ 57 0,v_ 58 1,v_ 59 2,v_ 60 4,m_ 61 [k_ (.fn 158 []),s_ 57,s_ 58,s_ 59,s_ 60] .call] (sr_ [v_ 62 2,c2 63 62 (.int .i64 1) bsu_,v_ 64 13,v_ 65 1,o2 66 64 65 bsu_,o2 67 63 66 bsu_,v_ 13 67] (.reg [c1 14 (.int .i64 1) .mv]))) .skip)) (.seq (sr_ [v_ 68 10,v_ 69 68,g1 70 69 11 .mv,m_ 71 [s_ 69,s_ 70,k_ (.bool false)] .pick,v_ 72 71,g1 73 72 14 .mv,g_ 74 72 true [s_ 73,k_ (.int .i64 1)] beq_,m_ 75 [s_ 72,s_ 74,k_ (.bool false)] .pick] (i_ 75 (sr_ [v_ 76 0,v_ 77 1,v_ 78 2,v_ 79 4,m_ 80 [k_ (.fn 159 []),s_ 76,s_ 77,s_ 78,s_ 79] .call] (i_ 80 .ret .skip)) .skip)) (.seq (.seq (.dtl [v_ 81 1,c2 82 81 (.int .i64 0) bgt_,v_ 83 82,g1 84 83 4 .mv,g1 85 83 0 .mv,g1 86 83 1 .mv,g_ 87 83 true [s_ 86,k_ (.int .i64 1)] bsu_,g2 88 83 85 87 a1_,g1 89 83 88 ld,g1 90 83 0 .mv,g1 91 83 13 .mv,g2 92 83 90 91 a1_,g1 93 83 92 ld] [g_ 94 83 true [s_ 84,s_ 89,s_ 93] .call,g_ 95 83 true [s_ 94,k_ (.int .i64 0)] bls_,g1 96 83 95 nt,m_ 97 [s_ 83,s_ 96,k_ (.bool false)] .pick]) (i_ 97 (sr_ [v_ 98 0,v_ 99 1,v_ 100 2,v_ 101 13,v_ 102 4,m_ 103 [k_ (.fn 160 []),s_ 98,s_ 99,s_ 100,s_ 101,s_ 102] .call,v_ 15 103] (sr_ [v_ 104 15,v_ 1 104] (.exit 1))) .skip)) (sr_ [v_ 106 0,v_ 107 1,v_ 108 2,v_ 109 13,v_ 110 4,m_ 111 [k_ (.fn 161 []),s_ 106,s_ 107,s_ 108,s_ 109,s_ 110] .call,v_ 105 111,o1 112 105 (.extract 0),o1 113 105 (.extract 1),v_ 16 112,v_ 17 113] (sr_ [v_ 114 17,v_ 11 114] (sr_ [v_ 115 16,v_ 116 1,o2 117 115 116 bsu_,v_ 118 2,v_ 119 16,o2 120 118 119 bsu_,v_ 18 117,v_ 19 120] (sr_ [v_ 121 12,c2 122 121 (.int .i64 8) (.bin .quo),v_ 20 122] (sr_ [v_ 123 18,v_ 124 19,o2 125 123 124 bls_] (i_ 125 (sr_ [v_ 126 18,v_ 127 20,o2 128 126 127 bge_,v_ 10 128] (sr_ [v_ 129 0,v_ 130 1,v_ 131 16,v_ 132 3,v_ 133 4,m_ 134 [k_ (.fn 138 []),s_ 129,s_ 130,s_ 131,s_ 132,s_ 133] .call] (.reg [v_ 135 16,i1_ 136 135,v_ 1 136]))) (sr_ [v_ 137 19,v_ 138 20,o2 139 137 138 bge_,v_ 10 139] (sr_ [v_ 140 0,v_ 141 16,i1_ 142 141,v_ 143 2,v_ 144 3,v_ 145 4,m_ 146 [k_ (.fn 138 []),s_ 140,s_ 142,s_ 143,s_ 144,s_ 145] .call] (.reg [v_ 147 16,v_ 2 147]))))))))))))))))))))))
theorem Gf:Ar Tryz.prog 138 5=some ⟨148,5,[],D4⟩:=by kernel_rfl
def I5:AC:=(sr_ [z_ 2] (.seq (.cond (.const (.bool false)) (sr_ [v_ 3 0,o1 4 3 (.conv .u32),k1 5 162 4,v_ 2 5] .ret) .skip) (sr_ [v_ 6 0,k1 7 163 6,v_ 2 7] .ret)))
theorem Qk:Ar Tryz.prog 139 1=some ⟨8,1,[(.slot 2)],I5⟩:=by kernel_rfl
def L3:AC:=(sr_ [z_ 4] (.seq (sr_ [z_ 5] (.block 0 (.loop (.seq (sr_ [v_ 6 5,v_ 7 0,o1 8 7 ln,o2 9 6 8 bls_,v_ 10 9,g1 11 10 5 .mv,g1 12 10 1 .mv,g1 13 10 12 ln,g2 14 10 11 13 bls_,m_ 15 [s_ 10,s_ 14,k_ (.bool false)] .pick] (ex_ 15 0)) (.seq (.block 1 (.seq (.dreg [v_ 18 0,v_ 19 5,o2 20 18 19 a1_,o1 21 20 ld,v_ 22 1,v_ 23 5,o2 24 22 23 a1_,o1 25 24 ld,o2 26 21 25 bne_]) (i_ 26 (sr_ [v_ 27 5,v_ 4 27] .ret) .skip))) (.reg [v_ 16 5,i1_ 17 16,v_ 5 17])))))) (sr_ [v_ 28 0,o1 29 28 ln,v_ 30 1,o1 31 30 ln,o2 32 29 31 .min,v_ 4 32] .ret)))
theorem Vv:Ar Tryz.prog 140 2=some ⟨33,2,[(.slot 4)],L3⟩:=by kernel_rfl
def Ir:AC:=(sr_ [bf_ 2] (sr_ [v_ 3 0,v_ 4 0,o2 5 3 4 bne_,v_ 2 5] .ret))
theorem Oi:Ar Tryz.prog 144 1=some ⟨6,1,[(.slot 2)],Ir⟩:=by kernel_rfl
def N3:AC:=(sr_ [bf_ 2] (sr_ [c1 3 (.int .i64 (-1073741826)) .mv] (.seq (sr_ [v_ 6 0,o1 7 6 ln,z_ 8] (.block 0 (.loop (sr_ [o2 9 8 7 bls_] (.seq (ex_ 9 0) (.seq (.block 1 (sr_ [o2 10 6 8 a2_,o1 11 10 (.load true 2),o0 5 (.alloc (.agg [(.int .i64 0),(.int .i64 0)]) 2),n2 5 11 (.store 2)] (.seq (sr_ [o1 12 5 f0_,o1 13 12 ld,o1 14 5 f1_,o1 15 14 ld,o2 16 13 15 bgt_,v_ 17 16,g_ 18 17 false [s_ 5] f0_,g_ 19 17 false [s_ 18] ld,g_ 20 17 false [s_ 19,k_ (.int .i64 (-1073741824))] bls_,m_ 21 [s_ 17,k_ (.bool true),s_ 20] .pick,v_ 22 21,g_ 23 22 false [s_ 5] f1_,g_ 24 22 false [s_ 23] ld,g_ 25 22 false [s_ 24,k_ (.int .i64 1073741824)] bgt_,m_ 26 [s_ 22,k_ (.bool true),s_ 25] .pick,v_ 27 26,g_ 28 27 false [s_ 5] f0_,g_ 29 27 false [s_ 28] ld,g_ 30 27 false [s_ 3] .mv,g_ 31 27 false [s_ 30,k_ (.int .i64 1)] bad_,g_ 32 27 false [s_ 29,s_ 31] ble_,m_ 33 [s_ 27,k_ (.bool true),s_ 32] .pick] (i_ 33 (sr_ [bf_ 2] .ret) .skip)) (.reg [o1 34 5 f1_,o1 35 34 ld,v_ 3 35])))) (.reg [i1_ 36 8,v_ 8 36]))))))) (sr_ [bt_ 2] .ret))))
theorem Y3:Ar Tryz.prog 145 1=some ⟨37,1,[(.slot 2)],N3⟩:=by kernel_rfl
def L4:AC:=(sr_ [bf_ 4] (sr_ [v_ 5 0,v_ 6 1,k2 7 165 5 6,o1 8 7 ln,c2 9 8 (.int .i64 0) beq_,v_ 4 9] .ret))
theorem Vw:Ar Tryz.prog 146 2=some ⟨10,2,[(.slot 4)],L4⟩:=by kernel_rfl
def Ql:AC:=(sr_ [o1 4 0 .box,bf_ 8] (.seq (sr_ [o1 11 4 l6,v_ 12 1,v_ 13 2,v_ 14 3,o1 15 14 ln,m_ 16 [k_ (.fn 166 []),s_ 11,s_ 12,s_ 13,s_ 15] .call,o1 17 16 nt] (i_ 17 (sr_ [bf_ 8] .ret) .skip)) (sr_ [o1 19 4 l6,v_ 20 3,k2 21 167 19 20,v_ 18 21,o1 22 18 (.extract 0),o1 23 18 (.extract 1),v_ 9 22,v_ 10 23] (sr_ [v_ 24 10,v_ 25 24,g1 26 25 9 .mv,g1 27 25 2 .mv,g_ 28 25 true [k_ (.fn 72 []),s_ 27] .call,g_ 29 25 true [k_ (.fn 146 []),s_ 26,s_ 28] .call,m_ 30 [s_ 25,s_ 29,k_ (.bool false)] .pick,v_ 8 30] .ret))))
theorem z1i:Ar Tryz.prog 147 4=some ⟨31,4,[(.slot 8)],Ql⟩:=by kernel_rfl
def Qm:AC:=(sr_ [o1 1 0 .box,bf_ 2] (sr_ [o1 3 1 f1_,o1 4 3 ld,c2 5 4 (.int .i64 0) bge_,v_ 6 5,g1 7 6 1 f1_,g1 8 6 7 ld,g_ 9 6 true [s_ 8,k_ (.int .i64 21)] bls_,m_ 10 [s_ 6,s_ 9,k_ (.bool false)] .pick,v_ 11 10,g1 12 11 1 f2_,g1 13 11 12 ld,g_ 14 11 true [s_ 13,k_ (.int .i64 1)] bge_,m_ 15 [s_ 11,s_ 14,k_ (.bool false)] .pick,v_ 16 15,g1 17 16 1 f2_,g1 18 16 17 ld,g_ 19 16 true [s_ 18,k_ (.int .i64 21)] ble_,m_ 20 [s_ 16,s_ 19,k_ (.bool false)] .pick,v_ 21 20,g1 22 21 1 f3_,g1 23 21 22 ld,g_ 24 21 true [s_ 23,k_ (.int .i64 0)] bge_,m_ 25 [s_ 21,s_ 24,k_ (.bool false)] .pick,v_ 26 25,g1 27 26 1 f3_,g1 28 26 27 ld,g_ 29 26 true [s_ 28,k_ (.int .i64 21)] bls_,m_ 30 [s_ 26,s_ 29,k_ (.bool false)] .pick,v_ 31 30,g1 32 31 1 f3_,g1 33 31 32 ld,g_ 34 31 true [s_ 33,k_ (.int .i64 0)] beq_,g1 35 31 34 .mv,g_ 36 35 false [s_ 1] f2_,g_ 37 35 false [s_ 36] ld,g_ 38 35 false [s_ 37,k_ (.int .i64 6)] ble_,g_ 39 31 true [s_ 35,k_ (.bool true),s_ 38] .pick,m_ 40 [s_ 31,s_ 39,k_ (.bool false)] .pick,v_ 2 40] .ret))
theorem z1j:Ar Tryz.prog 153 1=some ⟨41,1,[(.slot 2)],Qm⟩:=by kernel_rfl
def C5:AC:=(sr_ [v_ 10 1,i1_ 11 10,v_ 8 11] (.block 0 (.loop (.seq (sr_ [v_ 12 8,v_ 13 2,o2 14 12 13 bls_] (ex_ 14 0)) (.seq (.block 1 (sr_ [v_ 17 8,v_ 9 17] (.block 2 (.loop (.seq (.seq (.dtl [v_ 18 9,v_ 19 1,o2 20 18 19 bgt_,v_ 21 20,g1 22 21 3 .mv,g1 23 21 0 .mv,g1 24 21 9 .mv,g2 25 21 23 24 a1_,g1 26 21 25 ld,g1 27 21 0 .mv,g1 28 21 9 .mv,g_ 29 21 true [s_ 28,k_ (.int .i64 1)] bsu_,g2 30 21 27 29 a1_,g1 31 21 30 ld] [g_ 32 21 true [s_ 22,s_ 26,s_ 31] .call,g_ 33 21 true [s_ 32,k_ (.int .i64 0)] bls_,m_ 34 [s_ 21,s_ 33,k_ (.bool false)] .pick]) (ex_ 34 2)) (.seq (.block 3 (.greg [v_ 37 0,v_ 38 9,v_ 39 0,v_ 40 9,c2 41 40 (.int .i64 1) bsu_,v_ 42 0,v_ 43 9,c2 44 43 (.int .i64 1) bsu_,o2 45 42 44 a1_,o1 46 45 ld,v_ 47 0,v_ 48 9,o2 49 47 48 a1_,o1 50 49 ld,o2 51 37 38 a1_,n2 51 46 st,o2 52 39 41 a1_,n2 52 50 st])) (.reg [v_ 35 9,c2 36 35 (.int .i64 1) bsu_,v_ 9 36]))))))) (.reg [v_ 15 8,i1_ 16 15,v_ 8 16]))))))
theorem E7:Ar Tryz.prog 154 4=some ⟨53,4,[],C5⟩:=by kernel_rfl
def Hr:AC:=(sr_ [z_ 2] (.seq (sr_ [v_ 3 0,c2 4 3 (.int .u64 4294967296) bge_] (i_ 4 (sr_ [v_ 5 0,c2 6 5 (.int .u64 32) (.bin .shr),v_ 0 6] (.reg [c1 2 (.int .i64 32) .mv])) .skip)) (.seq (sr_ [v_ 7 0,c2 8 7 (.int .u64 65536) bge_] (i_ 8 (sr_ [v_ 9 0,c2 10 9 (.int .u64 16) (.bin .shr),v_ 0 10] (.reg [v_ 11 2,c2 12 11 (.int .i64 16) bad_,v_ 2 12])) .skip)) (.seq (sr_ [v_ 13 0,c2 14 13 (.int .u64 256) bge_] (i_ 14 (sr_ [v_ 15 0,c2 16 15 (.int .u64 8) (.bin .shr),v_ 0 16] (.reg [v_ 17 2,c2 18 17 (.int .i64 8) bad_,v_ 2 18])) .skip)) (sr_ [v_ 19 2,v_ 20 0,o1 21 20 (.conv .u8),m_ 22 [k_ (.str [0,1,2,2,3,3,3,3,4,4,4,4,4,4,4,4,5,5,5,5,5,5,5,5,5,5,5,5,5,5,5,5,6,6,6,6,6,6,6,6,6,6,6,6,6,6,6,6,6,6,6,6,6,6,6,6,6,6,6,6,6,6,6,6,7,7,7,7,7,7,7,7,7,7,7,7,7,7,7,7,7,7,7,7,7,7,7,7,7,7,7,7,7,7,7,7,7,7,7,7,7,7,7,7,7,7,7,7,7,7,7,7,7,7,7,7,7,7,7,7,7,7,7,7,7,7,7,7,8,8,8,8,8,8,8,8,8,8,8,8,8,8,8,8,8,8,8,8,8,8,8,8,8,8,8,8,8,8,8,8,8,8,8,8,8,8,8,8,8,8,8,8,8,8,8,8,8,8,8,8,8,8,8,8,8,8,8,8,8,8,8,8,8,8,8,8,8,8,8,8,8,8,8,8,8,8,8,8,8,8,8,8,8,8,8,8,8,8,8,8,8,8,8,8,8,8,8,8,8,8,8,8,8,8,8,8,8,8,8,8,8,8,8,8,8,8,8,8,8,8,8,8,8,8,8,8]),s_ 21] .indexStr,o1 23 22 (.conv .i64),o2 24 19 23 bad_,v_ 2 24] .ret)))))
theorem M3:Ar Tryz.prog 163 1=some ⟨25,1,[(.slot 2)],Hr⟩:=by kernel_rfl
def N4:AC:=(sr_ [ns_ 4] (sr_ [ns_ 5] (sr_ [c1 6 (.int .i64 (-1073741824)) .mv] (.seq (sr_ [v_ 9 1,k1 10 181 9,o1 11 10 ln,z_ 12] (.block 0 (.loop (sr_ [o2 13 12 11 bls_] (.seq (ex_ 13 0) (.seq (.block 1 (sr_ [o2 14 10 12 a2_,o1 15 14 (.load true 2),o0 8 (.alloc (.agg [(.int .i64 0),(.int .i64 0)]) 2),n2 8 15 (.store 2)] (sr_ [v_ 16 5,v_ 17 6,o1 18 8 f0_,o1 19 18 ld,c2 20 19 (.int .i64 1) bsu_,o2 21 17 20 (.build [(.int .i64 0),(.int .i64 0)] [(0,1),(1,1)] [0,1]),o1 22 21 (.bslice 2 1 (.agg [(.int .i64 0),(.int .i64 0)]) [0]),o2 23 16 22 (.app 2 16 (.agg [(.int .i64 0),(.int .i64 0)])),v_ 5 23] (.reg [o1 24 8 f1_,o1 25 24 ld,i1_ 26 25,v_ 6 26])))) (.reg [i1_ 27 12,v_ 12 27]))))))) (sr_ [v_ 28 5,v_ 29 6,c2 30 29 (.int .i64 1073741824) (.build [(.int .i64 0),(.int .i64 0)] [(0,1),(1,1)] [0,1]),o1 31 30 (.bslice 2 1 (.agg [(.int .i64 0),(.int .i64 0)]) [0]),o2 32 28 31 (.app 2 16 (.agg [(.int .i64 0),(.int .i64 0)])),v_ 5 32] (sr_ [v_ 33 0,v_ 34 5,k2 35 182 33 34,v_ 4 35] .ret))))))
theorem Y4:Ar Tryz.prog 165 2=some ⟨36,2,[(.slot 4)],N4⟩:=by kernel_rfl
def N5:AC:=(sr_ [o1 4 0 .box,bf_ 8] (.seq (sr_ [v_ 11 1,k1 12 72 11,o1 13 12 ln,c2 14 13 (.int .i64 0) beq_,v_ 15 14,g_ 16 15 false [s_ 2] .mv,g_ 17 15 false [k_ (.fn 72 []),s_ 16] .call,g_ 18 15 false [s_ 17] ln,g_ 19 15 false [s_ 18,k_ (.int .i64 0)] beq_,m_ 20 [s_ 15,k_ (.bool true),s_ 19] .pick,v_ 21 20,g_ 22 21 false [s_ 4] l6,g_ 23 21 false [k_ (.fn 183 []),s_ 22] .call,g_ 24 21 false [s_ 23] nt,m_ 25 [s_ 21,k_ (.bool true),s_ 24] .pick] (i_ 25 (sr_ [bf_ 8] .ret) .skip)) (.seq (sr_ [o1 26 4 f5_,o1 27 26 ld,o1 28 27 ln,z_ 29] (.block 0 (.loop (sr_ [o2 30 29 28 bls_] (.seq (ex_ 30 0) (.seq (.block 1 (sr_ [o2 31 27 29 a4_,o1 32 31 (.load true 4),o0 10 (.alloc (.agg [(.int .i64 0),(.int .i64 0),(.int .i64 0),(.int .i64 0)]) 4),n2 10 32 (.store 4)] (.seq (.dreg [o1 33 10 (.load true 4),v_ 34 3,k2 35 135 33 34,o1 36 35 nt,v_ 37 36,g_ 38 37 false [s_ 1] .mv,g_ 39 37 false [s_ 38,k_ (.int .i64 2)] beq_,g_ 40 37 false [s_ 39] .mv,g1 41 40 10 (.load true 4),g1 42 40 10 f0_,g1 43 40 42 ld,g_ 44 40 true [k_ (.fn 113 []),s_ 43] .call,g2 45 40 41 44 (.eqs true [1,1,1,1]),g_ 46 37 false [s_ 40,s_ 45,k_ (.bool false)] .pick,m_ 47 [s_ 37,k_ (.bool true),s_ 46] .pick]) (i_ 47 (sr_ [bf_ 8] .ret) .skip)))) (.reg [i1_ 48 29,v_ 29 48]))))))) (sr_ [v_ 49 1,c2 50 49 (.int .i64 2) bne_,v_ 51 50,g_ 52 51 false [s_ 4] f5_,g_ 53 51 false [s_ 52] ld,g_ 54 51 false [s_ 53] ln,g_ 55 51 false [s_ 54,k_ (.int .i64 1)] ble_,m_ 56 [s_ 51,k_ (.bool true),s_ 55] .pick,v_ 57 56,g1 58 57 2 .mv,g_ 59 57 true [s_ 58,k_ (.int .i64 2)] bne_,g1 60 57 59 .mv,g_ 61 60 false [s_ 4] l6,g_ 62 60 false [k_ (.fn 184 []),s_ 61] .call,g_ 63 57 true [s_ 60,k_ (.bool true),s_ 62] .pick,m_ 64 [s_ 57,s_ 63,k_ (.bool false)] .pick,v_ 8 64] .ret))))
theorem Y5:Ar Tryz.prog 166 4=some ⟨65,4,[(.slot 8)],N5⟩:=by kernel_rfl
def N6:AC:=(sr_ [o1 2 0 .box,ns_ 4,bf_ 5] (sr_ [o1 9 2 l6,v_ 10 1,k2 11 185 9 10,v_ 8 11,o1 12 8 (.extract 0),o1 13 8 (.extract 1),v_ 6 12,v_ 7 13] (.seq (sr_ [v_ 14 7,o1 15 14 nt] (i_ 15 (sr_ [ns_ 4,bf_ 5] .ret) .skip)) (.seq (sr_ [v_ 16 6,o1 17 16 ln,c2 18 17 (.int .i64 0) beq_] (i_ 18 (sr_ [ns_ 4,bt_ 5] .ret) .skip)) (.seq (.dtl [o1 19 2 l6,k1 20 137 19,v_ 21 6,k2 22 187 20 21,o1 23 2 f0_,o1 24 23 ld] [k2 25 186 22 24,v_ 4 25,bt_ 5]) .ret)))))
theorem Y6:Ar Tryz.prog 167 2=some ⟨26,2,[(.slot 4),(.slot 5)],N6⟩:=by kernel_rfl
def Qn:AC:=(sr_ [ns_ 2] (sr_ [v_ 10 0,o1 11 10 ln,m_ 12 [k_ (.int .i64 0),s_ 11] (.mkSlice 2 16 (.agg [(.int .i64 0),(.int .i64 0)])),v_ 3 12] (.seq (sr_ [v_ 13 0,o1 14 13 ln,z_ 15] (.block 0 (.loop (sr_ [o2 16 15 14 bls_] (.seq (ex_ 16 0) (.seq (.block 1 (sr_ [o2 17 13 15 a2_,o1 18 17 (.load true 2),o0 5 (.alloc (.agg [(.int .i64 0),(.int .i64 0)]) 2),n2 5 18 (.store 2)] (sr_ [o1 19 5 f0_,o1 20 19 ld,c2 21 20 (.int .i64 (-1073741824)) .max,o1 22 5 f1_,o1 23 22 ld,c2 24 23 (.int .i64 1073741824) .min,o1 25 5 f0_,n2 25 21 st,o1 26 5 f1_,n2 26 24 st] (sr_ [o1 27 5 f0_,o1 28 27 ld,o1 29 5 f1_,o1 30 29 ld,o2 31 28 30 ble_] (i_ 31 (.reg [v_ 32 3,o1 33 5 (.load true 2),o1 34 33 (.bslice 2 1 (.agg [(.int .i64 0),(.int .i64 0)]) [0]),o2 35 32 34 (.app 2 16 (.agg [(.int .i64 0),(.int .i64 0)])),v_ 3 35]) .skip))))) (.reg [i1_ 36 15,v_ 15 36]))))))) (sr_ [v_ 37 3,m_ 38 [k_ (.fn 190 []),s_ 37,k_ (.fn 191 [])] .call] (sr_ [v_ 39 3,c2 40 39 (.int .i64 0) (.slice 2 false true false),v_ 6 40] (.seq (sr_ [v_ 41 3,o1 42 41 ln,z_ 43] (.block 2 (.loop (sr_ [o2 44 43 42 bls_] (.seq (ex_ 44 2) (.seq (.block 3 (sr_ [o2 45 41 43 a2_,o1 46 45 (.load true 2),o0 8 (.alloc (.agg [(.int .i64 0),(.int .i64 0)]) 2),n2 8 46 (.store 2)] (.seq (sr_ [v_ 47 6,o1 48 47 ln,v_ 9 48] (.seq (.dreg [v_ 49 9,c2 50 49 (.int .i64 0) bgt_,v_ 51 50,g1 52 51 8 f0_,g1 53 51 52 ld,g1 54 51 6 .mv,g1 55 51 9 .mv,g_ 56 51 true [s_ 55,k_ (.int .i64 1)] bsu_,g2 57 51 54 56 a2_,g1 58 51 57 f1_,g1 59 51 58 ld,g_ 60 51 true [s_ 59,k_ (.int .i64 1)] bad_,g2 61 51 53 60 ble_,m_ 62 [s_ 51,s_ 61,k_ (.bool false)] .pick]) (i_ 62 (.seq (.dtl [v_ 63 6,v_ 64 9,c2 65 64 (.int .i64 1) bsu_,v_ 66 6,v_ 67 9,c2 68 67 (.int .i64 1) bsu_,o2 69 66 68 a2_,o1 70 69 f1_,o1 71 70 ld,o1 72 8 f1_,o1 73 72 ld,o2 74 71 73 .max,o2 75 63 65 a2_,o1 76 75 f1_] [n2 76 74 st]) (.exit 3)) .skip))) (.reg [v_ 77 6,o1 78 8 (.load true 2),o1 79 78 (.bslice 2 1 (.agg [(.int .i64 0),(.int .i64 0)]) [0]),o2 80 77 79 (.app 2 16 (.agg [(.int .i64 0),(.int .i64 0)])),v_ 6 80])))) (.reg [i1_ 81 43,v_ 43 81]))))))) (sr_ [v_ 82 6,v_ 2 82] .ret)))))))
theorem z1k:Ar Tryz.prog 181 1=some ⟨83,1,[(.slot 2)],Qn⟩:=by kernel_rfl
def Qo:AC:=(sr_ [ns_ 4] (sr_ [v_ 7 0,k1 8 181 7,v_ 9 1,k1 10 181 9,v_ 0 8,v_ 1 10] (sr_ [ns_ 5] (.seq (.block 0 (.loop (.seq (sr_ [v_ 11 0,o1 12 11 ln,c2 13 12 (.int .i64 0) bgt_,v_ 14 13,g1 15 14 1 .mv,g1 16 14 15 ln,g_ 17 14 true [s_ 16,k_ (.int .i64 0)] bgt_,m_ 18 [s_ 14,s_ 17,k_ (.bool false)] .pick] (ex_ 18 0)) (.block 1 (.seq (.greg [v_ 19 0,c2 20 19 (.int .i64 0) a2_,o1 21 20 f0_,o1 22 21 ld,v_ 23 1,c2 24 23 (.int .i64 0) a2_,o1 25 24 f0_,o1 26 25 ld,o2 27 22 26 .max,v_ 28 0,c2 29 28 (.int .i64 0) a2_,o1 30 29 f1_,o1 31 30 ld,v_ 32 1,c2 33 32 (.int .i64 0) a2_,o1 34 33 f1_,o1 35 34 ld,o2 36 31 35 .min,o2 37 27 36 (.build [(.int .i64 0),(.int .i64 0)] [(0,1),(1,1)] [0,1]),o0 6 (.alloc (.agg [(.int .i64 0),(.int .i64 0)]) 2),n2 6 37 (.store 2)]) (.seq (sr_ [o1 38 6 f0_,o1 39 38 ld,o1 40 6 f1_,o1 41 40 ld,o2 42 39 41 ble_] (i_ 42 (.reg [v_ 43 5,o1 44 6 (.load true 2),o1 45 44 (.bslice 2 1 (.agg [(.int .i64 0),(.int .i64 0)]) [0]),o2 46 43 45 (.app 2 16 (.agg [(.int .i64 0),(.int .i64 0)])),v_ 5 46]) .skip)) (.seq (.dreg [v_ 47 0,c2 48 47 (.int .i64 0) a2_,o1 49 48 f1_,o1 50 49 ld,v_ 51 1,c2 52 51 (.int .i64 0) a2_,o1 53 52 f1_,o1 54 53 ld,o2 55 50 54 bls_]) (i_ 55 (.reg [v_ 56 0,c2 57 56 (.int .i64 1) (.slice 2 true false false),v_ 0 57]) (.reg [v_ 58 1,c2 59 58 (.int .i64 1) (.slice 2 true false false),v_ 1 59]))))))))) (sr_ [v_ 60 5,v_ 4 60] .ret)))))
theorem z1l:Ar Tryz.prog 182 2=some ⟨61,2,[(.slot 4)],Qo⟩:=by kernel_rfl
def Ka:AC:=(sr_ [o1 1 0 .box,bf_ 2] (sr_ [o1 3 1 f0_,o1 4 3 ld,k1 5 193 4,v_ 6 5,g1 7 6 1 f4_,g1 8 6 7 ld,g_ 9 6 true [k_ (.fn 193 []),s_ 8] .call,m_ 10 [s_ 6,s_ 9,k_ (.bool false)] .pick,v_ 11 10,g1 12 11 1 l6,g_ 13 11 true [k_ (.fn 137 []),s_ 12] .call,g_ 14 11 true [k_ (.fn 135 []),s_ 13,k_ (.int .i64 1)] .call,m_ 15 [s_ 11,s_ 14,k_ (.bool false)] .pick,v_ 16 15,g1 17 16 1 f5_,g1 18 16 17 ld,g_ 19 16 true [k_ (.fn 194 []),s_ 18] .call,m_ 20 [s_ 16,s_ 19,k_ (.bool false)] .pick,v_ 2 20] .ret))
theorem Sg:Ar Tryz.prog 183 1=some ⟨21,1,[(.slot 2)],Ka⟩:=by kernel_rfl
def N7:AC:=(sr_ [o1 1 0 .box,bf_ 2] (sr_ [o1 3 1 f0_,o1 4 3 ld,c2 5 4 (.int .i64 0) beq_,v_ 6 5,g1 7 6 1 l6,g_ 8 6 true [k_ (.fn 137 []),s_ 7] .call,g_ 9 6 true [k_ (.fn 113 []),k_ (.int .i64 0)] .call,g2 10 6 8 9 (.eqs false [1,1,1,1]),m_ 11 [s_ 6,s_ 10,k_ (.bool false)] .pick,v_ 2 11] .ret))
theorem Y7:Ar Tryz.prog 184 1=some ⟨12,1,[(.slot 2)],N7⟩:=by kernel_rfl
def N8:AC:=(sr_ [o1 2 0 .box,ns_ 4,bf_ 5] (.seq (sr_ [v_ 12 1,o1 13 12 ln,c2 14 13 (.int .i64 4) bgt_,v_ 15 14,g_ 16 15 false [s_ 2] l6,g_ 17 15 false [k_ (.fn 183 []),s_ 16] .call,g_ 18 15 false [s_ 17] nt,m_ 19 [s_ 15,k_ (.bool true),s_ 18] .pick] (i_ 19 (sr_ [ns_ 4,bf_ 5] .ret) .skip)) (sr_ [bt_ 6] (sr_ [v_ 20 1,o1 21 20 ln,o2 22 21 21 (.mkSlice 1 24 .nilS),v_ 7 22] (.seq (sr_ [v_ 23 1,o1 24 23 ln,z_ 25] (.block 0 (.loop (sr_ [o2 26 25 24 bls_] (.seq (ex_ 26 0) (.seq (.block 1 (sr_ [v_ 27 25,o2 28 23 25 a1_,o1 29 28 ld,v_ 8 27,v_ 9 29] (sr_ [v_ 30 7,v_ 31 8,v_ 32 9,k0 33 195,k2 34 182 32 33,o2 35 30 31 a1_,n2 35 34 st] (.reg [v_ 36 6,v_ 37 36,g1 38 37 7 .mv,g1 39 37 8 .mv,g2 40 37 38 39 a1_,g1 41 37 40 ld,g1 42 37 41 ln,g_ 43 37 true [s_ 42,k_ (.int .i64 0)] bgt_,m_ 44 [s_ 37,s_ 43,k_ (.bool false)] .pick,v_ 6 44])))) (.reg [i1_ 45 25,v_ 25 45]))))))) (.seq (sr_ [o1 46 2 f5_,o1 47 46 ld,o1 48 47 ln,z_ 49] (.block 2 (.loop (sr_ [o2 50 49 48 bls_] (.seq (ex_ 50 2) (.seq (.block 3 (sr_ [o2 51 47 49 a4_,o1 52 51 (.load true 4),o0 11 (.alloc (.agg [(.int .i64 0),(.int .i64 0),(.int .i64 0),(.int .i64 0)]) 4),n2 11 52 (.store 4)] (sr_ [o1 53 11 (.load true 4),v_ 54 1,o1 55 54 ln,k2 56 135 53 55,o1 57 56 nt] (i_ 57 (sr_ [ns_ 4,bf_ 5] .ret) .skip)))) (.reg [i1_ 58 49,v_ 49 58]))))))) (.seq (sr_ [v_ 59 6,o1 60 59 nt] (i_ 60 (sr_ [ns_ 4,bt_ 5] .ret) .skip)) (sr_ [o1 61 2 l6,v_ 62 7,k2 63 196 61 62,o1 64 63 (.extract 0),o1 65 63 (.extract 1),v_ 4 64,v_ 5 65] .ret))))))))
theorem Y8:Ar Tryz.prog 185 2=some ⟨66,2,[(.slot 4),(.slot 5)],N8⟩:=by kernel_rfl
def Qp:AC:=(sr_ [ns_ 4] (.seq (sr_ [v_ 7 1,c2 8 7 (.int .i64 (-2147483648)) bls_,v_ 9 8,g_ 10 9 false [s_ 1] .mv,g_ 11 9 false [s_ 10,k_ (.int .i64 2147483648)] bgt_,m_ 12 [s_ 9,k_ (.bool true),s_ 11] .pick] (i_ 12 (sr_ [ns_ 4] .ret) .skip)) (sr_ [v_ 13 0,k1 14 181 13,v_ 5 14] (.seq (sr_ [v_ 15 5,o1 16 15 ln,z_ 17] (.block 0 (.loop (sr_ [o2 18 17 16 bls_] (.seq (ex_ 18 0) (.seq (.block 1 (sr_ [v_ 19 17,v_ 6 19] (sr_ [v_ 20 5,v_ 21 6,o2 22 20 21 a2_,o1 23 22 f0_,o1 24 23 ld,v_ 25 1,o2 26 24 25 bad_,o2 27 20 21 a2_,o1 28 27 f0_,n2 28 26 st] (.reg [v_ 29 5,v_ 30 6,o2 31 29 30 a2_,o1 32 31 f1_,o1 33 32 ld,v_ 34 1,o2 35 33 34 bad_,o2 36 29 30 a2_,o1 37 36 f1_,n2 37 35 st])))) (.reg [i1_ 38 17,v_ 17 38]))))))) (sr_ [v_ 39 5,k1 40 181 39,v_ 4 40] .ret)))))
theorem z1m:Ar Tryz.prog 186 2=some ⟨41,2,[(.slot 4)],Qp⟩:=by kernel_rfl
def I6:AC:=(sr_ [o1 2 0 .box,ns_ 4] (.seq (sr_ [o1 13 2 (.load true 4),k1 14 153 13,o1 15 14 nt] (i_ 15 (sr_ [ns_ 4] .ret) .skip)) (sr_ [o1 16 2 f2_,o1 17 16 ld,m_ 18 [k_ (.int .i64 1),s_ 17] (.bin .shl),c2 19 18 (.int .i64 1) bsu_,v_ 5 19] (sr_ [ns_ 6] (.seq (sr_ [v_ 20 1,m_ 21 [k_ (.int .i64 0),k_ (.int .i64 2097151)] (.build [(.int .i64 0),(.int .i64 0)] [(0,1),(1,1)] [0,1]),o1 22 21 (.bslice 2 1 (.agg [(.int .i64 0),(.int .i64 0)]) [0]),k2 23 182 20 22,o1 24 23 ln,z_ 25] (.block 0 (.loop (sr_ [o2 26 25 24 bls_] (.seq (ex_ 26 0) (.seq (.block 1 (sr_ [o2 27 23 25 a2_,o1 28 27 (.load true 2),o0 8 (.alloc (.agg [(.int .i64 0),(.int .i64 0)]) 2),n2 8 28 (.store 2)] (.seq (.dreg [o1 29 8 f0_,o1 30 29 ld,o1 31 2 f1_,o1 32 31 ld,o2 33 30 32 (.bin .shr),o1 34 8 f1_,o1 35 34 ld,o1 36 2 f1_,o1 37 36 ld,o2 38 35 37 (.bin .shr),v_ 9 33,v_ 10 38]) (.seq (sr_ [v_ 39 10,v_ 40 9,o2 41 39 40 bsu_,v_ 42 5,o2 43 41 42 bge_] (i_ 43 (sr_ [v_ 44 5,m_ 45 [k_ (.int .i64 0),s_ 44] (.build [(.int .i64 0),(.int .i64 0)] [(0,1),(1,1)] [0,1]),o1 46 45 (.bslice 2 1 (.agg [(.int .i64 0),(.int .i64 0)]) [0]),v_ 6 46] (.exit 0)) .skip)) (sr_ [v_ 47 9,v_ 48 5,o2 49 47 48 (.bin .and),v_ 50 10,v_ 51 5,o2 52 50 51 (.bin .and),o2 53 49 52 ble_] (i_ 53 (.reg [v_ 54 6,v_ 55 9,v_ 56 5,o2 57 55 56 (.bin .and),v_ 58 10,v_ 59 5,o2 60 58 59 (.bin .and),o2 61 57 60 (.build [(.int .i64 0),(.int .i64 0)] [(0,1),(1,1)] [0,1]),o1 62 61 (.bslice 2 1 (.agg [(.int .i64 0),(.int .i64 0)]) [0]),o2 63 54 62 (.app 2 16 (.agg [(.int .i64 0),(.int .i64 0)])),v_ 6 63]) (.reg [v_ 64 6,v_ 65 10,v_ 66 5,o2 67 65 66 (.bin .and),m_ 68 [k_ (.int .i64 0),s_ 67] (.build [(.int .i64 0),(.int .i64 0)] [(0,1),(1,1)] [0,1]),v_ 69 9,v_ 70 5,o2 71 69 70 (.bin .and),v_ 72 5,o2 73 71 72 (.build [(.int .i64 0),(.int .i64 0)] [(0,1),(1,1)] [0,1]),o2 74 68 73 (.bslice 2 2 (.agg [(.int .i64 0),(.int .i64 0)]) [0,1]),o2 75 64 74 (.app 2 16 (.agg [(.int .i64 0),(.int .i64 0)])),v_ 6 75]))))))) (.reg [i1_ 76 25,v_ 25 76]))))))) (sr_ [v_ 77 6,k1 78 181 77,v_ 6 78] (.seq (sr_ [o1 79 2 f3_,o1 80 79 ld,c2 81 80 (.int .i64 0) beq_] (i_ 81 (sr_ [v_ 82 6,v_ 4 82] .ret) .skip)) (sr_ [o0 11 (.alloc .nilS 1)] (.seq (sr_ [v_ 83 6,k1 84 197 83] (.block 2 (.rng (.slot 84) [85] (.reg [v_ 12 85]) (.block 3 (.dtl [o1 86 11 ld,v_ 87 12,o1 88 2 f3_,o1 89 88 ld,o2 90 87 89 (.bin .shl),v_ 91 12,o1 92 2 f3_,o1 93 92 ld,o2 94 91 93 (.bin .shl),o2 95 90 94 (.build [(.int .i64 0),(.int .i64 0)] [(0,1),(1,1)] [0,1]),o1 96 95 (.bslice 2 1 (.agg [(.int .i64 0),(.int .i64 0)]) [0])] [o2 97 86 96 (.app 2 16 (.agg [(.int .i64 0),(.int .i64 0)])),n2 11 97 st]))))) (sr_ [o1 98 11 ld,k1 99 181 98,v_ 4 99] .ret))))))))))
theorem N9:Ar Tryz.prog 187 2=some ⟨100,2,[(.slot 4)],I6⟩:=by kernel_rfl
def C3:AC:=(sr_ [v_ 5 0,o1 6 5 ln,v_ 4 6] (.reg [v_ 7 0,v_ 8 4,v_ 9 4,o1 10 9 (.conv .u64),k1 11 139 10,v_ 12 1,m_ 13 [k_ (.fn 198 []),s_ 7,k_ (.int .i64 0),s_ 8,s_ 11,s_ 12] .call]))
theorem Ez:Ar Tryz.prog 190 2=some ⟨14,2,[],C3⟩:=by kernel_rfl
def Oa:AC:=(sr_ [bf_ 2] (sr_ [v_ 3 0,c2 4 3 (.int .i64 (-1114111)) bge_,v_ 5 4,g1 6 5 0 .mv,g_ 7 5 true [s_ 6,k_ (.int .i64 1114111)] ble_,m_ 8 [s_ 5,s_ 7,k_ (.bool false)] .pick,v_ 2 8] .ret))
theorem Y9:Ar Tryz.prog 193 1=some ⟨9,1,[(.slot 2)],Oa⟩:=by kernel_rfl
def L5:AC:=(sr_ [bf_ 2] (.seq (sr_ [v_ 5 0,o1 6 5 ln,z_ 7] (.block 0 (.loop (sr_ [o2 8 7 6 bls_] (.seq (ex_ 8 0) (.seq (.block 1 (sr_ [v_ 9 7,o2 10 5 7 a4_,o1 11 10 (.load true 4),o0 4 (.alloc (.agg [(.int .i64 0),(.int .i64 0),(.int .i64 0),(.int .i64 0)]) 4),v_ 3 9,n2 4 11 (.store 4)] (.seq (.dreg [v_ 12 3,c2 13 12 (.int .i64 0) bgt_,v_ 14 13,g1 15 14 4 f3_,g1 16 14 15 ld,g1 17 14 0 .mv,g1 18 14 3 .mv,g_ 19 14 true [s_ 18,k_ (.int .i64 1)] bsu_,g2 20 14 17 19 a4_,g1 21 14 20 f3_,g1 22 14 21 ld,g2 23 14 16 22 ble_,m_ 24 [s_ 14,s_ 23,k_ (.bool false)] .pick]) (i_ 24 (sr_ [bf_ 2] .ret) .skip)))) (.reg [i1_ 25 7,v_ 7 25]))))))) (sr_ [v_ 26 0,o1 27 26 ln,c2 28 27 (.int .i64 4) ble_,v_ 2 28] .ret)))
theorem Vx:Ar Tryz.prog 194 1=some ⟨29,1,[(.slot 2)],L5⟩:=by kernel_rfl
def Kb:AC:=(sr_ [ns_ 0] (sr_ [m_ 1 [k_ (.int .i64 0),k_ (.int .i64 1114111)] (.build [(.int .i64 0),(.int .i64 0)] [(0,1),(1,1)] [0,1]),o1 2 1 (.bslice 2 1 (.agg [(.int .i64 0),(.int .i64 0)]) [0]),v_ 0 2] .ret))
theorem Si:Ar Tryz.prog 195 0=some ⟨3,0,[(.slot 0)],Kb⟩:=by kernel_rfl
def A6:AC:=(sr_ [o1 2 0 .box,ns_ 4,bf_ 5] (sr_ [o0 17 .mkMap,v_ 6 17] (sr_ [ns_ 7] (.seq (sr_ [o1 18 2 f5_,o1 19 18 ld,o1 20 19 ln,z_ 21] (.block 0 (.loop (sr_ [o2 22 21 20 bls_] (.seq (ex_ 22 0) (.seq (.block 1 (sr_ [o2 23 19 21 a4_,o1 24 23 (.load true 4),o0 9 (.alloc (.agg [(.int .i64 0),(.int .i64 0),(.int .i64 0),(.int .i64 0)]) 4),n2 9 24 (.store 4)] (.seq (sr_ [v_ 25 6,o1 26 9 f0_,o1 27 26 ld,o2 28 25 27 (.mapGet .nilS),o1 29 28 ln,c2 30 29 (.int .i64 0) beq_] (i_ 30 (.reg [v_ 31 7,o1 32 9 f0_,o1 33 32 ld,o1 34 33 (.bslice 1 1 (.int .i64 0) [0]),o2 35 31 34 (.app 1 8 (.int .i64 0)),v_ 7 35]) .skip)) (.grx [false,true,true,false,true,true,false,true,false,false,false] [m_ 36 [s_ 6] .mv,m_ 37 [s_ 9] f0_,m_ 38 [s_ 37] ld,m_ 39 [s_ 6] .mv,m_ 40 [s_ 9] f0_,m_ 41 [s_ 40] ld,m_ 42 [s_ 39,s_ 41] (.mapGet .nilS),m_ 43 [s_ 9] (.load true 4),m_ 44 [s_ 43] (.bslice 4 1 (.agg [(.int .i64 0),(.int .i64 0),(.int .i64 0),(.int .i64 0)]) [0]),m_ 45 [s_ 42,s_ 44] (.app 4 32 (.agg [(.int .i64 0),(.int .i64 0),(.int .i64 0),(.int .i64 0)])),h_ [s_ 36,s_ 38,s_ 45] .mapSet])))) (.reg [i1_ 46 21,v_ 21 46]))))))) (sr_ [o1 47 2 f4_,o1 48 47 ld,o1 49 2 f4_,o1 50 49 ld,o2 51 48 50 (.build [(.int .i64 0),(.int .i64 0)] [(0,1),(1,1)] [0,1]),o1 52 51 (.bslice 2 1 (.agg [(.int .i64 0),(.int .i64 0)]) [0]),v_ 10 52] (.seq (sr_ [v_ 53 7,o1 54 53 ln,z_ 55] (.block 2 (.loop (sr_ [o2 56 55 54 bls_] (.seq (ex_ 56 2) (.seq (.block 3 (sr_ [o2 57 53 55 a1_,o1 58 57 ld,v_ 12 58] (.dtl [v_ 59 10,v_ 60 6,v_ 61 12,o2 62 60 61 (.mapGet .nilS),v_ 63 1,v_ 64 12,o2 65 63 64 a1_,o1 66 65 ld,k2 67 201 62 66] [k2 68 200 59 67,v_ 10 68]))) (.reg [i1_ 69 55,v_ 55 69]))))))) (sr_ [v_ 71 10,k1 72 202 71,v_ 70 72,o1 73 70 (.extract 0),o1 74 70 (.extract 1),v_ 13 73,v_ 14 74] (sr_ [v_ 76 10,k1 77 203 76,v_ 75 77,o1 78 75 (.extract 0),o1 79 75 (.extract 1),v_ 15 78,v_ 16 79] (sr_ [v_ 80 10,v_ 81 10,o1 82 81 ln,c2 83 82 (.int .i64 0) bgt_,v_ 84 83,g1 85 84 13 .mv,g_ 86 84 true [s_ 85,k_ (.int .i64 0)] bge_,m_ 87 [s_ 84,s_ 86,k_ (.bool false)] .pick,v_ 88 87,g1 89 88 15 .mv,g_ 90 88 true [s_ 89,k_ (.int .i64 1114111)] ble_,m_ 91 [s_ 88,s_ 90,k_ (.bool false)] .pick,v_ 4 80,v_ 5 91] .ret)))))))))
theorem A9:Ar Tryz.prog 196 2=some ⟨92,2,[(.slot 4),(.slot 5)],A6⟩:=by kernel_rfl
def Qq:AC:=(sr_ [c1 2 .nilF .mv] (sr_ [v_ 4 0,k1 5 181 4,o0 3 (.alloc .nilS 1),n2 3 5 st] (sr_ [o1 6 3 (.mkFunc 204),v_ 2 6] .ret)))
theorem z1n:Ar Tryz.prog 197 1=some ⟨7,1,[(.slot 2)],Qq⟩:=by kernel_rfl
def Dj:AC:=(sr_ [bt_ 10] (sr_ [bt_ 11] (.block 0 (.loop (.block 1 (sr_ [v_ 21 2,v_ 22 1,o2 23 21 22 bsu_,v_ 12 23] (.seq (sr_ [v_ 24 12,c2 25 24 (.int .i64 12) ble_] (i_ 25 (sr_ [v_ 26 0,v_ 27 1,v_ 28 2,v_ 29 4,m_ 30 [k_ (.fn 205 []),s_ 26,s_ 27,s_ 28,s_ 29] .call] .ret) .skip)) (.seq (sr_ [v_ 31 3,c2 32 31 (.int .i64 0) beq_] (i_ 32 (sr_ [v_ 33 0,v_ 34 1,v_ 35 2,v_ 36 4,m_ 37 [k_ (.fn 206 []),s_ 33,s_ 34,s_ 35,s_ 36] .call] .ret) .skip)) (.seq (sr_ [v_ 38 10,o1 39 38 nt] (i_ 39 (sr_ [v_ 40 0,v_ 41 1,v_ 42 2,v_ 43 4,m_ 44 [k_ (.fn 207 []),s_ 40,s_ 41,s_ 42,s_ 43] .call] (.reg [v_ 45 3,c2 46 45 (.int .i64 1) bsu_,v_ 3 46])) .skip)) (sr_ [v_ 48 0,v_ 49 1,v_ 50 2,v_ 51 4,m_ 52 [k_ (.fn 208 []),s_ 48,s_ 49,s_ 50,s_ 51] .call,v_ 47 52,o1 53 47 (.extract 0),o1 54 47 (.extract 1),v_ 13 53,v_ 14 54] (.seq (sr_ [v_ 55 14,c2 56 55 (.int .i64 2) beq_] (i_ 56 (sr_ [v_ 57 0,v_ 58 1,v_ 59 2,v_ 60 4,m_ 61 [k_ (.fn 209 []),s_ 57,s_ 58,s_ 59,s_ 60] .call] (sr_ [v_ 62 2,c2 63 62 (.int .i64 1) bsu_,v_ 64 13,v_ 65 1,o2 66 64 65 bsu_,o2 67 63 66 bsu_,v_ 13 67] (.reg [c1 14 (.int .i64 1) .mv]))) .skip)) (.seq (sr_ [v_ 68 10,v_ 69 68,g1 70 69 11 .mv,m_ 71 [s_ 69,s_ 70,k_ (.bool false)] .pick,v_ 72 71,g1 73 72 14 .mv,g_ 74 72 true [s_ 73,k_ (.int .i64 1)] beq_,m_ 75 [s_ 72,s_ 74,k_ (.bool false)] .pick] (i_ 75 (sr_ [v_ 76 0,v_ 77 1,v_ 78 2,v_ 79 4,m_ 80 [k_ (.fn 210 []),s_ 76,s_ 77,s_ 78,s_ 79] .call] (i_ 80 .ret .skip)) .skip)) (.seq (.seq (.dtl [v_ 81 1,c2 82 81 (.int .i64 0) bgt_,v_ 83 82,g1 84 83 4 .mv,g1 85 83 0 .mv,g1 86 83 1 .mv,g_ 87 83 true [s_ 86,k_ (.int .i64 1)] bsu_,g2 88 83 85 87 a2_,g1 89 83 88 (.load true 2),g1 90 83 0 .mv,g1 91 83 13 .mv,g2 92 83 90 91 a2_,g1 93 83 92 (.load true 2)] [g_ 94 83 true [s_ 84,s_ 89,s_ 93] .call,g_ 95 83 true [s_ 94,k_ (.int .i64 0)] bls_,g1 96 83 95 nt,m_ 97 [s_ 83,s_ 96,k_ (.bool false)] .pick]) (i_ 97 (sr_ [v_ 98 0,v_ 99 1,v_ 100 2,v_ 101 13,v_ 102 4,m_ 103 [k_ (.fn 211 []),s_ 98,s_ 99,s_ 100,s_ 101,s_ 102] .call,v_ 15 103] (sr_ [v_ 104 15,v_ 1 104] (.exit 1))) .skip)) (sr_ [v_ 106 0,v_ 107 1,v_ 108 2,v_ 109 13,v_ 110 4,m_ 111 [k_ (.fn 212 []),s_ 106,s_ 107,s_ 108,s_ 109,s_ 110] .call,v_ 105 111,o1 112 105 (.extract 0),o1 113 105 (.extract 1),v_ 16 112,v_ 17 113] (sr_ [v_ 114 17,v_ 11 114] (sr_ [v_ 115 16,v_ 116 1,o2 117 115 116 bsu_,v_ 118 2,v_ 119 16,o2 120 118 119 bsu_,v_ 18 117,v_ 19 120] (sr_ [v_ 121 12,c2 122 121 (.int .i64 8) (.bin .quo),v_ 20 122] (sr_ [v_ 123 18,v_ 124 19,o2 125 123 124 bls_] (i_ 125 (sr_ [v_ 126 18,v_ 127 20,o2 128 126 127 bge_,v_ 10 128] (sr_ [v_ 129 0,v_ 130 1,v_ 131 16,v_ 132 3,v_ 133 4,m_ 134 [k_ (.fn 198 []),s_ 129,s_ 130,s_ 131,s_ 132,s_ 133] .call] (.reg [v_ 135 16,i1_ 136 135,v_ 1 136]))) (sr_ [v_ 137 19,v_ 138 20,o2 139 137 138 bge_,v_ 10 139] (sr_ [v_ 140 0,v_ 141 16,i1_ 142 141,v_ 143 2,v_ 144 3,v_ 145 4,m_ 146 [k_ (.fn 198 []),s_ 140,s_ 142,s_ 143,s_ 144,s_ 145] .call] (.reg [v_ 147 16,v_ 2 147]))))))))))))))))))))))
theorem Fp:Ar Tryz.prog 198 5=some ⟨148,5,[],Dj⟩:=by kernel_rfl
def Qr:AC:=(sr_ [ns_ 4] (sr_ [ns_ 5] (.seq (sr_ [v_ 10 0,o1 11 10 ln,z_ 12] (.block 0 (.loop (sr_ [o2 13 12 11 bls_] (.seq (ex_ 13 0) (.seq (.block 1 (sr_ [o2 14 10 12 a2_,o1 15 14 (.load true 2),o0 7 (.alloc (.agg [(.int .i64 0),(.int .i64 0)]) 2),n2 7 15 (.store 2)] (.seq (sr_ [v_ 16 1,o1 17 16 ln,z_ 18] (.block 2 (.loop (sr_ [o2 19 18 17 bls_] (.seq (ex_ 19 2) (.seq (.block 3 (sr_ [o2 20 16 18 a2_,o1 21 20 (.load true 2),o0 9 (.alloc (.agg [(.int .i64 0),(.int .i64 0)]) 2),n2 9 21 (.store 2)] (.reg [v_ 22 5,o1 23 7 f0_,o1 24 23 ld,o1 25 9 f0_,o1 26 25 ld,o2 27 24 26 bad_,o1 28 7 f1_,o1 29 28 ld,o1 30 9 f1_,o1 31 30 ld,o2 32 29 31 bad_,o2 33 27 32 (.build [(.int .i64 0),(.int .i64 0)] [(0,1),(1,1)] [0,1]),o1 34 33 (.bslice 2 1 (.agg [(.int .i64 0),(.int .i64 0)]) [0]),o2 35 22 34 (.app 2 16 (.agg [(.int .i64 0),(.int .i64 0)])),v_ 5 35]))) (.reg [i1_ 36 18,v_ 18 36]))))))) (sr_ [v_ 37 5,o1 38 37 ln,c2 39 38 (.int .i64 65536) bgt_] (i_ 39 (.reg [v_ 40 5,k1 41 181 40,v_ 5 41]) .skip))))) (.reg [i1_ 42 12,v_ 12 42]))))))) (sr_ [v_ 43 5,k1 44 181 43,v_ 4 44] .ret))))
theorem z1o:Ar Tryz.prog 200 2=some ⟨45,2,[(.slot 4)],Qr⟩:=by kernel_rfl
def I7:AC:=(sr_ [o1 2 0 .box,ns_ 4] (.seq (sr_ [o1 13 2 ld,o1 14 13 ln,c2 15 14 (.int .i64 1) beq_] (i_ 15 (sr_ [o1 16 2 ld,c2 17 16 (.int .i64 0) a4_,o1 18 17 (.load true 4),v_ 19 1,k2 20 187 18 19,v_ 4 20] .ret) .skip)) (sr_ [o0 5 (.alloc .nilS 1)] (.seq (sr_ [v_ 21 1,k1 22 197 21] (.block 0 (.rng (.slot 22) [23] (.reg [v_ 6 23]) (.block 1 (sr_ [z_ 7] (.seq (sr_ [o1 24 2 ld,o1 25 24 ln,z_ 26] (.block 2 (.loop (sr_ [o2 27 26 25 bls_] (.seq (ex_ 27 2) (.seq (.block 3 (sr_ [o2 28 24 26 a4_,o1 29 28 (.load true 4),o0 9 (.alloc (.agg [(.int .i64 0),(.int .i64 0),(.int .i64 0),(.int .i64 0)]) 4),n2 9 29 (.store 4)] (sr_ [o1 31 9 (.load true 4),v_ 32 6,k2 33 136 31 32,v_ 30 33,o1 34 30 (.extract 0),o1 35 30 (.extract 1),v_ 10 34,v_ 11 35] (.reg [v_ 36 7,v_ 37 10,o2 38 36 37 bad_,v_ 7 38])))) (.reg [i1_ 39 26,v_ 26 39]))))))) (sr_ [o1 40 5 ld,o1 41 40 ln,v_ 12 41] (sr_ [v_ 42 12,c2 43 42 (.int .i64 0) bgt_,v_ 44 43,g1 45 44 5 ld,g1 46 44 12 .mv,g_ 47 44 true [s_ 46,k_ (.int .i64 1)] bsu_,g2 48 44 45 47 a2_,g1 49 44 48 f1_,g1 50 44 49 ld,g1 51 44 7 .mv,g_ 52 44 true [s_ 51,k_ (.int .i64 1)] bsu_,g2 53 44 50 52 beq_,m_ 54 [s_ 44,s_ 53,k_ (.bool false)] .pick] (i_ 54 (.reg [o1 55 5 ld,v_ 56 12,c2 57 56 (.int .i64 1) bsu_,v_ 58 7,o2 59 55 57 a2_,o1 60 59 f1_,n2 60 58 st]) (.reg [o1 61 5 ld,v_ 62 7,v_ 63 7,o2 64 62 63 (.build [(.int .i64 0),(.int .i64 0)] [(0,1),(1,1)] [0,1]),o1 65 64 (.bslice 2 1 (.agg [(.int .i64 0),(.int .i64 0)]) [0]),o2 66 61 65 (.app 2 16 (.agg [(.int .i64 0),(.int .i64 0)])),n2 5 66 st])))))))))) (sr_ [o1 67 5 ld,k1 68 181 67,v_ 4 68] .ret)))))
theorem Qs:Ar Tryz.prog 201 2=some ⟨69,2,[(.slot 4)],I7⟩:=by kernel_rfl
def Ob:AC:=(sr_ [z_ 2,bf_ 3] (sr_ [v_ 5 0,k1 6 181 5,v_ 4 6] (.seq (sr_ [v_ 7 4,o1 8 7 ln,c2 9 8 (.int .i64 0) beq_] (i_ 9 (sr_ [z_ 2,bf_ 3] .ret) .skip)) (sr_ [v_ 10 4,c2 11 10 (.int .i64 0) a2_,o1 12 11 f0_,o1 13 12 ld,v_ 2 13,bt_ 3] .ret))))
theorem Za:Ar Tryz.prog 202 1=some ⟨14,1,[(.slot 2),(.slot 3)],Ob⟩:=by kernel_rfl
def Qt:AC:=(sr_ [z_ 2,bf_ 3] (sr_ [v_ 5 0,k1 6 181 5,v_ 4 6] (.seq (sr_ [v_ 7 4,o1 8 7 ln,c2 9 8 (.int .i64 0) beq_] (i_ 9 (sr_ [z_ 2,bf_ 3] .ret) .skip)) (sr_ [v_ 10 4,v_ 11 4,o1 12 11 ln,c2 13 12 (.int .i64 1) bsu_,o2 14 10 13 a2_,o1 15 14 f1_,o1 16 15 ld,v_ 2 16,bt_ 3] .ret))))
theorem z1p:Ar Tryz.prog 203 1=some ⟨17,1,[(.slot 2),(.slot 3)],Qt⟩:=by kernel_rfl
def If:AC:=(sr_ [o1 6 1 ld,o1 7 6 ln,z_ 8] (.block 0 (.loop (sr_ [o2 9 8 7 bls_] (.seq (ex_ 9 0) (.seq (.block 1 (sr_ [o2 10 6 8 a2_,o1 11 10 (.load true 2),o0 4 (.alloc (.agg [(.int .i64 0),(.int .i64 0)]) 2),n2 4 11 (.store 2)] (sr_ [o1 12 4 f0_,o1 13 12 ld,v_ 5 13] (.block 2 (.loop (.seq (sr_ [v_ 14 5,o1 15 4 f1_,o1 16 15 ld,o2 17 14 16 ble_] (ex_ 17 2)) (.seq (.block 3 (sr_ [v_ 20 0,v_ 21 5,o2 22 20 21 .call,o1 23 22 nt] (i_ 23 .ret .skip))) (.reg [v_ 18 5,i1_ 19 18,v_ 5 19])))))))) (.reg [i1_ 24 8,v_ 8 24])))))))
theorem Vy:Ar Tryz.prog 204 2=some ⟨25,2,[],If⟩:=by kernel_rfl
def Cu:AC:=(sr_ [v_ 10 1,i1_ 11 10,v_ 8 11] (.block 0 (.loop (.seq (sr_ [v_ 12 8,v_ 13 2,o2 14 12 13 bls_] (ex_ 14 0)) (.seq (.block 1 (sr_ [v_ 17 8,v_ 9 17] (.block 2 (.loop (.seq (.seq (.dtl [v_ 18 9,v_ 19 1,o2 20 18 19 bgt_,v_ 21 20,g1 22 21 3 .mv,g1 23 21 0 .mv,g1 24 21 9 .mv,g2 25 21 23 24 a2_,g1 26 21 25 (.load true 2),g1 27 21 0 .mv,g1 28 21 9 .mv,g_ 29 21 true [s_ 28,k_ (.int .i64 1)] bsu_,g2 30 21 27 29 a2_,g1 31 21 30 (.load true 2)] [g_ 32 21 true [s_ 22,s_ 26,s_ 31] .call,g_ 33 21 true [s_ 32,k_ (.int .i64 0)] bls_,m_ 34 [s_ 21,s_ 33,k_ (.bool false)] .pick]) (ex_ 34 2)) (.seq (.block 3 (.greg [v_ 37 0,v_ 38 9,v_ 39 0,v_ 40 9,c2 41 40 (.int .i64 1) bsu_,v_ 42 0,v_ 43 9,c2 44 43 (.int .i64 1) bsu_,o2 45 42 44 a2_,o1 46 45 (.load true 2),v_ 47 0,v_ 48 9,o2 49 47 48 a2_,o1 50 49 (.load true 2),o2 51 37 38 a2_,n2 51 46 (.store 2),o2 52 39 41 a2_,n2 52 50 (.store 2)])) (.reg [v_ 35 9,c2 36 35 (.int .i64 1) bsu_,v_ 9 36]))))))) (.reg [v_ 15 8,i1_ 16 15,v_ 8 16]))))))
theorem Ei:Ar Tryz.prog 205 4=some ⟨53,4,[],Cu⟩:=by kernel_rfl
theorem Ig {P:Program} {f m np b:Nat} {xs:List AV} {l:List Grp} {K:AV→Ac→Prop} {res:List ARes} {B:AC} (hf:Ar P f xs.length=some ⟨m,np,res,B⟩) (hb:b=l.length) (h:W P m b B (entry xs) (Abs.hl l) (Ret P res K)):Be P f xs (Abs.hl l) K:=by
 subst hb;exact Pg hf (W_T h)
theorem zpe (l:List Span):Be Tryz.prog 205 [.ref 0 1 0 0,.int .i64 0,.int .i64 0,.fn 191 []] (Abs.hl [⟨2,1,true,l.map B3⟩]) fun y H'=>y=.tup []∧H'=Abs.hl [⟨2,1,true,l.map B3⟩]:=by
 refine Ig (b:=1) Ei rfl ?_;unfold Cu;(with_reducible repeat' (first|(simp(disch:=omega)only[push_cast,↓zz,seval])|refine And.intro ?_ ?_|(first|refine Ab ?_ ?_|refine Aa ?_ ?_)<;>intro hc<;>(try simp only[push_cast] at hc)|omega|intro _))
 refine Ax (A8 (fun (_:Unit)=>True) (fun _=>0) (fun _=>[(0,.ref 0 1 0 0),(1,.int .i64 0),(2,.int .i64 0),(3,.fn 191 []),(8,.int .i64 1)])
   (fun _=>[⟨2,1,true,l.map B3⟩]) (fun _ _=>[]) () trivial ?_ ?_)
 · (with_reducible repeat' (first|(simp(disch:=omega)only[push_cast,↓zz,seval])|refine And.intro ?_ ?_|(first|refine Ab ?_ ?_|refine Aa ?_ ?_)<;>intro hc<;>(try simp only[push_cast] at hc)|omega|intro _))
 rintro _ _;refine W_T ?_;(with_reducible repeat' (first|(simp(disch:=omega)only[push_cast,↓zz,seval])|refine And.intro ?_ ?_|(first|refine Ab ?_ ?_|refine Aa ?_ ?_)<;>intro hc<;>(try simp only[push_cast] at hc)|omega|intro _))
 all_goals trace_state
set_option maxRecDepth 100000 in
theorem len0:PC Tryz.prog 163 [.int .u64 0] (.int .i64 0):=by
 refine A7 M3 ?_;unfold Hr;(with_reducible repeat' (first|(simp(disch:=omega)only[push_cast,↓zz,seval])|refine And.intro ?_ ?_|(first|refine Ab ?_ ?_|refine Aa ?_ ?_)<;>intro hc<;>(try simp only[push_cast] at hc)|omega|intro _))
 all_goals decide
theorem Oj:PC Tryz.prog 139 [.int .u64 0] (.int .i64 0):=by
 refine A7 Qk ?_;unfold I5;(with_reducible repeat' (first|(simp(disch:=omega)only[push_cast,↓zz,seval])|refine And.intro ?_ ?_|(first|refine Ab ?_ ?_|refine Aa ?_ ?_)<;>intro hc<;>(try simp only[push_cast] at hc)|refine eK len0 ?_|refine eQ len0 ?_|refine eG len0 ?_|((first|refine cK len0 ?_|refine cQ len0 ?_|refine cG len0 ?_);(simp(disch:=omega)only[push_cast,↓zz,seval]);(fail_if_success change False))|omega|intro _))
theorem pdq0 (l:List Span):Be Tryz.prog 198 [.ref 0 1 0 0,.int .i64 0,.int .i64 0,.int .i64 0,.fn 191 []] (Abs.hl [⟨2,1,true,l.map B3⟩]) fun y H'=>y=.tup []∧H'=Abs.hl [⟨2,1,true,l.map B3⟩]:=by
 refine Ig (b:=1) Fp rfl ?_;unfold Dj;(with_reducible repeat' (first|(simp(disch:=omega)only[push_cast,↓zz,seval])|refine And.intro ?_ ?_|(first|refine Ab ?_ ?_|refine Aa ?_ ?_)<;>intro hc<;>(try simp only[push_cast] at hc)|omega|intro _))
 refine Ax (A8 (fun (_:Unit)=>True) (fun _=>0) (fun _=>[(0,.ref 0 1 0 0),(1,.int .i64 0),(2,.int .i64 0),(3,.int .i64 0),(4,.fn 191 []),(10,.bool true),(11,.bool true)])
   (fun _=>[⟨2,1,true,l.map B3⟩]) (fun _ _=>[]) () trivial ?_ ?_)
 · (with_reducible repeat' (first|(simp(disch:=omega)only[push_cast,↓zz,seval])|refine And.intro ?_ ?_|(first|refine Ab ?_ ?_|refine Aa ?_ ?_)<;>intro hc<;>(try simp only[push_cast] at hc)|omega|intro _))
 rintro _ _;refine W_T ?_;(with_reducible repeat' (first|(simp(disch:=omega)only[push_cast,↓zz,seval])|refine And.intro ?_ ?_|(first|refine Ab ?_ ?_|refine Aa ?_ ?_)<;>intro hc<;>(try simp only[push_cast] at hc)|omega|intro _));refine Be.mono (zpe l) ?_;rintro y H' ⟨rfl,rfl⟩;(with_reducible repeat' (first|(simp(disch:=omega)only[push_cast,↓zz,seval])|refine And.intro ?_ ?_|(first|refine Ab ?_ ?_|refine Aa ?_ ?_)<;>intro hc<;>(try simp only[push_cast] at hc)|omega|intro _))
 all_goals trace_state
theorem sort0 (l:List Span):Be Tryz.prog 190 [.ref 0 1 0 0,.fn 191 []] (Abs.hl [⟨2,1,true,l.map B3⟩]) fun y H'=>y=.tup []∧H'=Abs.hl [⟨2,1,true,l.map B3⟩]:=by
 refine Ig (b:=1) Ez rfl ?_;unfold C3;(with_reducible repeat' (first|(simp(disch:=omega)only[push_cast,↓zz,seval])|refine And.intro ?_ ?_|(first|refine Ab ?_ ?_|refine Aa ?_ ?_)<;>intro hc<;>(try simp only[push_cast] at hc)|refine eK Oj ?_|refine eQ Oj ?_|refine eG Oj ?_|((first|refine cK Oj ?_|refine cQ Oj ?_|refine cG Oj ?_);(simp(disch:=omega)only[push_cast,↓zz,seval]);(fail_if_success change False))|omega|intro _));refine Be.mono (pdq0 l) ?_;rintro y H' ⟨rfl,rfl⟩;(with_reducible repeat' (first|(simp(disch:=omega)only[push_cast,↓zz,seval])|refine And.intro ?_ ?_|(first|refine Ab ?_ ?_|refine Aa ?_ ?_)<;>intro hc<;>(try simp only[push_cast] at hc)|omega|intro _))
 all_goals trace_state
def memL (l:List Span) (x:Int):Prop:=∃ s∈l,s.lo≤x∧x≤s.hi
theorem Bj (x:Int):¬memL [] x:=fun⟨s,hs,_⟩=>by cases hs
theorem Aq {s:Span} {l:List Span} {x:Int}:memL (s::l) x↔(s.lo≤x∧x≤s.hi)∨memL l x:=by
 constructor
 · rintro⟨t,ht,hx⟩
   rcases List.mem_cons.1 ht with rfl|ht
   · exact .inl hx
   · exact .inr ⟨t,ht,hx⟩
 · rintro (hx|⟨t,ht,hx⟩)
   · exact⟨s,by simp,hx⟩
   · exact⟨t,by simp[ht],hx⟩
theorem D5 {l m:List Span} {x:Int}:memL (l++m) x↔memL l x∨memL m x:=by
 constructor
 · rintro⟨t,ht,hx⟩
   rcases List.mem_append.1 ht with ht|ht
   · exact .inl ⟨t,ht,hx⟩
   · exact .inr ⟨t,ht,hx⟩
 · rintro (⟨t,ht,hx⟩|⟨t,ht,hx⟩)
   · exact⟨t,by simp[ht],hx⟩
   · exact⟨t,by simp[ht],hx⟩
def Plain (l:List Span):Prop:=(∀ s∈l,s.lo≤s.hi)∧l.Pairwise fun s t=>s.hi+1<t.lo
theorem Plain.tail {s:Span} {l:List Span} (h:Plain (s::l)):Plain l:=⟨fun t ht=>h.1 t (by simp[ht]),(List.pairwise_cons.1 h.2).2⟩
theorem Plain.head {s:Span} {l:List Span} (h:Plain (s::l)):s.lo≤s.hi:=h.1 s (by simp)
theorem Plain.after {s:Span} {l:List Span} (h:Plain (s::l)) {x:Int} (hx:memL l x):s.hi+1<x:=by
 obtain⟨t,ht,h1,h2⟩:=hx;have:=(List.pairwise_cons.1 h.2).1 t ht;omega
theorem I8:∀ {a b:List Span},Plain a→Plain b→(∀ x,memL a x↔memL b x)→a=b
 | [],[],_,_,_=>rfl
 | [],t::b,_,hb,h=>absurd ((h t.lo).2 (Aq.2 (.inl ⟨Int.le_refl _,hb.head⟩))) (Bj _)
 | s::a,[],ha,_,h=>absurd ((h s.lo).1 (Aq.2 (.inl ⟨Int.le_refl _,ha.head⟩))) (Bj _)
 | s::a,t::b,ha,hb,h=>by
   have hs:=ha.head;have ht:=hb.head
   have key:∀ {s t:Span} {a b:List Span},Plain (s::a)→Plain (t::b)→(∀ x,memL (s::a) x↔memL (t::b) x)→t.lo≤s.lo:=fun {s t a b} ha hb h=>by
     rcases Aq.1 ((h s.lo).1 (Aq.2 (.inl ⟨Int.le_refl _,ha.head⟩))) with hh|hh
     · exact hh.1
     · have:=hb.after hh;have:=hb.head;omega
   have hlo:s.lo=t.lo:=Int.le_antisymm (key hb ha fun x=>(h x).symm) (key ha hb h)
   have key2:∀ {s t:Span} {a b:List Span},Plain (s::a)→Plain (t::b)→(∀ x,memL (s::a) x↔memL (t::b) x)→s.lo=t.lo→t.hi≤s.hi:=fun {s t a b} ha hb h e=>by
     have:=ha.head;rcases Int.lt_or_le s.hi t.hi with hlt|hle
     · rcases Aq.1 ((h (s.hi+1)).2 (Aq.2 (.inl ⟨by omega,by omega⟩))) with hh|hh
       · omega
       · have:=ha.after hh;omega
     · exact hle
   have hhi:s.hi=t.hi:=Int.le_antisymm (key2 hb ha (fun x=>(h x).symm) hlo.symm) (key2 ha hb h hlo);have hst:s=t:=by cases s;cases t;simp_all
   subst hst;refine congrArg _ (I8 ha.tail hb.tail fun x=>⟨fun hx=>?_,fun hx=>?_⟩)
   · rcases Aq.1 ((h x).1 (Aq.2 (.inr hx))) with hh|hh
     · have:=ha.after hx;omega
     · exact hh
   · rcases Aq.1 ((h x).2 (Aq.2 (.inr hx))) with hh|hh
     · have:=hb.after hx;omega
     · exact hh
def C9 (out:List Span) (x:Span):List Span :=
 match out.getLast? with
 | some y=>if x.lo≤y.hi+1 then out.dropLast++[⟨y.lo,max y.hi x.hi⟩] else out++[x]
 | none=>[x]
theorem Fw (x:Span):C9 [] x=[x]:=rfl
theorem Ky (out:List Span) (y x:Span):C9 (out++[y]) x=if x.lo≤y.hi+1 then out++[⟨y.lo,max y.hi x.hi⟩] else out++[y]++[x]:=by
 simp[C9]
theorem Fx (l:List Span):l=[]∨∃ m y,l=m++[y]:=by
 rcases List.eq_nil_or_concat l with h|⟨m,y,h⟩
 · exact .inl h
 · exact .inr ⟨m,y,by simpa using h⟩
theorem Gj {m:List Span} {y:Span}:Plain (m++[y])↔Plain m∧y.lo≤y.hi∧∀ s∈m,s.hi+1<y.lo:=by
 simp only[Plain,List.pairwise_append,List.mem_append,List.mem_singleton,List.pairwise_singleton,true_and,or_imp,forall_and,forall_eq];constructor
 · rintro⟨⟨h1,h2⟩,h3,h4⟩;exact⟨⟨h1,h3⟩,h2,h4⟩
 · rintro⟨⟨h1,h3⟩,h2,h4⟩;exact⟨⟨h1,h2⟩,h3,h4⟩
def Before (l:List Span) (x:Int):Prop:=∀ s∈l,s.lo≤x
theorem z1q {out:List Span} {x:Span} (h:Plain out) (hx:x.lo≤x.hi) (hb:Before out x.lo):Plain (C9 out x)∧Before (C9 out x) x.lo∧∀ v,memL (C9 out x) v↔memL out v∨(x.lo≤v∧v≤x.hi):=by
 rcases Fx out with rfl|⟨m,y,rfl⟩
 · refine⟨⟨by simp[Fw,hx],by simp[Fw]⟩,by simp[Fw,Before],fun v=>?_⟩
   rw[Fw,Aq];constructor
   · rintro (h|h)
     · exact .inr h
     · exact absurd h (Bj _)
   · rintro (h|h)
     · exact absurd h (Bj _)
     · exact .inl h
 · rw[Ky]
   obtain⟨h1,h2,h3⟩:=Gj.1 h;have hy:y.lo≤x.lo:=hb y (by simp);split
   · rename_i hle
     refine⟨Gj.2 ⟨h1,by simp only;omega,fun s hs=>h3 s hs⟩,?_,fun v=>?_⟩
     · intro s hs
       rcases List.mem_append.1 hs with hs|hs
       · exact hb s (by simp[hs])
       · simp only[List.mem_singleton] at hs;subst hs;exact hy
     · rw[D5,D5,Aq,Aq]
       simp only[Bj,or_false];constructor
       · rintro (h|h)
         · exact .inl (.inl h)
         · by_cases hv:v≤y.hi
           · exact .inl (.inr ⟨h.1,hv⟩)
           · exact .inr ⟨by omega,by omega⟩
       · rintro ((h|h)|h)
         · exact .inl h
         · exact .inr ⟨h.1,by omega⟩
         · exact .inr ⟨by omega,by omega⟩
   · rename_i hle
     refine⟨Gj.2 ⟨h,hx,fun s hs=>?_⟩,?_,fun v=>?_⟩
     · rcases List.mem_append.1 hs with hs|hs
       · have:=h3 s hs;omega
       · simp only[List.mem_singleton] at hs;subst hs;omega
     · intro s hs
       rcases List.mem_append.1 hs with hs|hs
       · exact hb s hs
       · simp only[List.mem_singleton] at hs;subst hs;exact Int.le_refl _
     · rw[D5,Aq]
       simp only[Bj,or_false]
theorem Hs:∀ (l out:List Span),Plain out→(∀ s∈l,s.lo≤s.hi)→l.Pairwise (fun a b=>a.lo≤b.lo)→(∀ s∈l,Before out s.lo)→Plain (l.foldl C9 out)∧∀ v,memL (l.foldl C9 out) v↔memL out v∨memL l v
 | [],out,h,_,_,_=>⟨h,fun v=>by simp only[List.foldl_nil,Bj,or_false]⟩
 | x::l,out,h,h1,h2,h3=>by
   obtain⟨p1,p2,p3⟩:=z1q h (h1 x (by simp)) (h3 x (by simp));rw[List.pairwise_cons] at h2;obtain⟨q1,q2⟩:=Hs l (C9 out x) p1 (fun s hs=>h1 s (by simp[hs])) h2.2 (fun s hs t ht=>Int.le_trans (p2 t ht) (h2.1 s hs));refine⟨q1,fun v=>?_⟩;rw[List.foldl_cons,q2 v,p3 v,Aq,or_assoc]
theorem z8a (out:List Span) (x:Span):(C9 out x).length≤out.length+1:=by
 rcases Fx out with rfl|⟨m,y,rfl⟩
 · simp[Fw]
 · rw[Ky];split<;>simp
theorem Vz:∀ (l out:List Span),(l.foldl C9 out).length≤out.length+l.length
 | [],out=>by simp
 | x::l,out=>by
   have h1:=Vz l (C9 out x);have h2:=z8a out x;simp only[List.foldl_cons,List.length_cons];omega
def Kz (s:Span):Span:=⟨max s.lo (-1073741824),min s.hi 1073741824⟩
def inN (l:List Span):List Span:=(l.map Kz).filter fun s=>decide (s.lo≤s.hi)
theorem zcq {l:List Span} {x:Int}:memL (inN l) x↔memL l x∧-1073741824≤x∧x≤1073741824:=by
 constructor
 · rintro⟨s,hs,h1,h2⟩
   simp only[inN,List.mem_filter,List.mem_map] at hs;obtain⟨⟨t,ht,rfl⟩,_⟩:=hs;simp only[Kz] at h1 h2;exact⟨⟨t,ht,by omega,by omega⟩,by omega,by omega⟩
 · rintro⟨⟨t,ht,h1,h2⟩,h3,h4⟩
   refine⟨Kz t,?_,by simp only[Kz];omega,by simp only[Kz];omega⟩;simp only[inN,List.mem_filter,List.mem_map,decide_eq_true_eq];exact⟨⟨t,ht,rfl⟩,by simp only[Kz];omega⟩
theorem z5k {l:List Span}:∀ s∈inN l,s.lo≤s.hi:=fun s hs=>by
 simp only[inN,List.mem_filter,decide_eq_true_eq] at hs;exact hs.2
theorem Qu {l m:List Span} (h:l.Perm m) (x:Int):memL l x↔memL m x :=
 ⟨fun⟨s,hs,hx⟩=>⟨s,h.mem_iff.1 hs,hx⟩,fun⟨s,hs,hx⟩=>⟨s,h.mem_iff.2 hs,hx⟩⟩
def A5 (l:List Span):List Span:=((inN l).mergeSort fun a b=>decide (a.lo≤b.lo)).foldl C9 []
theorem zi5 {l m:List Span} (hp:m.Perm (inN l)) (hs:m.Pairwise fun a b=>a.lo≤b.lo):m.foldl C9 []=A5 l:=by
 have hq:((inN l).mergeSort fun a b=>decide (a.lo≤b.lo)).Perm (inN l):=List.mergeSort_perm _ _
 have hs':((inN l).mergeSort fun a b=>decide (a.lo≤b.lo)).Pairwise fun a b=>a.lo≤b.lo:=by
   have:=List.pairwise_mergeSort (le:=fun a b:Span=>decide (a.lo≤b.lo)) (fun a b c h1 h2=>by simp at *;omega) (fun a b=>by simp;omega) (inN l);simpa using this
 obtain⟨a1,a2⟩:=Hs m [] ⟨by simp,by simp⟩ (fun s h=>z5k s (hp.mem_iff.1 h)) hs (fun s _ t ht=>by cases ht);obtain⟨b1,b2⟩:=Hs _ [] ⟨by simp,by simp⟩ (fun s h=>z5k s (hq.mem_iff.1 h)) hs' (fun s _ t ht=>by cases ht);refine I8 a1 b1 fun x=>?_;rw[A5,a2 x,b2 x,Qu hp x,Qu hq x]
theorem Av (l:List Span):Plain (A5 l)∧∀ x,memL (A5 l) x↔memL l x∧-1073741824≤x∧x≤1073741824:=by
 have hq:((inN l).mergeSort fun a b=>decide (a.lo≤b.lo)).Perm (inN l):=List.mergeSort_perm _ _
 have hs':((inN l).mergeSort fun a b=>decide (a.lo≤b.lo)).Pairwise fun a b=>a.lo≤b.lo:=by
   have:=List.pairwise_mergeSort (le:=fun a b:Span=>decide (a.lo≤b.lo)) (fun a b c h1 h2=>by simp at *;omega) (fun a b=>by simp;omega) (inN l);simpa using this
 obtain⟨b1,b2⟩:=Hs _ [] ⟨by simp,by simp⟩ (fun s h=>z5k s (hq.mem_iff.1 h)) hs' (fun s _ t ht=>by cases ht);refine⟨b1,fun x=>?_⟩;rw[A5,b2 x,Qu hq x,zcq];simp only[Bj,false_or]
theorem z1r (l:List Span):(inN l).length≤l.length:=by
 have:=List.length_filter_le (fun s:Span=>decide (s.lo≤s.hi)) (l.map Kz);simpa [inN] using this
theorem Ec (l:List Span):(A5 l).length≤l.length:=by
 have h1:=Vz ((inN l).mergeSort fun a b=>decide (a.lo≤b.lo)) [];have h2:=z1r l;rw[List.length_mergeSort] at h1;simp only[List.length_nil] at h1;rw[A5];omega
end Go.Proofs.YtbcjoeadpjfcfaaGreat
namespace Go.Proofs.YtbcjoeadpjfcfaaGreat.Abs
section
variable {P:Program} {n b:Nat} {S:MS} {H:Ac}
theorem put_defers (a:Act) (d:Option Nat) (v:Value):(a.put d v).defers=a.defers:=by cases d<;>rfl
theorem zts (hS:SRel S H) {env:Env} {a:Act} (hF:FRel S n env a) {o:Oper} {q:AOp} {ops:Array Oper} (h:Bs P n ops o=some q) {K:AV→Ac→Prop} (hst:Ae P q.k H (q.vals env) K)
   {N:Act→World→Prop} {Q:Exit→Act→World→Prop} (hN:∀ S' H' x a',Evo S S'→SRel S' H'→FRel S' n (env.put q.dst x) a'→a'.defers=a.defers→K x H'→N a' S'.w) (r:Option Nat) (m:Nat):o.wpIn (fen r) m P a S.w N Q:=by
 obtain⟨h1,h2,h3,h4,_⟩:=Bh h;have hargs:=Jp hF h2;have h1':=H7 h1 fun e=>by rw[e] at hst;simp[Ae] at hst
 have hsem:o.semAt (fen r).round a.eval=execOp a.eval o:=Oper.semAt_eq _ _ _ fun c hc=>by rw[hc] at h1';cases h1'
 rcases So hS o h1 (ρ:=a.eval) hargs hst with⟨v,S',x,H',hr,e,hS',hv,hK⟩|⟨f,cargs,hr,hc⟩
 · have hN':=fun v' (hv':VRel S' x v')=>hN S' H' x (a.put o.dst v') e hS' (by rw[h3];exact (hF.mono e).put h4 hv') (put_defers _ _ _) hK
   refine⟨fun _ _=>trivial,?_⟩;rw[hsem];rcases hr with hr|⟨hr,rfl⟩<;>rw[hr]
   · exact hN' v hv
   · exact hN' undef hv
 · refine⟨fun _ _=>trivial,?_⟩
   rw[hsem,hr,Oper.uponIn_enter];refine⟨fun h=>(by cases h),Pb (hc.mono fun e w' hh=>?_)⟩;obtain⟨v,S',x,H',rfl,rfl,ev,hS',hv,hK⟩:=hh;exact hN S' H' x (a.put o.dst v) ev hS' (by rw[h3];exact (hF.mono ev).put h4 hv) (put_defers _ _ _) hK
theorem Ht {ops:Array Oper} {Q:Exit→Act→World→Prop} {rd:Option Nat} {m:Nat} (tl:List Nat):∀ (l:List Oper) (l':List AOp) (k:Nat),(∀ j,j<l.length→l[j]? = ops[k+j]?)→l.mapM (Bs P n ops)=some l'→∀ {S:MS} {H:Ac} {env:Env} {a:Act} {K:Env→Ac→Prop},
   SRel S H→FRel S n env a→runK P l' env H K→(∀ S' H' env' a',Evo S S'→SRel S' H'→FRel S' n env' a'→a'.defers=a.defers→K env' H'→wpOpsIn (fen rd) m P ops Q tl a' S'.w)→wpOpsIn (fen rd) m P ops Q (List.range' k l.length++tl) a S.w
 | [],l',k,_,hm,S,H,env,a,K,hS,hF,hr,hQ=>by
   simp at hm;subst hm;exact hQ S H env a (.refl S) hS hF rfl hr
 | o::l,l',k,hl,hm,S,H,env,a,K,hS,hF,hr,hQ=>by
   rw[List.mapM_cons] at hm;simp only[Option.bind_eq_bind,Option.bind_eq_some_iff,Option.pure_def,Option.some.injEq] at hm;obtain⟨q,hq,r,hrr,rfl⟩:=hm;have h0:ops[k]? = some o:=by simpa using (hl 0 (by simp)).symm
   have hl':∀ j,j<l.length→l[j]? = ops[k+1+j]? := fun j hj=>by have:=hl (j+1) (by simp;omega);simpa [Nat.add_assoc,Nat.add_comm 1 j] using this
   have hg:=Pa hq hF hr;rw[show List.range' k (o::l).length++tl=k::(List.range' (k+1) l.length++tl) from rfl];simp only[wpOpsIn,h0];cases hw:Region.wanted o (yielded ops a.tmps)
   · rw[hw] at hg
     simp only[Bool.false_eq_true,if_false] at hg ⊢;obtain⟨_,_,h3,h4,_⟩:=Bh hq;exact⟨fun _ _=>trivial,Ht tl l r (k+1) hl' hrr hS (by rw[h3];exact hF.put h4 Ix) hg (fun S' H' env' a' e hS' hF' hd=>hQ S' H' env' a' e hS' hF' (hd.trans (put_defers _ _ _)))⟩
   · rw[hw] at hg
     simp only[if_true] at hg ⊢;refine zts hS hF hq hg (fun S' H' x a' e hS' hF' hd hK=>?_) rd m;exact Ht tl l r (k+1) hl' hrr hS' hF' hK (fun S2 H2 env2 a2 e2 hS2 hF2 hd2 hK2=>hQ S2 H2 env2 a2 (e.trans e2) hS2 hF2 (hd2.trans hd) hK2)
end
structure Itr where
 P:Program
 l:Nat
 m:Nat
 rows:List (List AV)
 S0:MS
 J:Nat→(Nat→Prop)→World→Prop
 Jx:Nat→(Nat→Prop)→World→Prop
 cJ:Clo J
 cx:Clo Jx
 fact:∀ k O W,J k O W∨Jx k O W→(∀ b,S0.im b→¬O b∧W.heap[b]? = S0.w.heap[b]?)∧(W.os=S0.w.os∧Kh W S0.w∧W.output=S0.w.output)∧S0.w.heap.size≤W.heap.size∧∀ b,O b→S0.w.heap.size≤b∧b<W.heap.size
 round:∀ k row O W,rows[k]? = some row→J k O W→YieldAt Fence.wide m P l (encI row) W fun e W'=>W.heap.size≤W'.heap.size∧(∀ b,O b→W'.heap[b]? = W.heap[b]?)∧(e=.returned (.bool true)∧J (k+1) O W'∨e=.returned (.bool false)∧Jx (k+1) O W')
namespace Itr
def at_ (I:Itr):Option Nat→(Nat→Prop)→World→Prop
 | some k,O,W=>I.J k O W
 | none,O,W=>∃ k,I.Jx k O W
structure Now (I:Itr) (s:Option Nat) (X:Nat→Prop) (S:MS) (H:Ac):Prop where
 rel:SRel S H
 base:S.base≤S.w.heap.size
 keep:∀ b,X b→S.keep b
 im:∀ b,I.S0.im b→S.im b
 apart:∀ b,S.im b→I.S0.im b∨¬X b
 st:I.at_ s (fun b=>b<S.w.heap.size∧¬X b∧¬I.S0.im b) S.w
theorem Now.on {I:Itr} {s:Option Nat} {X:Nat→Prop} {S S':MS} {H H':Ac} (h:I.Now s X S H) (e:Evo S S') (hr:SRel S' H'):I.Now s X S' H':=by
 have hX:∀ b,X b→b<S.w.heap.size:=fun b hb=>h.rel.im b (.inr (h.keep b hb));have hi0:∀ b,I.S0.im b→b<S.w.heap.size:=fun b hb=>h.rel.im b (.inl (h.im b hb));refine⟨hr,by rw[e.base];exact Nat.le_trans h.base e.size,fun b hb=>e.keep b (h.keep b hb),fun b hb=>e.im b (h.im b hb),fun b hb=>?_,?_⟩
 · rcases e.fresh b hb with hh|hh
   · exact h.apart b hh
   · exact .inr fun hx=>hh (h.keep b hx)
 · have ho:(fun b=>b<S'.w.heap.size∧¬X b∧¬I.S0.im b)=fun b=>(b<S.w.heap.size∧¬X b∧¬I.S0.im b)∨(S.w.heap.size≤b∧b<S'.w.heap.size):=by
     funext b;refine propext ⟨fun⟨h1,h2,h3⟩=>?_,fun hh=>?_⟩
     · rcases Nat.lt_or_ge b S.w.heap.size with hl|hl
       · exact .inl ⟨hl,h2,h3⟩
       · exact .inr ⟨hl,h1⟩
     · rcases hh with⟨h1,h2,h3⟩|⟨h1,h2⟩
       · exact⟨Nat.lt_of_lt_of_le h1 e.size,h2,h3⟩
       · exact⟨h2,fun hx=>by have:=hX b hx;omega,fun hx=>by have:=hi0 b hx;omega⟩
   rw[ho]
   have hk:∀ b,b<S.w.heap.size→¬(b<S.w.heap.size∧¬X b∧¬I.S0.im b)→S'.w.heap[b]? = S.w.heap[b]? := fun b hb hn=>by
     by_cases hx:X b
     · exact e.kept b (.inr (h.keep b hx))
     · by_cases hi:I.S0.im b
       · exact e.kept b (.inl (h.im b hi))
       · exact absurd ⟨hb,hx,hi⟩ hn
   cases s with
   | some k=>exact I.cJ k _ _ _ h.st e.os e.tape e.output e.size hk
   | none=>obtain⟨k,hj⟩:=h.st;exact⟨k,I.cx k _ _ _ hj e.os e.tape e.output e.size hk⟩
theorem Now.round {I:Itr} {k:Nat} {X:Nat→Prop} {S:MS} {H:Ac} (h:I.Now (some k) X S H) {W':World} {s':Option Nat} (hsz:S.w.heap.size≤W'.heap.size) (ho:∀ b,b<S.w.heap.size∧¬X b∧¬I.S0.im b→W'.heap[b]? = S.w.heap[b]?)
   (hi:∀ b,I.S0.im b→W'.heap[b]? = S.w.heap[b]?) (hst:I.at_ s' (fun b=>b<S.w.heap.size∧¬X b∧¬I.S0.im b) W') :
   ∃ S',S'.w=W'∧I.Now s' (fun b=>X b∨(S.w.heap.size≤b∧b<W'.heap.size)) S' H∧Evi S S':=by
 obtain⟨S',hd⟩:∃ S':MS,S'={ S with w:=W',keep:=fun b=>S.keep b∨(S.w.heap.size≤b∧b<W'.heap.size) }:=⟨_,rfl⟩;have hX:∀ b,X b→b<S.w.heap.size:=fun b hb=>h.rel.im b (.inr (h.keep b hb));have him:∀ b,S.im b→b<S.w.heap.size:=fun b hb=>h.rel.im b (.inl hb);have hi0:∀ b,I.S0.im b→b<S.w.heap.size:=fun b hb=>him b (h.im b hb)
 have hw:∀ b,S.im b→W'.heap[b]? = S.w.heap[b]? := fun b hb=>by
   by_cases h0:I.S0.im b
   · exact hi b h0
   · exact ho b ⟨him b hb,(h.apart b hb).resolve_left h0,h0⟩
 refine⟨S',by rw[hd],⟨?_,?_,?_,?_,?_,?_⟩,?_⟩
 · subst hd
   exact h.rel.turn2 hw rfl rfl rfl rfl rfl rfl (fun b hb=>hb.imp id And.left) (fun b hb=>hb.elim (fun hh=>Nat.lt_of_lt_of_le (h.rel.im b (.inr hh)) hsz) And.right)
     (fun b hb hl=>ho b ⟨hl,fun hx=>hb (.inr (h.keep b hx)),fun hx=>hb (.inl (h.im b hx))⟩) hsz
 · subst hd;exact Nat.le_trans h.base hsz
 · subst hd;exact fun b hb=>hb.imp (h.keep b) id
 · subst hd;exact h.im
 · subst hd
   intro b hb;rcases h.apart b hb with hh|hh
   · exact .inl hh
   · exact .inr fun hx=>hx.elim hh fun hx=>by have:=him b hb;omega
 · subst hd
   have e:(fun b=>b<W'.heap.size∧¬(X b∨(S.w.heap.size≤b∧b<W'.heap.size))∧¬I.S0.im b)=fun b=>b<S.w.heap.size∧¬X b∧¬I.S0.im b:=by
     funext b;refine propext ⟨fun⟨h1,h2,h3⟩=>⟨?_,fun hx=>h2 (.inl hx),h3⟩,fun⟨h1,h2,h3⟩=>⟨by omega,fun hx=>hx.elim h2 (fun hh=>by omega),h3⟩⟩;rcases Nat.lt_or_ge b S.w.heap.size with hl|hl
     · exact hl
     · exact absurd (.inr ⟨hl,h1⟩) h2
   show I.at_ s' _ W';rw[e];exact hst
 · subst hd
   exact Evi.of hw rfl rfl rfl rfl rfl rfl
end Itr
def L6 (I:Itr) (n:Nat) (Q:Option Nat→Ex→Env→Ac→Prop) (e:Exit) (a:Act) (w:World):Prop :=
 ∃ S' env H' x s X,S'.w=w∧I.Now s X S' H'∧FRel S' n env a∧a.defers=[]∧e=Ex.up x∧Q s x env H'
def TI (I:Itr) (n:Nat) (c:AC) (s:Option Nat) (env:Env) (H:Ac) (Q:Option Nat→Ex→Env→Ac→Prop):Prop :=
 ∀ code,C7 I.P n code=some c→∀ S a X,I.Now s X S H→FRel S n env a→a.defers=[]→code.wpIn (fen none) (I.m+1) I.P (L6 I n Q) a S.w
section
variable {I:Itr} {n:Nat} {s:Option Nat} {env:Env} {H:Ac} {Q:Option Nat→Ex→Env→Ac→Prop}
theorem zi6 {F:Fence} {mm:Nat} {c:Code} {a:Act} {w:World} (h:c.wpIn F mm I.P (L6 I n Q) a w):(Code.scope c).wpIn F mm I.P (L6 I n Q) a w:=by
 refine Gr (wpIn_mono h fun e a w hh=>?_);obtain⟨S2,env,H',y,s,X,h1,h2,h3,h4,h5,h6⟩:=hh;subst h5;cases y<;>exact⟨S2,env,H',_,s,X,h1,h2,h3,h4,rfl,h6⟩
theorem V0 {c:AC} (h:∀ code,C7 I.P n code=some c→(∀ d,code≠.scope d)→∀ S a X,I.Now s X S H→FRel S n env a→a.defers=[]→code.wpIn (fen none) (I.m+1) I.P (L6 I n Q) a S.w):TI I n c s env H Q:=by
 intro code
 induction code with
 | scope d ih=>exact fun hc S a X hN hF hd=>zi6 (ih (by simpa [C7] using hc) S a X hN hF hd)
 | skip=>exact fun hc=>h _ hc (by simp)
 | region=>exact fun hc=>h _ hc (by simp)
 | seq=>exact fun hc=>h _ hc (by simp)
 | cond=>exact fun hc=>h _ hc (by simp)
 | block=>exact fun hc=>h _ hc (by simp)
 | loop=>exact fun hc=>h _ hc (by simp)
 | rangeFunc=>exact fun hc=>h _ hc (by simp)
 | exit=>exact fun hc=>h _ hc (by simp)
 | label=>exact fun hc=>h _ hc (by simp)
 | goto=>exact fun hc=>h _ hc (by simp)
 | ret=>exact fun hc=>h _ hc (by simp)
 | refuse=>exact fun hc=>h _ hc (by simp)
theorem zpf (h:Q s .normal env H):TI I n .skip s env H Q:=V0 fun code hc hs S a X hN hF hd=>by
 have hA:L6 I n Q .normal a S.w:=⟨S,env,H,.normal,s,X,rfl,hN,hF,hd,rfl,h⟩;cases code<;>simp only[C7,reduceCtorEq,Option.some.injEq] at hc
 case skip=>exact wpIn_skip hA
 case label=>exact wpIn_label hA
 case region=>exact absurd hc Cf
 case seq=>split at hc<;>cases hc
 case cond=>split at hc<;>cases hc
 case block=>obtain⟨_,_,h⟩:=Option.map_eq_some_iff.1 hc;cases h
 case loop=>obtain⟨_,_,h⟩:=Option.map_eq_some_iff.1 hc;cases h
 case rangeFunc=>split at hc<;>cases hc
 case scope d=>exact absurd rfl (hs d)
theorem zpg {id:Nat} (h:Q s (.exit id) env H):TI I n (.exit id) s env H Q:=V0 fun code hc hs S a X hN hF hd=>by
 cases code<;>simp only[C7,reduceCtorEq,Option.some.injEq] at hc
 case exit k=>cases hc;exact wpIn_exit ⟨S,env,H,.exit id,s,X,rfl,hN,hF,hd,rfl,h⟩
 case region=>exact absurd hc Cf
 case seq=>split at hc<;>cases hc
 case cond=>split at hc<;>cases hc
 case block=>obtain⟨_,_,h⟩:=Option.map_eq_some_iff.1 hc;cases h
 case loop=>obtain⟨_,_,h⟩:=Option.map_eq_some_iff.1 hc;cases h
 case rangeFunc=>split at hc<;>cases hc
 case scope d=>exact absurd rfl (hs d)
theorem ztt (h:Q s .ret env H):TI I n .ret s env H Q:=V0 fun code hc hs S a X hN hF hd=>by
 cases code<;>simp only[C7,reduceCtorEq,Option.some.injEq] at hc
 case ret=>exact wpIn_ret ⟨S,env,H,.ret,s,X,rfl,hN,hF,hd,rfl,h⟩
 case region=>exact absurd hc Cf
 case seq=>split at hc<;>cases hc
 case cond=>split at hc<;>cases hc
 case block=>obtain⟨_,_,h⟩:=Option.map_eq_some_iff.1 hc;cases h
 case loop=>obtain⟨_,_,h⟩:=Option.map_eq_some_iff.1 hc;cases h
 case rangeFunc=>split at hc<;>cases hc
 case scope d=>exact absurd rfl (hs d)
def Ex.thenI (K:Option Nat→Env→Ac→Prop) (Q:Option Nat→Ex→Env→Ac→Prop):Option Nat→Ex→Env→Ac→Prop
 | s,.normal,env,H=>K s env H
 | s,x,env,H=>Q s x env H
theorem G7 {x y:AC} (h:TI I n x s env H (Ex.thenI (fun s' env' H'=>TI I n y s' env' H' Q) Q)):TI I n (.seq x y) s env H Q:=V0 fun code hc hs S a X hN hF hd=>by
 cases code<;>simp only[C7,reduceCtorEq,Option.some.injEq] at hc
 case seq c d =>
   split at hc
   · rename_i x' y' hx hy
     cases hc;refine wpIn_seq (wpIn_mono (h c hx S a X hN hF hd) fun e a' w' hh=>?_);obtain⟨S2,env2,H2,z,s2,X2,rfl,hN2,hF2,hd2,rfl,hq⟩:=hh;cases z with
     | normal=>exact hq d hy S2 a' X2 hN2 hF2 hd2
     | exit id=>exact⟨S2,env2,H2,.exit id,s2,X2,rfl,hN2,hF2,hd2,rfl,hq⟩
     | ret=>exact⟨S2,env2,H2,.ret,s2,X2,rfl,hN2,hF2,hd2,rfl,hq⟩
   · cases hc
 case region=>exact absurd hc Cf
 case cond=>split at hc<;>cases hc
 case block=>obtain⟨_,_,h⟩:=Option.map_eq_some_iff.1 hc;cases h
 case loop=>obtain⟨_,_,h⟩:=Option.map_eq_some_iff.1 hc;cases h
 case rangeFunc=>split at hc<;>cases hc
 case scope d=>exact absurd rfl (hs d)
theorem zph {c:AArg} {x y:AC} {q:Bool} (hc:c.eval env=.bool q) (ht:q=true→TI I n x s env H Q) (hf:q=false→TI I n y s env H Q):TI I n (.cond c x y) s env H Q:=V0 fun code hcc hs S a X hN hF hd=>by
 cases code<;>simp only[C7,reduceCtorEq,Option.some.injEq] at hcc
 case cond z p q' =>
   split at hcc
   · rename_i z' p2 q2 hz hp hq
     cases hcc;have hv:=U7 hF hz;rw[hc] at hv;exact wpIn_cond_split (t:=q) hv (fun hbb=>ht hbb p hp S a X hN hF hd) (fun hbb=>hf hbb q' hq S a X hN hF hd)
   · cases hcc
 case region=>exact absurd hcc Cf
 case seq=>split at hcc<;>cases hcc
 case block=>obtain⟨_,_,h⟩:=Option.map_eq_some_iff.1 hcc;cases h
 case loop=>obtain⟨_,_,h⟩:=Option.map_eq_some_iff.1 hcc;cases h
 case rangeFunc=>split at hcc<;>cases hcc
 case scope d=>exact absurd rfl (hs d)
def Ex.inBlockI (id:Nat) (Q:Option Nat→Ex→Env→Ac→Prop):Option Nat→Ex→Env→Ac→Prop
 | s,.exit k,env,H=>if k=id then Q s .normal env H else Q s (.exit k) env H
 | s,x,env,H=>Q s x env H
theorem Ih {id:Nat} {c:AC} (h:TI I n c s env H (Ex.inBlockI id Q)):TI I n (.block id c) s env H Q:=V0 fun code hc hs S a X hN hF hd=>by
 cases code<;>simp only[C7,reduceCtorEq,Option.some.injEq] at hc
 case block k d =>
   obtain⟨x,hx,hh⟩:=Option.map_eq_some_iff.1 hc;cases hh;refine wpIn_block (wpIn_mono (h d hx S a X hN hF hd) fun e a' w' hh=>?_);obtain⟨S2,env2,H2,z,s2,X2,h1,hN2,hF2,hd2,rfl,hq⟩:=hh;cases z with
   | normal=>exact⟨S2,env2,H2,.normal,s2,X2,h1,hN2,hF2,hd2,rfl,hq⟩
   | exit j =>
     simp only[Ex.up,Exit.inBlock];simp only[Ex.inBlockI] at hq;split
     · rename_i hj;rw[if_pos hj] at hq;exact⟨S2,env2,H2,.normal,s2,X2,h1,hN2,hF2,hd2,rfl,hq⟩
     · rename_i hj;rw[if_neg hj] at hq;exact⟨S2,env2,H2,.exit j,s2,X2,h1,hN2,hF2,hd2,rfl,hq⟩
   | ret=>exact⟨S2,env2,H2,.ret,s2,X2,h1,hN2,hF2,hd2,rfl,hq⟩
 case region=>exact absurd hc Cf
 case seq=>split at hc<;>cases hc
 case cond=>split at hc<;>cases hc
 case loop=>obtain⟨_,_,h⟩:=Option.map_eq_some_iff.1 hc;cases h
 case rangeFunc=>split at hc<;>cases hc
 case scope d=>exact absurd rfl (hs d)
theorem z1s {σ:Type} (Inv:σ→Option Nat→Env→Ac→Prop) (μ:σ→Nat) {c:AC} (s0:σ) (h0:Inv s0 s env H)
   (round:∀ t s env H,Inv t s env H→TI I n c s env H (Ex.thenI (fun s' env' H'=>∃ t',Inv t' s' env' H'∧μ t'<μ t) Q)):TI I n (.loop c) s env H Q:=V0 fun code hc hs S a X hN hF hd=>by
 cases code<;>simp only[C7,reduceCtorEq,Option.some.injEq] at hc
 case loop d =>
   obtain⟨x,hx,hh⟩:=Option.map_eq_some_iff.1 hc;cases hh;refine wpIn_loop_ghost (fun k a w=>∃ S' t s env H X,S'.w=w∧I.Now s X S' H∧FRel S' n env a∧a.defers=[]∧Inv t s env H∧μ t=k) (μ s0) ⟨S,s0,s,env,H,X,rfl,hN,hF,hd,h0,rfl⟩ ?_;rintro k a w ⟨S1,t,s1,env1,H1,X1,rfl,hN1,hF1,hd1,hI,rfl⟩;refine wpIn_mono (round t s1 env1 H1 hI d hx S1 a X1 hN1 hF1 hd1) fun e a' w' hh=>?_;obtain⟨S2,env2,H2,z,s2,X2,rfl,hN2,hF2,hd2,rfl,hq⟩:=hh;cases z with
   | normal =>
     obtain⟨t',h1,h2⟩:=hq;exact⟨μ t',h2,S2,t',s2,env2,H2,X2,rfl,hN2,hF2,hd2,h1,rfl⟩
   | exit id=>exact⟨S2,env2,H2,.exit id,s2,X2,rfl,hN2,hF2,hd2,rfl,hq⟩
   | ret=>exact⟨S2,env2,H2,.ret,s2,X2,rfl,hN2,hF2,hd2,rfl,hq⟩
 case region=>exact absurd hc Cf
 case seq=>split at hc<;>cases hc
 case cond=>split at hc<;>cases hc
 case block=>obtain⟨_,_,h⟩:=Option.map_eq_some_iff.1 hc;cases h
 case rangeFunc=>split at hc<;>cases hc
 case scope d=>exact absurd rfl (hs d)
theorem ztu {ops:List AOp} (h:runK I.P ops env H fun env' H'=>Q s .normal env' H'):TI I n (.reg ops) s env H Q:=V0 fun code hc hs S a X hN hF hd=>by
 cases code<;>simp only[C7,reduceCtorEq,Option.some.injEq] at hc
 case region id l draw =>
   split at hc
   · rename_i r hr
     obtain⟨hd',rfl⟩:=Kp hc;subst hd';refine wpIn_region ?_;have:=Ht (ops:=l) (rd:=none) (m:=I.m+1) (Q:=L6 I n Q) [] l.toList ops 0 (by simp) hr hN.rel hF h (fun S' H' env' a' e hS' hF' hdd hK=>⟨S',env',H',.normal,s,X,rfl,hN.on e hS',hF',hdd.trans hd,rfl,hK⟩);rw[List.range_eq_range'];simpa using this
   · cases hc
 case seq=>split at hc<;>cases hc
 case cond=>split at hc<;>cases hc
 case block=>obtain⟨_,_,h⟩:=Option.map_eq_some_iff.1 hc;cases h
 case loop=>obtain⟨_,_,h⟩:=Option.map_eq_some_iff.1 hc;cases h
 case rangeFunc=>split at hc<;>cases hc
 case scope d=>exact absurd rfl (hs d)
theorem Tq {α β:Type} {f:α→Option β}:∀ (p:List β) {l:List α} {y:β} {q:List β},l.mapM f=some (p++y::q)→∃ l1 o l2,l=l1++o::l2∧l1.mapM f=some p∧f o=some y∧l2.mapM f=some q
 | [],l,y,q,h=>by
   cases l with
   | nil=>simp at h
   | cons o l =>
     rw[List.mapM_cons] at h;simp only[Option.bind_eq_bind,Option.bind_eq_some_iff,Option.pure_def,Option.some.injEq,List.nil_append,List.cons.injEq] at h;obtain⟨y',hy,r,hr,rfl,rfl⟩:=h;exact⟨[],o,l,rfl,rfl,hy,hr⟩
 | z::p,l,y,q,h=>by
   cases l with
   | nil=>simp at h
   | cons o l =>
     rw[List.mapM_cons] at h;simp only[Option.bind_eq_bind,Option.bind_eq_some_iff,Option.pure_def,Option.some.injEq,List.cons_append,List.cons.injEq] at h;obtain⟨z',hz,r,hr,rfl,rfl⟩:=h;obtain⟨l1,o',l2,rfl,h1,h2,h3⟩:=Tq p hr;exact⟨o::l1,o',l2,rfl,by rw[List.mapM_cons,hz,h1];rfl,h2,h3⟩
theorem z8b {P:Program} {op:Op} (h:Bt P op=some .call):∃ g args argTypes,op=.call { callee:=.value g,args,argTypes }:=by
 replace h:=H7 h (by simp);cases op
 case call c =>
   obtain⟨callee,args,argTypes⟩:=c;cases callee<;>simp only[Dl,Dt,reduceCtorEq] at h
   case value g=>exact⟨g,args,argTypes,rfl⟩
   case builtin b =>
     repeat' split at h
     all_goals first
       | (cases h;done)
       | (simp at h;done)
 all_goals simp only[Dl,reduceCtorEq] at h
 all_goals repeat' split at h
 all_goals first
   | contradiction
   | (cases h;done)
   | (obtain⟨⟨_,_⟩,_,h⟩:=Option.map_eq_some_iff.1 h;cases h;done)
   | (obtain⟨_,_,h⟩:=Option.map_eq_some_iff.1 h;cases h;done)
   | (simp at h;done)
def ztv (x:AV):Prop:=∀ S v,VRel S x v→v=valOf x
theorem Tr {S:MS}:∀ {xs:List AV} {vs:List Value},(∀ x∈xs,ztv x)→Ad S xs vs→vs=xs.map valOf
 | [],vs,_,h=>h
 | x::xs,vs,hf,⟨v,r,hv,h1,h2⟩=>by
   rw[hv,hf x (by simp) S v h1,Tr (fun y hy=>hf y (by simp[hy])) h2];rfl
theorem z5l {pre post:List AOp} {y:AOp} {k:Nat} (hk:y.k=.call) (hg:y.guard=none)
   (h:runK I.P pre env H fun env1 H1=>∃ row,y.vals env1=.yld I.l::row∧(∀ x∈row,ztv x)∧I.rows[k]? = some row ∧
     runK I.P post (env1.put y.dst (.bool true)) H1 (fun env2 H2=>Q (some (k+1)) .normal env2 H2)∧runK I.P post (env1.put y.dst (.bool false)) H1 (fun env2 H2=>Q none .normal env2 H2)) :
   TI I n (.reg (pre++y::post)) (some k) env H Q:=V0 fun code hc hs S a X hN hF hd=>by
 cases code<;>simp only[C7,reduceCtorEq,Option.some.injEq] at hc
 case region id l draw =>
   split at hc
   · rename_i r hr
     obtain⟨hd',hrr⟩:=Kp hc;subst hrr;subst hd';refine wpIn_region ?_;obtain⟨l1,o,l2,hl,h1,h2,h3⟩:=Tq pre hr;have hsz:l.size=l1.length+(l2.length+1):=by rw[←Array.length_toList,hl];simp
     rw[List.range_eq_range',hsz,List.range'_append_1 |>.symm];have hat:∀ j:Nat,l[j]? = (l1++o::l2)[j]? := fun j=>by rw[←hl,Array.getElem?_toList]
     refine Ht (ops:=l) (rd:=none) (m:=I.m+1) (Q:=L6 I n Q) _ l1 pre 0 (fun j hj=>by rw[Nat.zero_add,hat,List.getElem?_append_left hj]) h1 hN.rel hF h (fun S1 H1 env1 a1 e1 hS1 hF1 hd1 hK=>?_);obtain⟨row,hv,hfx,hrow,ht,hff⟩:=hK;have hN1:=hN.on e1 hS1;have ho:l[l1.length]? = some o:=by rw[hat];simp
     rw[show List.range' (0+l1.length) (l2.length+1)=l1.length::List.range' (l1.length+1) l2.length from by rw[Nat.zero_add];rfl];simp only[wpOpsIn,ho];obtain⟨c1,c2,c3,c4,c5⟩:=Bh h2
     have hw:Region.wanted o (yielded l a1.tmps)=true:=by
       rcases c5 with⟨g1,_⟩|⟨j,want,d,g1,g2,_⟩
       · simp[Region.wanted,g1]
       · rw[hg] at g2;cases g2
     rw[hw];simp only[if_true];have hargs:=Jp hF1 c2;rw[show y.args.map (·.eval env1)=y.vals env1 from rfl,hv] at hargs
     rw[hk] at c1;obtain⟨g,args,argTypes,hop⟩:=z8b c1;obtain⟨fn,tm,asg,bd,hy,hR⟩:=I.round k row _ _ hrow hN1.st
     have hrun:(o.semAt (fen none).round a1.eval).run I.P S1.w=.ok (.round I.l fn tm asg bd) S1.w:=by
       rw[show (fen none).round=none from rfl,Oper.semAt_none];rw[hop] at hargs;have hargs':Ad S1 (.yld I.l::row) (a1.eval g::args.toList.map a1.eval):=by simpa [Op.operands,Call.operands] using hargs
       obtain⟨v,vs,hvv,hv1,hv2⟩:=hargs';cases hvv;have hvs:=Tr hfx hv2;have hv1':a1.eval g=.func (.yield I.l) #[] #[]:=hv1;have e:args.map a1.eval=encI row:=by apply Array.ext';simp[hvs]
       have hex:execOp a1.eval o=(do let d ←Deferred.ofValue (a1.eval g) (args.map a1.eval);invoke d.target d.args:Sem Next):=by
         cases o;simp only at hop;subst hop;rfl
       rw[hex,e,hv1'];simp only[Deferred.ofValue,Sem.run_bind,Sem.run_pure,Result.andThen_ok,invoke];simpa using hy
     refine⟨fun _ _=>trivial,?_⟩;rw[hrun,Oper.uponIn_round];refine⟨fun h=>(by cases h),?_⟩;refine RoundIn.mono (F:=fen none) (n:=I.m) hR fun e W' hh=>?_;obtain⟨hsz',ho',hcase⟩:=hh;have hf0:=(I.fact k _ _ (.inl hN1.st)).1;have hdef:a1.defers=[]:=hd1.trans hd
     have hgo:∀ (bv:Bool) (s':Option Nat),I.at_ s' (fun b=>b<S1.w.heap.size∧¬X b∧¬I.S0.im b) W'→(∀ b,I.S0.im b→W'.heap[b]? = I.S0.w.heap[b]?) →
         runK I.P post (env1.put y.dst (.bool bv)) H1 (fun env2 H2=>Q s' .normal env2 H2)→wpOpsIn (fen none) (I.m+1) I.P l (L6 I n Q) (List.range' (l1.length+1) l2.length) (a1.put o.dst (.bool bv)) W':=fun bv s' hst him hrk=>by
       obtain⟨S2,hw2,hN2,ev2⟩:=hN1.round hsz' ho' (fun b hb=>(him b hb).trans ((hf0 b hb).2).symm) hst;have hF2:FRel S2 n env1 a1:=⟨hF1.size,by rw[hdef];exact Marks.nil hN2.base,fun i hi=>VRel.moni ev2 _ (hF1.val i hi)⟩;have hF3:=hF2.put (dst:=y.dst) (by rw[c3];exact c4) (x:=.bool bv) (v:=.bool bv) rfl;rw[c3] at hF3;rw[c3] at hrk;rw[←hw2]
       have:=Ht (ops:=l) (rd:=none) (m:=I.m+1) (Q:=L6 I n Q) [] l2 post (l1.length+1) (fun j hj=>by rw[hat,List.getElem?_append_right (by omega),show l1.length+1+j-l1.length=j+1 from by omega];rfl) h3 hN2.rel hF3 hrk
         (fun S' H' env' a' e hS' hF' hdd hK=>⟨S',env',H',.normal,s',_,rfl,hN2.on e hS',hF',hdd.trans ((put_defers _ _ _).trans hdef),rfl,hK⟩)
       simpa using this
     rcases hcase with⟨rfl,hj⟩|⟨rfl,hj⟩
     · exact hgo true (some (k+1)) hj (fun b hb=>((I.fact _ _ _ (.inl hj)).1 b hb).2) ht
     · exact hgo false none ⟨_,hj⟩ (fun b hb=>((I.fact _ _ _ (.inr hj)).1 b hb).2) hff
   · cases hc
 case seq=>split at hc<;>cases hc
 case cond=>split at hc<;>cases hc
 case block=>obtain⟨_,_,h⟩:=Option.map_eq_some_iff.1 hc;cases h
 case loop=>obtain⟨_,_,h⟩:=Option.map_eq_some_iff.1 hc;cases h
 case rangeFunc=>split at hc<;>cases hc
 case scope d=>exact absurd rfl (hs d)
theorem zcr {P:Program} {gf:Nat} {caps:List AV} {rows:List (List AV)} {fn:AFn} (hf:Ar P gf (caps.length+1)=some fn)
   (h:∀ I:Itr,I.P=P→I.rows=rows→TI I fn.n fn.body (some 0) (entry (.yld I.l::caps)) Ac.nil (fun s x env H=>Ret P fn.res (fun _ _=>True) x env H∧(s=some rows.length∨s=none))):X5 P gf caps rows:=by
 refine⟨enters_of hf,fun m l S0 lb J Jx hS0 hx0 cJ cx hj fact round=>?_⟩;obtain⟨F,c,hF,hb,hn,hc,hr,hnp,_⟩:=Kq hf;obtain⟨S,hSd⟩:∃ S:MS,S={ S0 with base:=S0.w.heap.size,keep:=fun b=>b<S0.w.heap.size∧¬S0.im b }:=⟨_,rfl⟩;have ev0:Evi S0 S:=by subst hSd;exact Evi.of (fun _ _=>rfl) rfl rfl rfl rfl rfl rfl
 have hw0:S.w=S0.w:=by rw[hSd]
 have hS:SRel S Ac.nil:=by
   subst hSd;exact⟨hS0.n,fun g hg=>absurd hg (Nat.not_lt_zero _),fun g _ hg=>absurd hg (Nat.not_lt_zero _),fun b hb=>hb.elim (fun h=>hS0.im b (.inl h)) And.left⟩
 have hx:Ad S caps lb:=Ad.moni ev0 _ hx0;have hlen:=hx.length
 let I:Itr:=⟨P,l,m,rows,S0,J,Jx,cJ,cx,fact,round⟩
 have hN:I.Now (some 0) (fun b=>b<S0.w.heap.size∧¬S0.im b) S Ac.nil:=by
   refine⟨hS,by rw[hSd];exact Nat.le_refl _,fun b hb=>by rw[hSd];exact hb,fun b hb=>by rw[hSd];exact hb,fun b hb=>.inl (by rw[hSd] at hb;exact hb),?_⟩
   have e:(fun b=>b<S.w.heap.size∧¬(b<S0.w.heap.size∧¬S0.im b)∧¬I.S0.im b)=fun _=>False:=by
     funext b;refine propext ⟨fun⟨h1,h2,h3⟩=>h2 ⟨by rw[hw0] at h1;exact h1,h3⟩,False.elim⟩
   rw[e,hw0];exact hj
 refine callsIn_of_wp_marks (F:=Fence.wide) (n:=m+1) hF hb trivial ?_
 have hfr:FRel S fn.n (entry (.yld l::caps)) { tmps:=(#[Value.func (.yield l) #[] #[]]++lb.toArray)++Array.replicate (F.ntmps-(#[Value.func (.yield l) #[] #[]]++lb.toArray).size) undef,defers:=[] }:=by
   have hx':Ad S (.yld l::caps) (.func (.yield l) #[] #[]::lb):=⟨_,_,rfl,rfl,hx⟩;refine⟨by simp;omega,Marks.nil hN.base,fun i hi=>?_⟩;by_cases hlt:i<(AV.yld l::caps).length
   · obtain⟨v,hv,hr⟩:=hx'.get (List.getElem?_eq_getElem hlt)
     have e1:entry (.yld l::caps) i=(AV.yld l::caps)[i]:=by simp[entry,List.getD,List.getElem?_eq_getElem hlt]
     have e2:((#[Value.func (.yield l) #[] #[]]++lb.toArray)++Array.replicate (F.ntmps-(#[Value.func (.yield l) #[] #[]]++lb.toArray).size) undef).getD i undef=v:=by
       have hsz:i<(#[Value.func (.yield l) #[] #[]]++lb.toArray).size:=by simp at hlt ⊢;omega
       rw[Array.getD_eq_getD_getElem?,Array.getElem?_append_left hsz];have:(#[Value.func (.yield l) #[] #[]]++lb.toArray)[i]? = (Value.func (.yield l) #[] #[]::lb)[i]? := by simp
       rw[this,hv];rfl
     rw[e1,e2];exact hr
   · have e1:entry (.yld l::caps) i=.any:=by simp[entry,List.getD,List.getElem?_eq_none (Nat.le_of_not_lt hlt)]
     rw[e1];trivial
 rw[←hw0];refine wpIn_mono (h I rfl rfl c hc S _ _ hN hfr rfl) fun e a w' hh=>?_;obtain⟨S2,env2,H2,z,s2,X2,rfl,hN2,hF2,hd2,rfl,⟨hq,hres⟩,hst⟩:=hh
 have fin:LeavesInM Fence.wide (m+1) P F a.tmps (fun e W'=>(∃ v,e=.returned v)∧((∃ O,J rows.length O W')∨∃ k O,Jx k O W')) a.defers .returning S2.w:=by
   rw[hd2];refine I0 [] S2.w List.nodup_nil (fun D hd=>by cases hd) ?_;obtain⟨vs,ys,h1,h2,h3⟩:=Jr hN2.rel hF2 hr hres;refine⟨if h:vs.toArray.size=1 then vs.toArray[0] else .tuple vs.toArray,?_,⟨_,rfl⟩,?_⟩
   · have e:results F a.tmps=(do let vs ←F.results.mapM (Sz a.tmps);pure (if h:vs.size=1 then vs[0] else .tuple vs)):=by
       unfold results;congr
     rw[e,Array.mapM_eq_mapM_toList];show Sem.run P _ S2.w=_;simp only[Sem.run_bind,Sem.run_map,h1,Result.andThen_ok,Sem.run_pure];rfl
   · have:=hN2.st
     rcases hst with rfl|rfl
     · exact .inl ⟨_,this⟩
     · obtain⟨k,hk⟩:=this;exact .inr ⟨k,_,hk⟩
 cases z with
 | normal=>exact fin
 | exit id=>exact hq.elim
 | ret=>exact fin
end
end Go.Proofs.YtbcjoeadpjfcfaaGreat.Abs
namespace Go.Proofs.YtbcjoeadpjfcfaaGreat
open Abs
def domL (s:Int):List Span:=if s=1 then [⟨0,255⟩] else if s=2 then [⟨0,55295⟩,⟨57344,1114111⟩] else []
theorem Gk (a:Int):PC Tryz.prog 113 [.int .i64 a] (Cj ⟨a,0,21,0⟩):=by
 refine A7 Yv ?_;unfold Nw;(with_reducible repeat' (first|(simp(disch:=omega)only[push_cast,↓zz,seval])|refine And.intro ?_ ?_|(first|refine Ab ?_ ?_|refine Aa ?_ ?_)<;>intro hc<;>(try simp only[push_cast] at hc)|omega|intro _))
def Fh (p:Part):Bool:=decide (0≤p.drop∧p.drop<21∧1≤p.take∧p.take≤21∧0≤p.up∧p.up<21∧(p.up=0∨p.take≤6))
theorem Hu (p:Part):PC Tryz.prog 153 [Cj p] (.bool (Fh p)):=by
 refine A7 z1j ?_;unfold Qm;(with_reducible repeat' (first|(simp(disch:=omega)only[push_cast,↓zz,seval])|refine And.intro ?_ ?_|(first|refine Ab ?_ ?_|refine Aa ?_ ?_)<;>intro hc<;>(try simp only[push_cast] at hc)|omega|intro _))
 all_goals (unfold Fh;first|(refine z4i ?_;omega)|(refine z4j ?_;omega)|(refine Pj ?_;omega))
def Do (p:Part) (n:Int):Bool:=decide (0≤p.at_∧p.at_<n)&&Fh p
theorem Gl (p:Part) (n:Int):PC Tryz.prog 135 [Cj p,.int .i64 n] (.bool (Do p n)):=by
 refine A7 Y0 ?_;unfold N0;(with_reducible repeat' (first|(simp(disch:=omega)only[push_cast,↓zz,seval])|refine And.intro ?_ ?_|(first|refine Ab ?_ ?_|refine Aa ?_ ?_)<;>intro hc<;>(try simp only[push_cast] at hc)|(have q_:=Hu p;(first|refine eK q_ ?_|refine eQ q_ ?_|refine eG q_ ?_);clear q_)|(have q_:=Hu p;(first|refine cK q_ ?_|refine cQ q_ ?_|refine cG q_ ?_);clear q_;(simp(disch:=omega)only[push_cast,↓zz,seval]);(fail_if_success change False))|omega|intro _))
 all_goals (simp[Do, *]<;>omega)
def valP (p:Part) (x:Int):Int:=x / 2 ^ p.drop.toNat % 2 ^ p.take.toNat * 2 ^ p.up.toNat
def valB (p:Part) (x:Int):Bool:=Fh p&&decide (0≤x∧x≤2097151)
def val1 (p:Part) (x:Int):Int:=if valB p x then valP p x else 0
abbrev valV (p:Part) (x:Int):AV:=.tup [.int .i64 (val1 p x),.bool (valB p x)]
theorem L8 {p:Part}:Fh p=true↔(0≤p.drop∧p.drop<21∧1≤p.take∧p.take≤21∧0≤p.up∧p.up<21∧(p.up=0∨p.take≤6)):=by simp[Fh]
theorem Ol (d:Nat) (h:d≤21):(1:Int)≤2 ^ d∧(2:Int) ^ d≤2097152 :=
 ⟨Int.pow_pos (by decide),by have:=Nat.pow_le_pow_right (n:=2) (by decide) h;have e:((2 ^ d:Nat):Int)=2 ^ d:=(by simp);rw[←e];omega⟩
theorem zi7 {p:Part} {x:Int} (hb:Fh p=true) (hx:0≤x∧x≤2097151) :
   IntKind.i64.wrap (J4 .and .i64 (x.fdiv (2 ^ min p.drop.toNat IntKind.i64.bits)) (IntKind.i64.wrap (IntKind.i64.wrap (1 * 2 ^ min p.take.toNat IntKind.i64.bits)-1)) * 2 ^ min p.up.toNat IntKind.i64.bits)=valP p x:=by
 rw[L8] at hb;have e1:min p.drop.toNat IntKind.i64.bits=p.drop.toNat:=Nat.min_eq_left (by show _≤64;omega);have e2:min p.take.toNat IntKind.i64.bits=p.take.toNat:=Nat.min_eq_left (by show _≤64;omega);have e3:min p.up.toNat IntKind.i64.bits=p.up.toNat:=Nat.min_eq_left (by show _≤64;omega);rw[e1,e2,e3];have hd:=Ol p.drop.toNat (by omega);have ht:=Ol p.take.toNat (by omega);have hu:=Ol p.up.toNat (by omega);rw[Int.one_mul,IntWalk.i64_in (2 ^ p.take.toNat) (by omega),IntWalk.i64_in (2 ^ p.take.toNat-1) (by omega),zap _ _ (by omega)];have q0:0≤x / 2 ^ p.drop.toNat:=Int.ediv_nonneg hx.1 (by omega);have q1:x / 2 ^ p.drop.toNat≤x:=Int.ediv_le_self _ hx.1;have m0:=Int.emod_nonneg (x / 2 ^ p.drop.toNat) (b:=2 ^ p.take.toNat) (by omega);have m1:=Int.emod_lt_of_pos (x / 2 ^ p.drop.toNat) (b:=2 ^ p.take.toNat) (by omega);rw[zaq p.take.toNat ⟨q0,by show _<(2:Int) ^ 64;omega⟩ (by show _≤64;omega) (IntWalk.i64_in _ (by omega))];refine IntWalk.i64_in _ ?_;have:x / 2 ^ p.drop.toNat % 2 ^ p.take.toNat * 2 ^ p.up.toNat≤2097152 * 2097152:=Int.mul_le_mul (by omega) (by omega) (by omega) (by omega);have:0≤x / 2 ^ p.drop.toNat % 2 ^ p.take.toNat * 2 ^ p.up.toNat:=Int.mul_nonneg (by omega) (by omega);omega
theorem M4 {p:Part} {x:Int} (hb:Fh p=true) (hx:0≤x∧x≤2097151):valB p x=true∧val1 p x=valP p x:=by
 have:valB p x=true:=by simp only[valB,hb,Bool.true_and,decide_eq_true_eq];exact hx
 exact⟨this,by rw[val1,this];rfl⟩
theorem ztw {p:Part} {x:Int} (h:Fh p=false∨x<0∨2097151<x):valB p x=false∧val1 p x=0:=by
 have:valB p x=false:=by
   simp only[valB,Bool.and_eq_false_iff,decide_eq_false_iff_not];rcases h with h|h
   · exact .inl h
   · exact .inr (by omega)
 exact⟨this,by rw[val1,this];rfl⟩
theorem zcs {p:Part} {x:Int} (h:Fh p=false∨x<0∨2097151<x):valV p x=.tup [.int .i64 0,.bool false]:=by
 obtain⟨h1,h2⟩:=ztw h;simp only[valV,h1,h2]
theorem zpi {p:Part} {x:Int} (hb:Fh p=true) (hx:0≤x∧x≤2097151):valV p x=.tup [.int .i64 (valP p x),.bool true]:=by
 obtain⟨h1,h2⟩:=M4 hb hx;simp only[valV,h1,h2]
theorem Hv (p:Part) (x:Int):PC Tryz.prog 136 [Cj p,.int .i64 x] (valV p x):=by
 refine A7 Y1 ?_;unfold N1;(with_reducible repeat' (first|(simp(disch:=omega)only[push_cast,↓zz,seval])|refine And.intro ?_ ?_|(first|refine Ab ?_ ?_|refine Aa ?_ ?_)<;>intro hc<;>(try simp only[push_cast] at hc)|(have q_:=Hu p;(first|refine eK q_ ?_|refine eQ q_ ?_|refine eG q_ ?_);clear q_)|(have q_:=Hu p;(first|refine cK q_ ?_|refine cQ q_ ?_|refine cG q_ ?_);clear q_;(simp(disch:=omega)only[push_cast,↓zz,seval]);(fail_if_success change False))|omega|intro _))
 all_goals first|(have hb:=L8.1 ‹Fh p=true›;omega)|(rw[zcs (.inl ‹_›)];(repeat' (first|(simp(disch:=omega)only[push_cast,↓zz,seval,B8])|omega|(with_reducible refine And.intro ?_ ?_)));done)|(rw[zcs (.inr (by omega))];(repeat' (first|(simp(disch:=omega)only[push_cast,↓zz,seval,B8])|omega|(with_reducible refine And.intro ?_ ?_)));done)|(rw[zpi ‹_› (by omega)];(repeat' (first|(simp(disch:=omega)only[push_cast,↓zz,seval,B8])|omega|(with_reducible refine And.intro ?_ ?_)));exact zi7 ‹_› (by omega))
theorem Dz (s:Int):PC Tryz.prog 72 [.int .i64 s] (Aj (domL s)):=by
 refine A7 Vq ?_;unfold Lu;(with_reducible repeat' (first|(simp(disch:=omega)only[push_cast,↓zz,seval])|refine And.intro ?_ ?_|(first|refine Ab ?_ ?_|refine Aa ?_ ?_)<;>intro hc<;>(try simp only[push_cast] at hc)|omega|intro _))
 all_goals (simp only[domL, *];rfl)
abbrev Term.outer (t:Term):Part:=⟨0,t.drop,t.take,t.up⟩
theorem Fy (t:Term):PC Tryz.prog 137 [Cn t] (Cj t.outer):=by
 refine A7 Y2 ?_;unfold N2;(with_reducible repeat' (first|(simp(disch:=omega)only[push_cast,↓zz,seval])|refine And.intro ?_ ?_|(first|refine Ab ?_ ?_|refine Aa ?_ ?_)<;>intro hc<;>(try simp only[push_cast] at hc)|omega|intro _))
def z5m (t:Term):Bool:=decide (t.base=0∧t.drop=0∧t.take=21∧t.up=0)
def I9 (p:Part):Bool:=decide (p.drop=0∧p.take=21∧p.up=0)
theorem Ts (t:Term):PC Tryz.prog 184 [Cn t] (.bool (z5m t)):=by
 refine A7 Y7 ?_;unfold N7;(with_reducible repeat' (first|(simp(disch:=omega)only[push_cast,↓zz,seval])|refine And.intro ?_ ?_|(first|refine Ab ?_ ?_|refine Aa ?_ ?_)<;>intro hc<;>(try simp only[push_cast] at hc)|(have q_:=Fy t;(first|refine eK q_ ?_|refine eQ q_ ?_|refine eG q_ ?_);clear q_)|(have q_:=Gk 0;(first|refine eK q_ ?_|refine eQ q_ ?_|refine eG q_ ?_);clear q_)|(have q_:=Fy t;(first|refine cK q_ ?_|refine cQ q_ ?_|refine cG q_ ?_);clear q_;(simp(disch:=omega)only[push_cast,↓zz,seval]);(fail_if_success change False))|(have q_:=Gk 0;(first|refine cK q_ ?_|refine cQ q_ ?_|refine cG q_ ?_);clear q_;(simp(disch:=omega)only[push_cast,↓zz,seval]);(fail_if_success change False))|omega|intro _))
 all_goals (simp[z5m,I9,Term.outer, *])
def B4 (x:Int):Bool:=decide (-1114111≤x∧x≤1114111)
theorem Ju (x:Int):PC Tryz.prog 193 [.int .i64 x] (.bool (B4 x)):=by
 refine A7 Y9 ?_;unfold Oa;(with_reducible repeat' (first|(simp(disch:=omega)only[push_cast,↓zz,seval])|refine And.intro ?_ ?_|(first|refine Ab ?_ ?_|refine Aa ?_ ?_)<;>intro hc<;>(try simp only[push_cast] at hc)|omega|intro _))
 all_goals (unfold B4;first|(refine z4i ?_;omega)|(refine z4j ?_;omega)|(refine Pj ?_;omega))
def Oc:List Part→Bool
 | p::q::l=>decide (p.up<q.up)&&Oc (q::l)
 | _=>true
theorem V1:∀ {l:List Part} {i:Nat},i+1<l.length→Oc (l.drop i)=(decide ((nth l i).up<(nth l (i+1)).up)&&Oc (l.drop (i+1)))
 | [],i,h=>by simp at h
 | [p],i,h=>by simp at h
 | p::q::l,0,_=>rfl
 | p::q::l,i+1,h=>by
   exact V1 (l:=q::l) (i:=i) (by simpa using h)
theorem zct {l:List Part} {i:Nat} (h:l.length≤i+1):Oc (l.drop i)=true:=by
 match hl:l.drop i with
 | []=>rfl
 | [p]=>rfl
 | p::q::r=>have:=congrArg List.length hl;simp at this;omega
theorem Qv (l:List Part) (hl:l.length<1000000000000):PC Tryz.prog 194 [Bg l] (.bool (Oc l&&decide (l.length≤4))):=by
 refine A7 Vx ?_;unfold L5;(with_reducible repeat' (first|(simp(disch:=omega)only[push_cast,↓zz,seval])|refine And.intro ?_ ?_|(first|refine Ab ?_ ?_|refine Aa ?_ ?_)<;>intro hc<;>(try simp only[push_cast] at hc)|omega|intro _));refine Ax (A8 (fun (i:Nat)=>i≤l.length∧Oc l=Oc (l.drop (i-1))) (fun i=>l.length-i) (fun i=>[(0,Bg l),(5,Bg l),(6,.int .i64 l.length),(7,.int .i64 i)]) (fun _=>[]) (fun _ _=>[]) 0 (by simp) ?_ ?_)
 · (with_reducible repeat' (first|(simp(disch:=omega)only[push_cast,↓zz,seval])|refine And.intro ?_ ?_|(first|refine Ab ?_ ?_|refine Aa ?_ ?_)<;>intro hc<;>(try simp only[push_cast] at hc)|omega|intro _))
 rintro i ⟨hi,hr⟩;refine W_T ?_;(with_reducible repeat' (first|(simp(disch:=omega)only[push_cast,↓zz,seval])|refine And.intro ?_ ?_|(first|refine Ab ?_ ?_|refine Aa ?_ ?_)<;>intro hc<;>(try simp only[push_cast] at hc)|omega|intro _))
 · rename_i h1 h2
   rw[hr,V1 (i:=i-1) (by omega),show i-1+1=i by omega];have:¬(nth l (i-1)).up<(nth l i).up:=by omega
   simp[this]
 · refine⟨i+1,?_⟩
   (with_reducible repeat' (first|(simp(disch:=omega)only[push_cast,↓zz,seval])|refine And.intro ?_ ?_|(first|refine Ab ?_ ?_|refine Aa ?_ ?_)<;>intro hc<;>(try simp only[push_cast] at hc)|omega|intro _));rw[hr,V1 (i:=i-1) (by omega),show i-1+1=i by omega];have:(nth l (i-1)).up<(nth l i).up:=by omega
   simp[this]
 · refine⟨i+1,?_⟩
   (with_reducible repeat' (first|(simp(disch:=omega)only[push_cast,↓zz,seval])|refine And.intro ?_ ?_|(first|refine Ab ?_ ?_|refine Aa ?_ ?_)<;>intro hc<;>(try simp only[push_cast] at hc)|omega|intro _));obtain rfl:i=0:=by omega
   exact hr
 · rw[hr,zct (i:=i-1) (by omega),Bool.true_and]
   exact Pj (by omega)
def Da (t:Term):Bool:=B4 t.base&&B4 t.sum&&Fh t.outer&&(Oc t.parts&&decide (t.parts.length≤4))
theorem z1t (t:Term):Do t.outer 1=Fh t.outer:=by simp[Do]
theorem Qw (t:Term):PC Tryz.prog 135 [Cj t.outer,.int .i64 1] (.bool (Fh t.outer)):=by rw[←z1t];exact Gl t.outer 1
theorem Ja (t:Term) (hl:t.parts.length<1000000000000):PC Tryz.prog 183 [Cn t] (.bool (Da t)):=by
 refine A7 Sg ?_;unfold Ka;(with_reducible repeat' (first|(simp(disch:=omega)only[push_cast,↓zz,seval])|refine And.intro ?_ ?_|(first|refine Ab ?_ ?_|refine Aa ?_ ?_)<;>intro hc<;>(try simp only[push_cast] at hc)|(have q_:=Ju t.base;(first|refine eK q_ ?_|refine eQ q_ ?_|refine eG q_ ?_);clear q_)|(have q_:=Ju t.sum;(first|refine eK q_ ?_|refine eQ q_ ?_|refine eG q_ ?_);clear q_)|(have q_:=Fy t;(first|refine eK q_ ?_|refine eQ q_ ?_|refine eG q_ ?_);clear q_)|(have q_:=Qw t;(first|refine eK q_ ?_|refine eQ q_ ?_|refine eG q_ ?_);clear q_)|(have q_:=Qv t.parts hl;(first|refine eK q_ ?_|refine eQ q_ ?_|refine eG q_ ?_);clear q_)|(have q_:=Ju t.base;(first|refine cK q_ ?_|refine cQ q_ ?_|refine cG q_ ?_);clear q_;(simp(disch:=omega)only[push_cast,↓zz,seval]);(fail_if_success change False))|(have q_:=Ju t.sum;(first|refine cK q_ ?_|refine cQ q_ ?_|refine cG q_ ?_);clear q_;(simp(disch:=omega)only[push_cast,↓zz,seval]);(fail_if_success change False))|(have q_:=Fy t;(first|refine cK q_ ?_|refine cQ q_ ?_|refine cG q_ ?_);clear q_;(simp(disch:=omega)only[push_cast,↓zz,seval]);(fail_if_success change False))|(have q_:=Qw t;(first|refine cK q_ ?_|refine cQ q_ ?_|refine cG q_ ?_);clear q_;(simp(disch:=omega)only[push_cast,↓zz,seval]);(fail_if_success change False))|(have q_:=Qv t.parts hl;(first|refine cK q_ ?_|refine cQ q_ ?_|refine cG q_ ?_);clear q_;(simp(disch:=omega)only[push_cast,↓zz,seval]);(fail_if_success change False))|omega|intro _))
 all_goals (simp[Da, *])
def zi8 (s:Int):Bool:=decide (s=1∨s=2)
def Gw (i n:Int) (l:List Part):Bool:=l.all fun p=>Do p n&&(decide (i≠2)||I9 p)
def Kc (t:Term) (i o n:Int):Bool:=zi8 i&&zi8 o&&Da t&&Gw i n t.parts&&(decide (i≠2)||decide (t.parts.length≤1))&&(decide (o≠2)||z5m t)
theorem V2 (s:Int):decide (((domL s).length:Int)=0)=!zi8 s:=by
 unfold domL zi8;split
 · subst_vars;decide
 · split
   · subst_vars;decide
   · simp[*]
theorem ztx (l:List Part):(l.length≤1)=((l.length:Int)≤1):=by simp only[eq_iff_iff];omega
theorem z8c (t:Term) (i o n:Int) (hl:t.parts.length<1000000000000):PC Tryz.prog 166 [Cn t,.int .i64 i,.int .i64 o,.int .i64 n] (.bool (Kc t i o n)):=by
 refine A7 Y5 ?_;unfold N5;(with_reducible repeat' (first|(simp(disch:=omega)only[push_cast,↓zz,seval,V2])|refine And.intro ?_ ?_|(first|refine Ab ?_ ?_|refine Aa ?_ ?_)<;>intro hc<;>(try simp only[push_cast] at hc)|(have q_:=Dz i;(first|refine eK q_ ?_|refine eQ q_ ?_|refine eG q_ ?_);clear q_)|(have q_:=Dz o;(first|refine eK q_ ?_|refine eQ q_ ?_|refine eG q_ ?_);clear q_)|(have q_:=Ja t hl;(first|refine eK q_ ?_|refine eQ q_ ?_|refine eG q_ ?_);clear q_)|(have q_:=Dz i;(first|refine cK q_ ?_|refine cQ q_ ?_|refine cG q_ ?_);clear q_;(simp(disch:=omega)only[push_cast,↓zz,seval,V2]);(fail_if_success change False))|(have q_:=Dz o;(first|refine cK q_ ?_|refine cQ q_ ?_|refine cG q_ ?_);clear q_;(simp(disch:=omega)only[push_cast,↓zz,seval,V2]);(fail_if_success change False))|(have q_:=Ja t hl;(first|refine cK q_ ?_|refine cQ q_ ?_|refine cG q_ ?_);clear q_;(simp(disch:=omega)only[push_cast,↓zz,seval,V2]);(fail_if_success change False))|omega|intro _))
 · simp[Kc, *]
 · have hn:Kc t i o n=(Gw i n t.parts&&(decide (i≠2)||decide ((t.parts.length:Int)≤1))&&(decide (o≠2)||z5m t)):=by simp[Kc,ztx, *]
   rw[hn];refine Ax (A8 (fun (k:Nat)=>k≤t.parts.length∧Gw i n t.parts=Gw i n (t.parts.drop k)) (fun k=>t.parts.length-k) (fun k=>[(1,.int .i64 i),(2,.int .i64 o),(3,.int .i64 n),(4,.ptr 0 1 0 0),(27,Bg t.parts),(28,.int .i64 t.parts.length),(29,.int .i64 k)]) (fun _=>[⟨6,1,true,[Cn t]⟩]) (fun env _=>[Bm 0 (env 4)]) 0 (by simp) ?_ ?_)
   · (with_reducible repeat' (first|(simp(disch:=omega)only[push_cast,↓zz,seval])|refine And.intro ?_ ?_|(first|refine Ab ?_ ?_|refine Aa ?_ ?_)<;>intro hc<;>(try simp only[push_cast] at hc)|omega|intro _))
   rintro k ⟨hi,hr⟩;refine W_T ?_;(with_reducible repeat' (first|(simp(disch:=omega)only[push_cast,↓zz,seval])|refine And.intro ?_ ?_|(first|refine Ab ?_ ?_|refine Aa ?_ ?_)<;>intro hc<;>(try simp only[push_cast] at hc)|(have q_:=Gl (nth t.parts k) n;(first|refine eK q_ ?_|refine eQ q_ ?_|refine eG q_ ?_);clear q_)|(have q_:=Gk (nth t.parts k).at_;(first|refine eK q_ ?_|refine eQ q_ ?_|refine eG q_ ?_);clear q_)|(have q_:=Ts t;(first|refine eK q_ ?_|refine eQ q_ ?_|refine eG q_ ?_);clear q_)|(have q_:=Gl (nth t.parts k) n;(first|refine cK q_ ?_|refine cQ q_ ?_|refine cG q_ ?_);clear q_;(simp(disch:=omega)only[push_cast,↓zz,seval]);(fail_if_success change False))|(have q_:=Gk (nth t.parts k).at_;(first|refine cK q_ ?_|refine cQ q_ ?_|refine cG q_ ?_);clear q_;(simp(disch:=omega)only[push_cast,↓zz,seval]);(fail_if_success change False))|(have q_:=Ts t;(first|refine cK q_ ?_|refine cQ q_ ?_|refine cG q_ ?_);clear q_;(simp(disch:=omega)only[push_cast,↓zz,seval]);(fail_if_success change False))|omega|intro _))
   all_goals (first|(refine⟨k+1,?_⟩;(with_reducible repeat' (first|(simp(disch:=omega)only[push_cast,↓zz,seval])|refine And.intro ?_ ?_|(first|refine Ab ?_ ?_|refine Aa ?_ ?_)<;>intro hc<;>(try simp only[push_cast] at hc)|omega|intro _));(try (first|(rw[hr,drop_at (by omega)];simp[Gw,I9, *];done)|(rw[hr,List.drop_of_length_le (by omega)];simp[Gw,I9, *];done)|(simp[Gw,I9, *];done)));done)|(first|(rw[hr,drop_at (by omega)];simp[Gw,I9, *];done)|(rw[hr,List.drop_of_length_le (by omega)];simp[Gw,I9, *];done)|(simp[Gw,I9, *];done)))
 all_goals (simp[Kc, *])
theorem z1u (l:List Part) (hl:l.length≤1000000000000):PC Tryz.prog 97 [Bg l] (Bg l):=by
 by_cases h0:l=[]
 · subst h0
   refine zc3 ?_ ?_
   · refine A7 Ci ?_
     unfold By;(with_reducible repeat' (first|(simp(disch:=omega)only[push_cast,↓zz,seval])|refine And.intro ?_ ?_|(first|refine Ab ?_ ?_|refine Aa ?_ ?_)<;>intro hc<;>(try simp only[push_cast] at hc)|omega|intro _))
   · refine A7 Ci ?_
     unfold By;(with_reducible repeat' (first|(simp(disch:=omega)only[push_cast,↓zz,seval])|refine And.intro ?_ ?_|(first|refine Ab ?_ ?_|refine Aa ?_ ?_)<;>intro hc<;>(try simp only[push_cast] at hc)|omega|intro _))
 · refine A7 Ci ?_
   unfold By;(with_reducible repeat' (first|(simp(disch:=omega)only[push_cast,↓zz,seval,h0])|refine And.intro ?_ ?_|(first|refine Ab ?_ ?_|refine Aa ?_ ?_)<;>intro hc<;>(try simp only[push_cast] at hc)|omega|intro _))
theorem zcu (a x:Int):PC Tryz.prog 73 [.int .i64 a,.int .i64 x] (Cn ⟨0,0,21,0,x,[⟨a,0,21,0⟩]⟩):=by
 refine A7 z1e ?_;unfold Qf;(with_reducible repeat' (first|(simp(disch:=omega)only[push_cast,↓zz,seval])|refine And.intro ?_ ?_|(first|refine Ab ?_ ?_|refine Aa ?_ ?_)<;>intro hc<;>(try simp only[push_cast] at hc)|(have q_:=Gk a;(first|refine eK q_ ?_|refine eQ q_ ?_|refine eG q_ ?_);clear q_)|(have q_:=Gk a;(first|refine cK q_ ?_|refine cQ q_ ?_|refine cG q_ ?_);clear q_;(simp(disch:=omega)only[push_cast,↓zz,seval]);(fail_if_success change False))|omega|intro _))
 all_goals trace_state
def sumP (w:List Int):List Part→Int→Option Int
 | [],a=>some a
 | p::l,a=>if Do p w.length then sumP w l (IntKind.i64.wrap (a+val1 p (nth w p.at_.toNat))) else none
def symB (x:Int):Bool:=decide (0≤x∧x≤1114111)
def D6 (t:Term) (w:List Int):Option Int :=
 if w.all symB then
   match sumP w t.parts t.sum with
   | some x=>if valB t.outer x&&decide (x≤1114111) then some (IntKind.i64.wrap (t.base+valP t.outer x)) else none
   | none=>none
 else none
abbrev optV (o:Option Int):AV:=.tup [.int .i64 (o.getD 0),.bool o.isSome]
theorem zty {w:List Int} {l:List Part} {k:Nat} {a:Int} (h:k<l.length):sumP w (l.drop k) a=if Do (nth l k) w.length then sumP w (l.drop (k+1)) (IntKind.i64.wrap (a+val1 (nth l k) (nth w (nth l k).at_.toNat))) else none:=by
 rw[drop_at h,sumP]
theorem Ai {p:Part} {n:Int} (h:Do p n=true):0≤p.at_∧p.at_<n:=by
 simp only[Do,Bool.and_eq_true,decide_eq_true_eq] at h;exact h.1
theorem zcv {w:List Int} {k:Nat} (h:k<w.length):(w.drop k).all symB=(symB (nth w k)&&(w.drop (k+1)).all symB):=by rw[drop_at h,List.all_cons]
theorem z8d (t:Term) (w:List Int) (hl:t.parts.length≤1000000000000) (hw:w.length≤1000000000000) (h32:∀ x∈w,-2147483648≤x∧x≤2147483647):PC Tryz.prog 103 [Cn t,Ag w] (optV (D6 t w)):=by
 refine A7 Yu ?_;unfold Nv;(with_reducible repeat' (first|(simp(disch:=omega)only[push_cast,↓zz,seval])|refine And.intro ?_ ?_|(first|refine Ab ?_ ?_|refine Aa ?_ ?_)<;>intro hc<;>(try simp only[push_cast] at hc)|omega|intro _));refine Ax (A8 (fun (k:Nat)=>k≤w.length∧w.all symB=(w.drop k).all symB) (fun k=>w.length-k) (fun k=>[(1,Ag w),(2,.ptr 0 1 0 0),(15,Ag w),(16,.int .i64 w.length),(17,.int .i64 k)]) (fun _=>[⟨6,1,true,[Cn t]⟩]) (fun env _=>[Bm 0 (env 2)]) 0 (by simp) ?_ ?_)
 · (with_reducible repeat' (first|(simp(disch:=omega)only[push_cast,↓zz,seval])|refine And.intro ?_ ?_|(first|refine Ab ?_ ?_|refine Aa ?_ ?_)<;>intro hc<;>(try simp only[push_cast] at hc)|omega|intro _))
 rintro k ⟨hk,hr⟩;refine W_T ?_;(with_reducible repeat' (first|(simp(disch:=omega)only[push_cast,↓zz,seval])|refine And.intro ?_ ?_|(first|refine Ab ?_ ?_|refine Aa ?_ ?_)<;>intro hc<;>(try simp only[push_cast] at hc)|omega|intro _))
 · have e:D6 t w=none:=by
     rw[zcv (by omega)] at hr;have:symB (nth w k)=false:=by simp[symB];omega
     simp[D6,hr,this]
   rw[e];(repeat' (first|(simp(disch:=omega)only[push_cast,↓zz,seval,B8])|omega|(with_reducible refine And.intro ?_ ?_)))
 · refine⟨k+1,?_⟩
   (with_reducible repeat' (first|(simp(disch:=omega)only[push_cast,↓zz,seval])|refine And.intro ?_ ?_|(first|refine Ab ?_ ?_|refine Aa ?_ ?_)<;>intro hc<;>(try simp only[push_cast] at hc)|omega|intro _));rw[hr,zcv (by omega)];have:symB (nth w k)=true:=by simp[symB];omega
   simp[this]
 · have e:D6 t w=none:=by
     rw[zcv (by omega)] at hr;have:symB (nth w k)=false:=by simp[symB];omega
     simp[D6,hr,this]
   rw[e];(repeat' (first|(simp(disch:=omega)only[push_cast,↓zz,seval,B8])|omega|(with_reducible refine And.intro ?_ ?_)))
 · have hall:w.all symB=true:=by rw[hr,List.drop_of_length_le (by omega)];rfl
   clear hr;have hw32:∀ j,j<w.length→IntKind.i64.wrap (nth w j)=nth w j:=fun j hj=>by have:=h32 _ (Au hj);exact IntWalk.i64_in _ (by omega)
   refine Ax (A8 (fun (s:Nat × Int)=>s.1≤t.parts.length∧sumP w t.parts t.sum=sumP w (t.parts.drop s.1) s.2) (fun s=>t.parts.length-s.1) (fun s=>[(1,Ag w),(2,.ptr 0 1 0 0),(8,.int .i64 s.2),(31,Bg t.parts),(32,.int .i64 t.parts.length),(33,.int .i64 s.1)]) (fun _=>[⟨6,1,true,[Cn t]⟩]) (fun env _=>[Bm 0 (env 2)]) (0,t.sum) (by simp) ?_ ?_)
   · (with_reducible repeat' (first|(simp(disch:=omega)only[push_cast,↓zz,seval])|refine And.intro ?_ ?_|(first|refine Ab ?_ ?_|refine Aa ?_ ?_)<;>intro hc<;>(try simp only[push_cast] at hc)|omega|intro _))
   rintro⟨k,a⟩ ⟨hk,hr2⟩;simp only at hk hr2;refine W_T ?_;(with_reducible repeat' (first|(simp(disch:=omega)only[push_cast,↓zz,seval,hw32])|refine And.intro ?_ ?_|(first|refine Ab ?_ ?_|refine Aa ?_ ?_)<;>intro hc<;>(try simp only[push_cast] at hc)<;>(try have hk:=Ai hc)|(have q_:=Gl (nth t.parts k) w.length;(first|refine eK q_ ?_|refine eQ q_ ?_|refine eG q_ ?_);clear q_)|(have q_:=Hv (nth t.parts k) (nth w (nth t.parts k).at_.toNat);(first|refine eK q_ ?_|refine eQ q_ ?_|refine eG q_ ?_);clear q_)|(have q_:=Fy t;(first|refine eK q_ ?_|refine eQ q_ ?_|refine eG q_ ?_);clear q_)|(have q_:=Hv t.outer a;(first|refine eK q_ ?_|refine eQ q_ ?_|refine eG q_ ?_);clear q_)|(have q_:=Gl (nth t.parts k) w.length;(first|refine cK q_ ?_|refine cQ q_ ?_|refine cG q_ ?_);clear q_;(simp(disch:=omega)only[push_cast,↓zz,seval,hw32]);(fail_if_success change False))|(have q_:=Hv (nth t.parts k) (nth w (nth t.parts k).at_.toNat);(first|refine cK q_ ?_|refine cQ q_ ?_|refine cG q_ ?_);clear q_;(simp(disch:=omega)only[push_cast,↓zz,seval,hw32]);(fail_if_success change False))|(have q_:=Fy t;(first|refine cK q_ ?_|refine cQ q_ ?_|refine cG q_ ?_);clear q_;(simp(disch:=omega)only[push_cast,↓zz,seval,hw32]);(fail_if_success change False))|(have q_:=Hv t.outer a;(first|refine cK q_ ?_|refine cQ q_ ?_|refine cG q_ ?_);clear q_;(simp(disch:=omega)only[push_cast,↓zz,seval,hw32]);(fail_if_success change False))|omega|intro _))
   all_goals first
     | (rw[zty (by omega)] at hr2
        first
        | (have e:D6 t w=none:=by simp[D6, *]
           rw[e];(repeat' (first|(simp(disch:=omega)only[push_cast,↓zz,seval,B8])|omega|(with_reducible refine And.intro ?_ ?_)));done)
        | (refine⟨(k+1,IntKind.i64.wrap (a+val1 (nth t.parts k) (nth w (nth t.parts k).at_.toNat))),?_⟩
           (with_reducible repeat' (first|(simp(disch:=omega)only[push_cast,↓zz,seval])|refine And.intro ?_ ?_|(first|refine Ab ?_ ?_|refine Aa ?_ ?_)<;>intro hc<;>(try simp only[push_cast] at hc)|omega|intro _))
           rw[hr2];simp[‹Do (nth t.parts k) w.length=true›];done))
     | (rw[List.drop_of_length_le (by omega)] at hr2
        (have hs:sumP w t.parts t.sum=some a:=hr2)
        (have hv:D6 t w=if valB t.outer a&&decide (a≤1114111) then some (IntKind.i64.wrap (t.base+valP t.outer a)) else none:=by simp only[D6,hall,hs,if_true])
        first
        | (rw[hv,if_neg (by simp only[Bool.and_eq_true,decide_eq_true_eq,not_and];intro h;first|omega|(rw[‹valB t.outer a=false›] at h;cases h))];(repeat' (first|(simp(disch:=omega)only[push_cast,↓zz,seval,B8])|omega|(with_reducible refine And.intro ?_ ?_)));done)
        | ((have hv1:val1 t.outer a=valP t.outer a:=by simp only[val1,‹valB t.outer a=true›,if_true])
           rw[hv,if_pos (by simp only[Bool.and_eq_true,decide_eq_true_eq];exact⟨‹_›,by omega⟩),hv1];(repeat' (first|(simp(disch:=omega)only[push_cast,↓zz,seval,B8])|omega|(with_reducible refine And.intro ?_ ?_)));done))
theorem zcw {x:Int}:B4 x=true ↔ -1114111≤x∧x≤1114111:=by simp[B4]
theorem Gg {x:Int} (h:B4 x=true):-1114111≤x∧x≤1114111:=zcw.1 h
end Go.Proofs.YtbcjoeadpjfcfaaGreat
namespace Go.Proofs.YtbcjoeadpjfcfaaGreat
open Abs
abbrev wr (n:Int):Int:=IntKind.i64.wrap n
theorem zcx (n:Int):wr n=(n+9223372036854775808) % 18446744073709551616-9223372036854775808:=by
 show IntKind.i64.wrap n=_;rw[IntWalk.i64_left];unfold RowKit.wrap64;rfl
theorem zpj {n:Int} (h:-9223372036854775808≤n∧n≤9223372036854775807):wr n=n:=by rw[zcx];omega
theorem wr_wr (a b:Int):wr (wr a+b)=wr (a+b):=by rw[zcx,zcx a,zcx (a+b)];omega
theorem wr_bd (a:Int):-9223372036854775808≤wr a∧wr a≤9223372036854775807:=by rw[zcx];omega
def totP (w:List Int):List Part→Int
 | []=>0
 | p::l=>val1 p (nth w p.at_.toNat)+totP w l
def M5 (w:List Int) (l:List Part):Bool:=l.all fun p=>Do p w.length
theorem zcy (w:List Int):∀ (l:List Part) (a:Int),wr a=a→sumP w l a=if M5 w l then some (wr (a+totP w l)) else none
 | [],a,h=>by simp[sumP,M5,totP,h]
 | p::l,a,h=>by
   rw[sumP];cases hp:Do p w.length
   · simp[M5,hp]
   · have ih:=zcy w l (wr (a+val1 p (nth w p.at_.toNat))) (by rw[zpj (wr_bd _)])
     rw[if_pos rfl];have e:wr (wr (a+val1 p (nth w p.at_.toNat))+totP w l)=wr (a+totP w (p::l)):=by rw[wr_wr,totP];congr 1;omega
     rw[e] at ih;simp only[M5,List.all_cons,hp,Bool.true_and] at ih ⊢;exact ih
theorem Zb {p:Part} {x:Int} (h:I9 p=true) (hx:0≤x∧x≤2097151):Fh p=true∧valB p x=true∧valP p x=x:=by
 simp only[I9,decide_eq_true_eq] at h;obtain⟨h1,h2,h3⟩:=h;have hb:Fh p=true:=by simp[Fh,h1,h2,h3]
 refine⟨hb,(M4 hb hx).1,?_⟩;rw[valP,h1,h2,h3];show x / 2 ^ 0 % 2 ^ 21 * 2 ^ 0=x;omega
end Go.Proofs.YtbcjoeadpjfcfaaGreat
