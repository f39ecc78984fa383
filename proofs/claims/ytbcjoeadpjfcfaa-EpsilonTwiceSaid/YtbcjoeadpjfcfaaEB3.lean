/-
  Parts of the proof that the law holds whatever the input; without conditions.
-/
import Derived.Below
import Derived.Deep.Slices
import Derived.OpenShut
import Derived.Carry
import Derived.WideShapes
import Derived.ProofKit
import Derived.ChangeOld
import Derived.Test.YtbcjoeadpjfcfaaProg
import Derived.KernelRfl
import Derived.Test.YtbcjoeadpjfcfaaEB2
set_option linter.unusedSimpArgs false
set_option linter.unusedVariables false
namespace Go.Proofs.Ytbcjoeadpjfcfaa.Abs
def Grp.dead (G:Grp):Grp:=⟨0,G.ver+1,false,[]⟩
def Ac.kill (H:Ac) (ks:List Nat):Ac:=⟨H.n,fun g=>if g∈ks then (H.at_ g).dead else H.at_ g⟩
def Ac.only (H:Ac) (ks:List Nat):Ac:=⟨H.n,fun g=>if g∈ks then H.at_ g else (H.at_ g).dead⟩
def MS.only (S:MS) (ks:List Nat):MS:={ S with cur:=fun g=>if g∈ks then S.cur g else S.cur g+1,wid:=fun g=>if g∈ks then S.wid g else 0 }
def MS.kill (S:MS) (H:Ac) (ks:List Nat):MS:={ S with
 im:=fun b=>S.im b∨∃ g,g<H.n∧g∈ks∧0<(H.at_ g).w∧0<S.cap g∧b=S.place g
 cur:=fun g=>if g∈ks then S.cur g+1 else S.cur g
 wid:=fun g=>if g∈ks then 0 else S.wid g }
section
variable {S:MS} {H:Ac} (ks:List Nat)
theorem R2:Evo S (S.only ks):=by
 refine⟨rfl,rfl,rfl,rfl,Nat.le_refl _,fun _ _=>rfl,fun _ h=>h,fun _ h=>h,fun _ h=>.inl h,Nat.le_refl _,fun g _=>?_,fun g _ hc=>?_⟩
 · show S.cur g≤if g∈ks then S.cur g else S.cur g+1
   split<;>omega
 · have hc':(if g∈ks then S.cur g else S.cur g+1)=S.cur g:=hc
   refine⟨rfl,rfl,?_⟩;show (if g∈ks then S.wid g else 0)=S.wid g;by_cases h:g∈ks
   · rw[if_pos h]
   · rw[if_neg h] at hc';omega
theorem Zo {S':MS} {G:Grp} {g:Nat} (h1:S'.cur g=G.ver+1) (h2:S'.wid g=0):GRel S' G.dead g:=⟨h1,h2,fun h=>absurd h (Nat.lt_irrefl _),fun h=>absurd h (Nat.lt_irrefl _),fun h=>absurd h (Nat.lt_irrefl _),fun _ h=>by cases h⟩
theorem Zp {G:Grp} {c:Nat}:¬G.dead.has c:=by
 rintro (⟨h,_⟩|⟨_,h⟩)
 · exact absurd h (Nat.lt_irrefl _)
 · cases h
theorem zbc (h:SRel S H):SRel (S.only ks) (H.only ks) where
 n:=h.n
 grp g hg:=by
   have hG:=h.grp g hg;by_cases hk:g∈ks
   · have e1:(H.only ks).at_ g=H.at_ g:=by show (if g∈ks then _ else _)=_;rw[if_pos hk]
     have e2:(S.only ks).cur g=S.cur g:=by show (if g∈ks then _ else _)=_;rw[if_pos hk]
     have e3:(S.only ks).wid g=S.wid g:=by show (if g∈ks then _ else _)=_;rw[if_pos hk]
     rw[e1];refine⟨e2.trans hG.ver,e3.trans hG.wid,fun hw hc=>?_,hG.len,hG.full,fun hw he=>?_⟩
     · obtain⟨⟨cells,T,vs,a1,a2,a3,a4⟩,b⟩:=hG.live hw hc
       exact⟨⟨cells,T,vs,a1,a2,Ad.mono (R2 ks) _ a3,a4⟩,b⟩
     · obtain⟨⟨es,clock,a1,a2⟩,b⟩:=hG.mlive hw he
       exact⟨⟨es,clock,a1,Ad.mono (R2 ks) _ a2⟩,b⟩
   · have e1:(H.only ks).at_ g=(H.at_ g).dead:=by show (if g∈ks then _ else _)=_;rw[if_neg hk]
     have e2:(S.only ks).cur g=S.cur g+1:=by show (if g∈ks then _ else _)=_;rw[if_neg hk]
     have e3:(S.only ks).wid g=0:=by show (if g∈ks then _ else _)=_;rw[if_neg hk]
     rw[e1];exact Zo (by rw[e2,hG.ver]) e3
 apart g g' hg hg' hne hw hw':=by
   have key:∀ g,((H.only ks).at_ g).has (S.cap g)→(H.at_ g).has (S.cap g):=fun g hw=>by
     have:(if g∈ks then H.at_ g else (H.at_ g).dead).has (S.cap g):=hw;split at this
     · exact this
     · exact absurd this Zp
   exact h.apart g g' hg hg' hne (key g hw) (key g' hw')
 im:=h.im
theorem Fs (h:SRel S H):Evo S (S.kill H ks):=by
 refine⟨rfl,rfl,rfl,rfl,Nat.le_refl _,fun _ _=>rfl,fun _ h=>.inl h,fun _ h=>h,fun b hb=>?_,Nat.le_refl _,fun g _=>?_,fun g _ hc=>?_⟩
 · rcases hb with hb|⟨g,hg,_,hw,hc,rfl⟩
   · exact .inl hb
   · exact .inr fun hk=>((h.grp g hg).live hw hc).2 (.inr hk)
 · show S.cur g≤if g∈ks then S.cur g+1 else S.cur g
   split<;>omega
 · have hc':(if g∈ks then S.cur g+1 else S.cur g)=S.cur g:=hc
   refine⟨rfl,rfl,?_⟩;show (if g∈ks then 0 else S.wid g)=S.wid g;by_cases h:g∈ks
   · rw[if_pos h] at hc';omega
   · rw[if_neg h]
theorem Mo (h:SRel S H):SRel (S.kill H ks) (H.kill ks) where
 n:=h.n
 grp g hg:=by
   have hG:=h.grp g hg;by_cases hk:g∈ks
   · have e1:(H.kill ks).at_ g=(H.at_ g).dead:=by show (if g∈ks then _ else _)=_;rw[if_pos hk]
     have e2:(S.kill H ks).cur g=S.cur g+1:=by show (if g∈ks then _ else _)=_;rw[if_pos hk]
     have e3:(S.kill H ks).wid g=0:=by show (if g∈ks then _ else _)=_;rw[if_pos hk]
     rw[e1];exact Zo (by rw[e2,hG.ver]) e3
   · have e1:(H.kill ks).at_ g=H.at_ g:=by show (if g∈ks then _ else _)=_;rw[if_neg hk]
     have e2:(S.kill H ks).cur g=S.cur g:=by show (if g∈ks then _ else _)=_;rw[if_neg hk]
     have e3:(S.kill H ks).wid g=S.wid g:=by show (if g∈ks then _ else _)=_;rw[if_neg hk]
     rw[e1]
     have hni:(H.at_ g).has (S.cap g)→¬((S.kill H ks).im (S.place g)∨(S.kill H ks).keep (S.place g)):=fun hq=>by
       have b3:=hG.has_ni hq;rintro ((hi|⟨g',hg',hk',hw',hc',he⟩)|hi)
       · exact b3 (.inl hi)
       · exact h.apart g g' hg hg' (fun hgg=>hk (hgg ▸ hk')) hq (.inl ⟨hw',hc'⟩) he
       · exact b3 (.inr hi)
     refine⟨e2.trans hG.ver,e3.trans hG.wid,fun hw hc=>?_,hG.len,hG.full,fun hw he=>?_⟩
     · obtain⟨⟨cells,T,vs,a1,a2,a3,a4⟩,b3⟩:=hG.live hw hc
       exact⟨⟨cells,T,vs,a1,a2,Ad.mono (Fs ks h) _ a3,a4⟩,hni (.inl ⟨hw,hc⟩)⟩
     · obtain⟨⟨es,clock,a1,a2⟩,b3⟩:=hG.mlive hw he
       exact⟨⟨es,clock,a1,Ad.mono (Fs ks h) _ a2⟩,hni (.inr ⟨hw,he⟩)⟩
 apart g g' hg hg' hne hw hw':=by
   have key:∀ g,((H.kill ks).at_ g).has (S.cap g)→(H.at_ g).has (S.cap g):=fun g hw=>by
     have:(if g∈ks then (H.at_ g).dead else H.at_ g).has (S.cap g):=hw;split at this
     · exact absurd this Zp
     · exact this
   exact h.apart g g' hg hg' hne (key g hw) (key g' hw')
 im b hb:=by
   rcases hb with (hb|⟨g,hg,_,hw,hc,rfl⟩)|hb
   · exact h.im b (.inl hb)
   · exact (h.grp g hg).lt hw hc
   · exact h.im b (.inr hb)
theorem Mp (h:SRel S H) (d:Nat) {x:AV} {v:Value} (hok:Cj d (H.only ks) x) (hv:VRel S x v):VRel (S.kill H ks) (frzV d (H.only ks) x) v:=by
 obtain⟨k1,k2⟩:=Ug (zbc ks h) d hok (VRel.mono (R2 ks) _ hv);refine VRel.of_pure (S:=(S.only ks).shut (H.only ks)) (S':=S.kill H ks) rfl (fun b hb=>?_) k2 k1;rcases hb with hb|⟨g,hg,hw,hc,rfl⟩
 · exact .inl hb
 · have hw':0<(if g∈ks then H.at_ g else (H.at_ g).dead).w:=hw
   split at hw'
   · rename_i hk;exact .inr ⟨g,hg,hk,hw',hc,rfl⟩
   · exact absurd hw' (Nat.lt_irrefl _)
theorem Uh (h:SRel S H) (d:Nat):∀ {xs:List AV} {vs:List Value},(∀ y∈xs,Cj d (H.only ks) y)→Ad S xs vs→Ad (S.kill H ks) (xs.map (frzV d (H.only ks))) vs
 | [],_,_,hh=>hh
 | x::xs,vs,hc,hh=>by
   obtain⟨u,r,rfl,h1,h2⟩:=hh;exact⟨u,r,rfl,Mp ks h d (hc x (by simp)) h1,Uh h d (fun y hy=>hc y (by simp[hy])) h2⟩
end
theorem R3 {P:Program} {f:Nat} {xs:List AV} {H:Ac} {K:AV→Ac→Prop} (d:Nat) (ks:List Nat) (hok:∀ x∈xs,Cj d (H.only ks) x) (h:Bj P f (xs.map (frzV d (H.only ks))) (H.kill ks) K):Bj P f xs H K:=by
 refine⟨h.1,fun S cargs hS hx=>(h.2 (S.kill H ks) cargs (Mo ks hS) (Uh ks hS d hok hx)).mono fun e w' hh=>?_⟩;obtain⟨v,S',x,H',rfl,rfl,ev,hS',hv,hK⟩:=hh;exact⟨v,S',x,H',rfl,rfl,(Fs ks hS).trans ev,hS',hv,hK⟩
theorem zgp (G:Grp):G.dead=⟨0,G.ver+1,false,[]⟩:=(rfl)
theorem zl5 (H:Ac) (ks:List Nat):(H.kill ks).n=H.n:=(rfl)
theorem zl6 (H:Ac) (ks:List Nat):(H.only ks).n=H.n:=(rfl)
attribute [push_cast] z69 z38 zbb z67 z68 z2z z37 z3a z3b z6a z28 z29 z30 z31 z32 z33 zl5 zl6 zgp
attribute [push_cast] List.map_cons List.map_nil List.drop_zero List.drop_succ_cons List.take_succ_cons List.take_zero List.drop_nil List.take_nil List.length_cons List.length_nil List.getD_cons_zero List.getD_cons_succ List.set_cons_zero List.set_cons_succ Option.getD_some Option.getD_none List.length_set List.append_assoc List.nil_append List.append_nil List.cons_append List.getElem?_cons_zero List.getElem?_cons_succ List.forall_mem_cons List.not_mem_nil List.length_map Bool.false_eq_true Bool.true_eq_false false_implies true_implies forall_const true_and and_true false_and and_false cond_true cond_false Bool.not_true Bool.not_false decide_eq_true_eq decide_eq_false_iff_not not_false_eq_true not_true_eq_false imp_false Nat.lt_irrefl Nat.le_refl Nat.zero_add Nat.add_zero Nat.zero_lt_succ Nat.lt_add_one implies_true decide_true decide_false Bool.not_eq_true Bool.not_eq_false Bool.not_eq_true' Bool.not_eq_false' eq_self Bool.and_self Bool.and_true Bool.true_and Bool.and_false Bool.false_and Bool.or_true Bool.true_or Bool.or_false Bool.false_or ne_eq Int.natCast_nonneg Int.toNat_natCast or_self true_or or_true false_or or_false and_self Int.cast_ofNat_Int if_true if_false
open Go.RowKit
def MS.start (w:World):MS:=⟨w,fun b=>b<w.heap.size,fun _=>False,0,fun _=>0,fun _=>0,fun _=>0,fun _=>0,0⟩
theorem z6d (w:World):SRel (MS.start w) Ac.nil :=
 ⟨rfl,fun g hg=>absurd hg (Nat.not_lt_zero _),fun g _ hg=>absurd hg (Nat.not_lt_zero _),fun b hb=>hb.elim id False.elim⟩
theorem PC.below {P:Program} {f:Nat} {xs:List AV} {b:Bool} (h:PC P f xs (.bool b)) {w:World} {cargs:List Value} (hx:Ad (MS.start w) xs cargs) :
   Calls P f cargs.toArray w fun e w'=>e=.returned (.bool b)∧Below w.heap.size w w':=by
 refine (h.2 (MS.start w) cargs (z6d w) hx).mono fun e w' hh=>?_;obtain⟨v,S',x,H',rfl,rfl,ev,_,hv,rfl,_⟩:=hh;have hv':v=.bool b:=hv;subst hv';exact⟨rfl,ev.os,ev.tape,ev.output,ev.size,fun k hk=>ev.kept k (.inl hk)⟩
theorem z3c {w:World} {a:Addr} {v:Value} (h:w.cell? a=some v):a.block<w.heap.size:=by
 unfold World.cell? at h;split at h
 · rename_i hb;exact (Array.getElem?_eq_some_iff.1 hb).1
 · cases h
class HK where
 f:AV→Ac→Prop
class HQ where
 f:AV→Prop
class HP where
 p:Prop
class HY where
 y:AV
def R4 (P:Program) (f:Nat) (xs:List AV) (H:Ac) [K:HK]:Prop:=Bj P f xs H K.f
def zbd (P:Program) (f:Nat) (xs:List AV) (H:Ac) [K:HQ]:Prop:=∃ y,Bj P f xs H (fun z H'=>z=y∧H'=H)∧K.f y
def I3 [L:HP]:Prop:=L.p
def opK (P:Program):AK→Ac→List AV→[HK]→Prop
 | .call,H,.fn f caps::xs,K=>R4 P f (xs++caps) H
 | k,H,xs,K=>Ae P k H xs K.f
def opQ (P:Program):AK→Ac→List AV→[HQ]→Prop
 | .call,H,.fn f caps::xs,K=>zbd P f (xs++caps) H
 | .bslice w len z idx,H,xs,K=>F6 w len idx xs∧0<w∧Ap (Dh idx xs (List.replicate len z))=true∧K.f (.full w (Dh idx xs (List.replicate len z)))
 | k,H,xs,K=>k.still=true∧Ae P k H xs fun x _=>K.f x
def Dv (x:AV) (w:Bool) [p:HP] [q:HP] [r:HP]:Prop:=E9 x w p.p q.p r.p
def wk (P:Program):List AOp→Env→Ac→(Env→Ac→Prop)→Prop
 | [],env,H,K=>K env H
 | ⟨dst,args,none,k⟩::l,env,H,K=>@opK P k H (args.map (·.eval env)) ⟨fun x H'=>wk P l (env.put dst x) H' K⟩
 | ⟨dst,args,some (d,want),k⟩::l,env,H,K=>@Dv (env d) want
     ⟨@opK P k H (args.map (·.eval (env.put (some d) (.bool want)))) ⟨fun x H'=>wk P l ((env.put (some d) (.bool want)).put dst x) H' K⟩⟩
     ⟨wk P l ((env.put (some d) (.bool (!want))).put dst (.tup [])) H K⟩ ⟨wk P l (env.put dst (.tup [])) H K⟩
def qk (P:Program) (H:Ac):List AOp→Env→(Env→Prop)→Prop
 | [],env,K=>K env
 | ⟨dst,args,none,k⟩::l,env,K=>@opQ P k H (args.map (·.eval env)) ⟨fun x=>qk P H l (env.put dst x) K⟩
 | ⟨dst,args,some (d,want),k⟩::l,env,K=>@Dv (env d) want
     ⟨@opQ P k H (args.map (·.eval (env.put (some d) (.bool want)))) ⟨fun x=>qk P H l ((env.put (some d) (.bool want)).put dst x) K⟩⟩
     ⟨qk P H l ((env.put (some d) (.bool (!want))).put dst (.tup [])) K⟩ ⟨qk P H l (env.put dst (.tup [])) K⟩
class HG where
 f:AV→List Grp→Prop
def zbe (P:Program) (f:Nat) (xs:List AV) (l:List Grp) [K:HG]:Prop:=∃ y,(∀ H,Bj P f xs H fun z H'=>z=y∧H'=H)∧K.f y l
def opG (P:Program):AK→List Grp→List AV→[HG]→Prop
 | .call,l,.fn f caps::xs,K=>zbe P f (xs++caps) l
 | .bslice w len z idx,l,xs,K=>F6 w len idx xs∧0<w∧Ap (Dh idx xs (List.replicate len z))=true∧K.f (.full w (Dh idx xs (List.replicate len z))) l
 | k,l,xs,K=>(k.still=true∧Bc (·<l.length) xs∧Ae P k (hl l) xs fun x _=>K.f x l)∨(k.still=false∧k.eff.isSome=true∧k.appOk=true∧Rp k xs∧Ae P k (hl l) xs fun x H'=>∀ l',H'=hl l'→K.f x l')
def gk (P:Program):List AOp→Env→List Grp→(Env→List Grp→Prop)→Prop
 | [],env,l,K=>K env l
 | ⟨dst,args,none,k⟩::r,env,l,K=>@opG P k l (args.map (·.eval env)) ⟨fun x l'=>gk P r (env.put dst x) l' K⟩
 | ⟨dst,args,some (d,want),k⟩::r,env,l,K=>@Dv (env d) want
     ⟨@opG P k l (args.map (·.eval (env.put (some d) (.bool want)))) ⟨fun x l'=>gk P r ((env.put (some d) (.bool want)).put dst x) l' K⟩⟩
     ⟨gk P r ((env.put (some d) (.bool (!want))).put dst (.tup [])) l K⟩ ⟨gk P r (env.put dst (.tup [])) l K⟩
def W7 (x:AV) [p:HP] [q:HP]:Prop:=W6 x p.p q.p
def W (P:Program) (n b:Nat):AC→Env→Ac→(Ex→Env→Ac→Prop)→Prop
 | .skip,env,H,Q=>Q .normal env H
 | .reg ops,env,H,Q=>wk P ops env H fun env' H'=>Q .normal env' H'
 | .dreg ops,env,H,Q=>qk P H ops env fun env'=>Q .normal env' H
 | .dtl pre post,env,H,Q=>qk P H pre env fun env'=>wk P post env' H fun env' H'=>Q .normal env' H'
 | .greg ops,env,H,Q=>∃ l,H=hl l∧gk P ops env l fun env' l'=>Q .normal env' (hl l')
 | .grx fl ops,env,H,Q=>@I3 ⟨T P n b (.grx fl ops) env H Q⟩
 | .gry fl ops,env,H,Q=>@I3 ⟨T P n b (.gry fl ops) env H Q⟩
 | .seq x y,env,H,Q=>W P n b x env H (Ex.then (fun env' H'=>W P n b y env' H' Q) Q)
 | .cond c x y,env,H,Q=>@W7 (c.eval env) ⟨W P n b x env H Q⟩ ⟨W P n b y env H Q⟩
 | .block id c,env,H,Q=>W P n b c env H (Ex.inBlock id Q)
 | .loop c,env,H,Q=>@I3 ⟨T P n b (.loop c) env H Q⟩
 | .rng f ps a c,env,H,Q=>@I3 ⟨T P n b (.rng f ps a c) env H Q⟩
 | .exit id,env,H,Q=>Q (.exit id) env H
 | .ret,env,H,Q=>Q .ret env H
section
variable {P:Program} {n b:Nat} {env:Env} {H:Ac} {Q:Ex→Env→Ac→Prop} {K:Env→Ac→Prop}
theorem Zq (P:Program) (k:AK) (H:Ac) (xs:List AV) (K:AV→Ac→Prop):@opK P k H xs ⟨K⟩=Ae P k H xs K:=by
 unfold opK;split<;>rfl
theorem zf5 (P:Program) (k:AK) (H:Ac) (xs:List AV) (K:AV→Prop):@opQ P k H xs ⟨K⟩=Tx P k H xs K:=by
 unfold opQ Tx;split
 · rfl
 · rfl
 · rename_i h1 h2
   split
   · rename_i f caps ys;exact absurd rfl (h2 f caps ys rfl)
   · rename_i w len z idx;exact absurd rfl (h1 w len z idx)
   · rfl
theorem Pd (P:Program):∀ (l:List AOp) (env:Env) (H:Ac) (K:Env→Ac→Prop),wk P l env H K=runK P l env H K
 | [],_,_,_=>rfl
 | ⟨dst,args,none,k⟩::l,env,H,K=>by
   have h:(fun x H'=>wk P l (env.put dst x) H' K)=fun x H'=>runK P l (env.put dst x) H' K:=funext fun x=>funext fun H'=>Pd P l _ H' K;show @opK P k H (args.map (·.eval env)) ⟨_⟩=_;rw[h,Zq];rfl
 | ⟨dst,args,some (d,want),k⟩::l,env,H,K=>by
   have h:∀ env:Env,(fun x H'=>wk P l (env.put dst x) H' K)=fun x H'=>runK P l (env.put dst x) H' K:=fun env=>funext fun x=>funext fun H'=>Pd P l _ H' K;show @Dv (env d) want ⟨@opK P k H _ ⟨_⟩⟩ ⟨_⟩ ⟨_⟩=_;rw[h,Zq,Pd,Pd];rfl
theorem z3d (P:Program) (H:Ac):∀ (l:List AOp) (env:Env) (K:Env→Prop),qk P H l env K=runQ P H l env K
 | [],_,_=>rfl
 | ⟨dst,args,none,k⟩::l,env,K=>by
   have h:(fun x=>qk P H l (env.put dst x) K)=fun x=>runQ P H l (env.put dst x) K:=funext fun x=>z3d P H l _ K;show @opQ P k H (args.map (·.eval env)) ⟨_⟩=_;rw[h,zf5];rfl
 | ⟨dst,args,some (d,want),k⟩::l,env,K=>by
   have h:∀ env:Env,(fun x=>qk P H l (env.put dst x) K)=fun x=>runQ P H l (env.put dst x) K:=fun env=>funext fun x=>z3d P H l _ K;show @Dv (env d) want ⟨@opQ P k H _ ⟨_⟩⟩ ⟨_⟩ ⟨_⟩=_;rw[h,zf5,z3d,z3d];rfl
theorem z6e {k:AK} (h:k.still=true):k.eff=none:=by
 cases k<;>first|rfl|(simp[AK.still] at h)
theorem Ks {k:AK} {l:List Grp} {xs:List AV} {K:AV→List Grp→Prop} (h:@opG P k l xs ⟨K⟩):if k.eff.isNone then ∃ x,QG P k l xs x∧K x l else ∃ x l',Ae P k (hl l) xs (fun y H'=>y=x∧H'=hl l')∧Comm P k l l'∧K x l':=by
 unfold opG at h;split at h
 · obtain⟨y,h1,h2⟩:=h
   exact⟨y,.inl ⟨_,_,_,rfl,rfl,h1⟩,h2⟩
 · exact⟨_,.inr (.inl ⟨_,_,_,_,rfl,h.1,h.2.1,h.2.2.1,rfl⟩),h.2.2.2⟩
 · rcases h with⟨h1,h2,h3⟩|⟨_,h2,ha,ho,h3⟩
   · rw[z6e h1]
     obtain⟨x,h4,h5⟩:=M2 h1 h3;refine⟨x,.inr (.inr ⟨h1,h2,?_⟩),h5⟩;exact still_mono h1 (fun _ _ hh=>hh.1) h4
   · obtain⟨e,he⟩:=Option.isSome_iff_exists.1 h2
     rw[if_neg (by rw[he];simp)];obtain⟨x,l',b1,b2,b3⟩:=zgm he ha ho h3;exact⟨x,l',b1,b3,b2 l' rfl⟩
theorem Jn {x:AV} {w:Bool} {p q r p' q' r':Prop} (hp:p→p') (hq:q→q') (hr:r→r') (h:E9 x w p q r):E9 x w p' q' r':=by
 unfold E9 at h ⊢;split at h<;>first|exact hp h|exact hq h|exact hr h|exact h.elim
theorem M5 (P:Program):∀ (L:List AOp) (env:Env) (l:List Grp) {K:Env→List Grp→Prop},gk P L env l K→runG P L env l K
 | [],_,_,_,h=>h
 | ⟨dst,args,none,k⟩::r,env,l,K,h=>by
   have h':@opG P k l (args.map (·.eval env)) ⟨fun x l'=>gk P r (env.put dst x) l' K⟩:=h;have:=Ks h';simp only[runG,Fa,AOp.vals,if_true];split at this
   · rename_i he
     rw[if_pos he];obtain⟨x,h1,h2⟩:=this;exact⟨x,h1,M5 P r _ _ h2⟩
   · rename_i he
     rw[if_neg he];obtain⟨x,l',b1,b2,b3⟩:=this;exact⟨x,l',b1,b2,M5 P r _ _ b3⟩
 | ⟨dst,args,some (d,want),k⟩::r,env,l,K,h=>by
   have h':E9 (env d) want (@opG P k l (args.map (·.eval (env.put (some d) (.bool want)))) ⟨fun x l'=>gk P r ((env.put (some d) (.bool want)).put dst x) l' K⟩)
     (gk P r ((env.put (some d) (.bool (!want))).put dst (.tup [])) l K) (gk P r (env.put dst (.tup [])) l K):=h
   simp only[runG,Fa,AOp.vals,if_true,Bool.false_eq_true,if_false];refine Jn (fun h1=>?_) (fun h1=>M5 P r _ _ h1) (fun h1=>M5 P r _ _ h1) h';have:=Ks h1;split at this
   · rename_i he
     obtain⟨x,h1,h2⟩:=this;rw[if_pos he];exact⟨x,h1,M5 P r _ _ h2⟩
   · rename_i he
     rw[if_neg he];obtain⟨x,l',b1,b2,b3⟩:=this;exact⟨x,l',b1,b2,M5 P r _ _ b3⟩
theorem zf6 {l l':List Grp} (h:hl l=hl l'):l=l':=by
 have h1:l.length=l'.length:=congrArg Ac.n h;refine List.ext_getElem h1 fun i hi hi'=>?_;have h2:(hl l).at_ i=(hl l').at_ i:=by rw[h]
 rw[Cg,Cg] at h2;simpa [List.getD,hi,hi'] using h2
theorem W_T:∀ {c:AC} {env:Env} {H:Ac} {Q:Ex→Env→Ac→Prop},W P n b c env H Q→T P n b c env H Q
 | .skip,_,_,_,h=>zky h
 | .reg ops,env,H,Q,h=>T_reg (by have h':wk P ops env H _:=h;rwa [Pd] at h')
 | .dreg ops,env,H,Q,h=>zkz (by have h':qk P H ops env _:=h;rwa [z3d] at h')
 | .dtl pre post,env,H,Q,h=>T_dtl (by
   have h':qk P H pre env _:=h;rw[z3d] at h';have e:(fun env'=>wk P post env' H fun env' H'=>Q .normal env' H')=fun env'=>runK P post env' H fun env' H'=>Q .normal env' H':=funext fun env'=>Pd P post env' H _
   rwa [e] at h')
 | .greg ops,env,H,Q,h=>by
   obtain⟨l,rfl,h'⟩:=h;exact zl0 (M5 P ops env l h')
 | .grx ..,_,_,_,h=>h
 | .gry ..,_,_,_,h=>h
 | .seq x y,_,_,_,h=>zb7 (T.mono (W_T (c:=x) h) fun z env H hh=>by cases z<;>first|exact W_T (c:=y) hh|exact hh)
 | .cond c x y,env,H,Q,h=>by
   have h':W6 (c.eval env) (W P n b x env H Q) (W P n b y env H Q):=h;unfold W6 at h';split at h'
   · rename_i q hq;exact zl2 hq (fun hb=>W_T (h'.1 hb)) (fun hb=>W_T (h'.2 hb))
   · exact h'.elim
 | .block id c,_,_,_,h=>zgo (W_T (c:=c) h)
 | .loop c,_,_,_,h=>h
 | .rng ..,_,_,_,h=>h
 | .exit id,_,_,_,h=>zl3 h
 | .ret,_,_,_,h=>T_ret h
end
section
variable {P:Program} {n b:Nat} {env:Env} {H:Ac} {Q:Ex→Env→Ac→Prop} {K:Env→Ac→Prop}
theorem z1:W P n b .skip env H Q=Q .normal env H:=(rfl)
theorem z2 {ops:List AOp}:W P n b (.reg ops) env H Q=wk P ops env H fun env' H'=>Q .normal env' H':=(rfl)
theorem z3 {ops:List AOp}:W P n b (.dreg ops) env H Q=qk P H ops env fun env'=>Q .normal env' H:=(rfl)
theorem z4 {pre post:List AOp}:W P n b (.dtl pre post) env H Q=qk P H pre env fun env'=>wk P post env' H fun env' H'=>Q .normal env' H':=(rfl)
theorem z5 {ops:List AOp} {l:List Grp}:W P n b (.greg ops) env (hl l) Q=gk P ops env l fun env' l'=>Q .normal env' (hl l') :=
 propext ⟨fun⟨l',h1,h2⟩=>by rw[←zf6 h1] at h2;exact h2,fun h=>⟨l,rfl,h⟩⟩
theorem z18 {l:List Grp} {K:Env→List Grp→Prop}:gk P [] env l K=K env l:=(rfl)
theorem z19 {l:List Grp} {K:Env→List Grp→Prop} {dst:Option Nat} {args:List AArg} {k:AK} {r:List AOp}:gk P (⟨dst,args,none,k⟩::r) env l K=@opG P k l (args.map (·.eval env)) ⟨fun x l'=>gk P r (env.put dst x) l' K⟩:=(rfl)
theorem z20 {l:List Grp} {K:Env→List Grp→Prop} {dst:Option Nat} {args:List AArg} {k:AK} {r:List AOp} {d:Nat} {want:Bool}:gk P (⟨dst,args,some (d,want),k⟩::r) env l K=@Dv (env d) want
     ⟨@opG P k l (args.map (·.eval (env.put (some d) (.bool want)))) ⟨fun x l'=>gk P r ((env.put (some d) (.bool want)).put dst x) l' K⟩⟩
     ⟨gk P r ((env.put (some d) (.bool (!want))).put dst (.tup [])) l K⟩ ⟨gk P r (env.put dst (.tup [])) l K⟩:=(rfl)
theorem z6 {x y:AC}:W P n b (.seq x y) env H Q=W P n b x env H (Ex.then (fun env' H'=>W P n b y env' H' Q) Q):=(rfl)
theorem z7 {c:AArg} {x y:AC}:W P n b (.cond c x y) env H Q=@W7 (c.eval env) ⟨W P n b x env H Q⟩ ⟨W P n b y env H Q⟩:=(rfl)
theorem z8 {id:Nat} {c:AC}:W P n b (.block id c) env H Q=W P n b c env H (Ex.inBlock id Q):=(rfl)
theorem z9 {c:AC}:W P n b (.loop c) env H Q=@I3 ⟨T P n b (.loop c) env H Q⟩:=(rfl)
theorem z34 {f:AArg} {ps:List Nat} {a c:AC}:W P n b (.rng f ps a c) env H Q=@I3 ⟨T P n b (.rng f ps a c) env H Q⟩:=(rfl)
theorem z35 {fl:List Bool} {ops:List AOp}:W P n b (.grx fl ops) env H Q=@I3 ⟨T P n b (.grx fl ops) env H Q⟩:=(rfl)
theorem z36 {fl:List Bool} {ops:List AOp}:W P n b (.gry fl ops) env H Q=@I3 ⟨T P n b (.gry fl ops) env H Q⟩:=(rfl)
theorem z10 {id:Nat}:W P n b (.exit id) env H Q=Q (.exit id) env H:=(rfl)
theorem z11:W P n b .ret env H Q=Q .ret env H:=(rfl)
theorem z12:wk P [] env H K=K env H:=(rfl)
theorem z13 {dst:Option Nat} {args:List AArg} {k:AK} {l:List AOp}:wk P (⟨dst,args,none,k⟩::l) env H K=@opK P k H (args.map (·.eval env)) ⟨fun x H'=>wk P l (env.put dst x) H' K⟩:=(rfl)
theorem z14 {dst:Option Nat} {args:List AArg} {k:AK} {l:List AOp} {d:Nat} {want:Bool}:wk P (⟨dst,args,some (d,want),k⟩::l) env H K=@Dv (env d) want
     ⟨@opK P k H (args.map (·.eval (env.put (some d) (.bool want)))) ⟨fun x H'=>wk P l ((env.put (some d) (.bool want)).put dst x) H' K⟩⟩
     ⟨wk P l ((env.put (some d) (.bool (!want))).put dst (.tup [])) H K⟩ ⟨wk P l (env.put dst (.tup [])) H K⟩:=(rfl)
theorem z15 {K:Env→Prop}:qk P H [] env K=K env:=(rfl)
theorem z16 {K:Env→Prop} {dst:Option Nat} {args:List AArg} {k:AK} {l:List AOp}:qk P H (⟨dst,args,none,k⟩::l) env K=@opQ P k H (args.map (·.eval env)) ⟨fun x=>qk P H l (env.put dst x) K⟩:=(rfl)
theorem z17 {K:Env→Prop} {dst:Option Nat} {args:List AArg} {k:AK} {l:List AOp} {d:Nat} {want:Bool}:qk P H (⟨dst,args,some (d,want),k⟩::l) env K=@Dv (env d) want
     ⟨@opQ P k H (args.map (·.eval (env.put (some d) (.bool want)))) ⟨fun x=>qk P H l ((env.put (some d) (.bool want)).put dst x) K⟩⟩
     ⟨qk P H l ((env.put (some d) (.bool (!want))).put dst (.tup [])) K⟩ ⟨qk P H l (env.put dst (.tup [])) K⟩:=(rfl)
theorem z21 {p q r:Prop}:@Dv (.bool true) true ⟨p⟩ ⟨q⟩ ⟨r⟩=p:=(rfl)
theorem z22 {p q r:Prop}:@Dv (.bool false) false ⟨p⟩ ⟨q⟩ ⟨r⟩=p:=(rfl)
theorem z23 {p q r:Prop}:@Dv (.bool true) false ⟨p⟩ ⟨q⟩ ⟨r⟩=q:=(rfl)
theorem z24 {p q r:Prop}:@Dv (.bool false) true ⟨p⟩ ⟨q⟩ ⟨r⟩=q:=(rfl)
theorem z25 {w:Bool} {p q r:Prop}:@Dv (.tup []) w ⟨p⟩ ⟨q⟩ ⟨r⟩=r:=by cases w<;>rfl
theorem Aa {b w:Bool} {p q r:Prop} (hp:b=w→p) (hq:b=(!w)→q):@Dv (.bool b) w ⟨p⟩ ⟨q⟩ ⟨r⟩:=Tw hp hq
theorem z26 {p q:Prop}:@W7 (.bool true) ⟨p⟩ ⟨q⟩=p:=by simp[W7,W6]
theorem z27 {p q:Prop}:@W7 (.bool false) ⟨p⟩ ⟨q⟩=q:=by simp[W7,W6]
theorem Ab {b:Bool} {p q:Prop} (hp:b=true→p) (hq:b=false→q):@W7 (.bool b) ⟨p⟩ ⟨q⟩:=⟨hp,hq⟩
end
theorem M6 {P:Program} {env:Env} {H:Ac}:∀ {res:List ARes} {K K':List AV→Prop},(∀ xs,K xs→K' xs)→resK P res env H K→resK P res env H K'
 | [],_,_,hk,h=>hk _ h
 | .slot t::l,_,_,hk,h=>M6 (res:=l) (fun xs hh=>hk _ hh) h
 | .cell t a s::l,_,_,hk,h=>still_mono (k:=.load a s) rfl (fun x _ hh=>M6 (res:=l) (fun xs hh=>hk _ hh) hh) h
theorem Zr {P:Program} {res:List ARes} {K K':AV→Ac→Prop} (hk:∀ z H,K z H→K' z H) {x:Ex} {env:Env} {H:Ac} (h:Ret P res K x env H):Ret P res K' x env H:=⟨h.1,M6 (fun xs hh=>hk _ _ hh) h.2⟩
def nx (x:AV) (H:Ac) [K:HK]:Prop:=K.f x H
theorem zgq (x:AV) (H:Ac) (f:AV→Ac→Prop):@nx x H ⟨f⟩=f x H:=(rfl)
class HF (α:Type) where
 f:α→Prop
def optN {α:Type} (o:Option α) [F:HF α]:Prop:=optK o F.f
theorem z6f {α:Type} (x:α) (f:α→Prop):@optN α (some x) ⟨f⟩=f x:=(rfl)
def ifN (c:Bool) [p:HP] [q:HP]:Prop:=match c with
 | false=>p.p
 | true=>q.p
theorem zbf {p q:Prop}:@ifN true ⟨p⟩ ⟨q⟩=q:=(rfl)
theorem z6g {p q:Prop}:@ifN false ⟨p⟩ ⟨q⟩=p:=(rfl)
def appN (w bytes:Nat) (s:AV) (news:List AV) (H:Ac) [K:HK]:Prop:=Jg w bytes s news H K.f
def slcN (w:Nat) (x:AV) (lo hi mx:Option Int) (H:Ac) [K:HK]:Prop:=Eo w x lo hi mx H fun y=>K.f y H
def nq (x:AV) [K:HQ]:Prop:=K.f x
theorem zgr (x:AV) (f:AV→Prop):@nq x ⟨f⟩=f x:=(rfl)
section
variable {P:Program} {H:Ac} {K:AV→Ac→Prop} {k:IntKind} {a b c:Int} {x y z:AV} {xs ys cs:List AV} {w s o i g v off len n:Nat} {p q r:Bool}
theorem K_mv:@opK P .mv H [x] ⟨K⟩=@nx x H ⟨K⟩:=(rfl)
theorem zl7:@opK P .pick H [.bool p,x,y] ⟨K⟩=@nx (bif p then x else y) H ⟨K⟩:=(rfl)
theorem zgs:@opK P (.alloc z w) H [] ⟨K⟩=@nx (.ptr H.n 1 0 0) (H.push ⟨w,1,true,[z]⟩) ⟨K⟩:=(rfl)
theorem K_box:@opK P .box H [x] ⟨K⟩=(D4 x.cells=true∧0<x.cells.length∧@nx (.ptr H.n 1 0 0) (H.push ⟨x.cells.length,1,true,[x]⟩) ⟨K⟩):=(rfl)
theorem zgt {zs:List AV} {pl:List (Nat × Nat)} {idx:List Nat}:@opK P (.build zs pl idx) H xs ⟨K⟩=@optN _ (Ro pl idx xs zs) ⟨fun cs=>@nx (.agg cs) H ⟨K⟩⟩:=(rfl)
theorem zbg {idx:List Nat}:@opK P (.bslice w len z idx) H xs ⟨K⟩=(F6 w len idx xs∧@nx (.ref H.n 1 0 len) (H.push ⟨w,1,true,Dh idx xs (List.replicate len z)⟩) ⟨K⟩):=(rfl)
theorem zbh:@opK P (.load p s) H [.cptr x] ⟨K⟩=(x.isAny=false∧x.cells.length=s∧(p=false→s=1)∧@nx (Cd p 0 s x) H ⟨K⟩):=(rfl)
theorem zbi:@opK P (.load p s) H [.ptr g v i o] ⟨K⟩=((H.at_ g).ver=v∧i<(H.at_ g).xs.length∧((H.at_ g).xs.getD i .any).isAny=false∧((H.at_ g).xs.getD i .any).cells.length=(H.at_ g).w∧0<s∧o+s≤(H.at_ g).w ∧
     (p=false→s=1)∧@nx (Cd p o s ((H.at_ g).xs.getD i .any)) H ⟨K⟩):=(rfl)
theorem zgu:@opK P (.store s) H [.ptr g v i o,x] ⟨K⟩=((H.at_ g).ver=v∧i<(H.at_ g).xs.length∧0<s∧o+s≤(H.at_ g).w∧x.cells.length=s∧D4 x.cells=true ∧
     (s=(H.at_ g).w∨((H.at_ g).xs.getD i .any).isAny=false∧((H.at_ g).xs.getD i .any).cells.length=(H.at_ g).w) ∧
     @nx .any (H.set g ⟨(H.at_ g).w,v,(H.at_ g).exact,(H.at_ g).xs.set i (Jf (H.at_ g).w o s ((H.at_ g).xs.getD i .any) x)⟩) ⟨K⟩):=(rfl)
theorem zl8:@opK P .nilCheck H [.cptr x] ⟨K⟩=@nx (.cptr x) H ⟨K⟩:=(rfl)
theorem zl9:@opK P .nilCheck H [.ptr g v i o] ⟨K⟩=@nx (.ptr g v i o) H ⟨K⟩:=(rfl)
theorem zla {f:Nat}:@opK P .nilCheck H [.fn f xs] ⟨K⟩=@nx (.fn f xs) H ⟨K⟩:=(rfl)
theorem K_add:@opK P (.bin .add) H [.int k a,.int k b] ⟨K⟩=@nx (.int k (k.wrap (a+b))) H ⟨K⟩:=by simp[opK,Ae,binI,nx]
theorem K_sub:@opK P (.bin .sub) H [.int k a,.int k b] ⟨K⟩=@nx (.int k (k.wrap (a-b))) H ⟨K⟩:=by simp[opK,Ae,binI,nx]
theorem K_mul:@opK P (.bin .mul) H [.int k a,.int k b] ⟨K⟩=@nx (.int k (k.wrap (a * b))) H ⟨K⟩:=by simp[opK,Ae,binI,nx]
theorem K_quo:@opK P (.bin .quo) H [.int k a,.int k b] ⟨K⟩=(b≠0∧@nx (.int k (k.wrap (a.tdiv b))) H ⟨K⟩):=by simp[opK,Ae,binI,nx]
theorem K_rem:@opK P (.bin .rem) H [.int k a,.int k b] ⟨K⟩=(b≠0∧@nx (.int k (a.tmod b)) H ⟨K⟩):=by simp[opK,Ae,binI,nx]
theorem K_and:@opK P (.bin .and) H [.int k a,.int k b] ⟨K⟩=@nx (.int k (I0 .and k a b)) H ⟨K⟩:=by simp[opK,Ae,binI,nx]
theorem K_or:@opK P (.bin .or) H [.int k a,.int k b] ⟨K⟩=@nx (.int k (I0 .or k a b)) H ⟨K⟩:=by simp[opK,Ae,binI,nx]
theorem K_xor:@opK P (.bin .xor) H [.int k a,.int k b] ⟨K⟩=@nx (.int k (I0 .xor k a b)) H ⟨K⟩:=by simp[opK,Ae,binI,nx]
theorem zbj:@opK P (.bin .andNot) H [.int k a,.int k b] ⟨K⟩=@nx (.int k (I0 .andNot k a b)) H ⟨K⟩:=by simp[opK,Ae,binI,nx]
theorem K_shl {k':IntKind}:@opK P (.bin .shl) H [.int k a,.int k' b] ⟨K⟩=(0≤b∧@nx (.int k (k.wrap (a * 2 ^ (Min.min b.toNat k.bits)))) H ⟨K⟩):=(rfl)
theorem K_shr {k':IntKind}:@opK P (.bin .shr) H [.int k a,.int k' b] ⟨K⟩=(0≤b∧@nx (.int k (a.fdiv (2 ^ (Min.min b.toNat k.bits)))) H ⟨K⟩):=(rfl)
theorem K_eql:@opK P (.bin .eql) H [.int k a,.int k b] ⟨K⟩=@nx (.bool (decide (a=b))) H ⟨K⟩:=by simp[opK,Ae,binI,nx]
theorem K_neq:@opK P (.bin .neq) H [.int k a,.int k b] ⟨K⟩=@nx (.bool (!decide (a=b))) H ⟨K⟩:=by simp[opK,Ae,binI,nx]
theorem K_lss:@opK P (.bin .lss) H [.int k a,.int k b] ⟨K⟩=@nx (.bool (decide (a<b))) H ⟨K⟩:=by simp[opK,Ae,binI,nx]
theorem K_leq:@opK P (.bin .leq) H [.int k a,.int k b] ⟨K⟩=@nx (.bool (decide (a≤b))) H ⟨K⟩:=by simp[opK,Ae,binI,nx]
theorem K_gtr:@opK P (.bin .gtr) H [.int k a,.int k b] ⟨K⟩=@nx (.bool (decide (b<a))) H ⟨K⟩:=by simp[opK,Ae,binI,nx]
theorem K_geq:@opK P (.bin .geq) H [.int k a,.int k b] ⟨K⟩=@nx (.bool (decide (b≤a))) H ⟨K⟩:=by simp[opK,Ae,binI,nx]
theorem zlb {s t:List UInt8}:@opK P (.bin .eql) H [.str s,.str t] ⟨K⟩=@nx (.bool (decide (s=t))) H ⟨K⟩:=(rfl)
theorem zlc {s t:List UInt8}:@opK P (.bin .neq) H [.str s,.str t] ⟨K⟩=@nx (.bool (!decide (s=t))) H ⟨K⟩:=(rfl)
theorem K_eqb:@opK P (.eqb p) H [.bool q,.bool r] ⟨K⟩=@nx (.bool (if p then !(q == r) else q == r)) H ⟨K⟩:=(rfl)
theorem K_eqs {ks:List Nat}:@opK P (.eqs p ks) H [.agg xs,.agg ys] ⟨K⟩=@optN _ (eqL ks xs ys) ⟨fun b=>@nx (.bool (if p then !b else b)) H ⟨K⟩⟩:=(rfl)
theorem z6h:@opK P (.eqn p) H [.nilS,.nilS] ⟨K⟩=@nx (.bool (!p)) H ⟨K⟩:=(rfl)
theorem z6i:@opK P (.eqn p) H [.lst w xs,.nilS] ⟨K⟩=(xs≠[]∧@nx (.bool p) H ⟨K⟩):=(rfl)
theorem z6j:@opK P (.eqn p) H [.ref g v off len,.nilS] ⟨K⟩=(0<len∧@nx (.bool p) H ⟨K⟩):=(rfl)
theorem K_not:@opK P (.un .not) H [.bool p] ⟨K⟩=@nx (.bool (!p)) H ⟨K⟩:=(rfl)
theorem K_neg:@opK P (.un .neg) H [.int k a] ⟨K⟩=@nx (.int k (k.wrap (0-a))) H ⟨K⟩:=(rfl)
theorem zld {k':IntKind}:@opK P (.conv k) H [.int k' a] ⟨K⟩=@nx (.int k (k.wrap a)) H ⟨K⟩:=(rfl)
theorem zgv:@opK P .toStr H [x] ⟨K⟩=(Fy H 1 x∧(match x with|.str _=>False|_=>True)∧∃ bs:List UInt8,Fx H x=some (bs.map fun b=>.int .u8 b.toNat)∧@nx (.str bs) H ⟨K⟩):=(rfl)
theorem zgw {lo hi mx:Bool}:@opK P (.slice w lo hi mx) H (x::xs) ⟨K⟩=@optN _ (optA lo xs) ⟨fun p=>@optN _ (optA hi p.2) ⟨fun q=>@optN _ (optA mx q.2) ⟨fun r=>r.2=[]∧@slcN w x p.1 q.1 r.1 H ⟨K⟩⟩⟩⟩:=(rfl)
theorem z6k:@opK P (.faddr p off s) H [.cptr x] ⟨K⟩=(x.isAny=false∧off+s≤x.cells.length∧(p=false→s=1)∧0<s∧@nx (.cptr (Cd p off s x)) H ⟨K⟩):=(rfl)
theorem z6l:@opK P (.faddr p off s) H [.ptr g v i o] ⟨K⟩=((H.at_ g).ver=v∧@nx (.ptr g v i (o+off)) H ⟨K⟩):=(rfl)
theorem zgx:@opK P (.field p off s) H [.agg cs] ⟨K⟩=(off+s≤cs.length∧(p=false→s=1)∧@nx (Cd p off s (.agg cs)) H ⟨K⟩):=(rfl)
theorem z6m {w':Nat}:@opK P (.iaddr w) H [.lst w' xs,.int k a] ⟨K⟩=(w'=w∧0≤a∧a<xs.length∧@nx (.cptr (xs.getD a.toNat .any)) H ⟨K⟩):=(rfl)
theorem z6n:@opK P (.iaddr w) H [.ref g v off len,.int k a] ⟨K⟩=((H.at_ g).ver=v∧(H.at_ g).w=w∧0≤a∧a<len∧@nx (.ptr g v (off+a.toNat) 0) H ⟨K⟩):=(rfl)
theorem z3e:@opK P (.iaddrA n w p) H [.ptr g v i o,.int k a] ⟨K⟩=((H.at_ g).ver=v∧0≤a∧a<n∧@nx (.ptr g v i (o+a.toNat * w)) H ⟨K⟩):=(rfl)
theorem z3f:@opK P (.iaddrA n w p) H [.cptr x,.int k a] ⟨K⟩=(x.isAny=false∧0≤a∧a<n∧n * w≤x.cells.length∧(p=false→w=1)∧0<w∧@nx (.cptr (Cd p (a.toNat * w) w x)) H ⟨K⟩):=(rfl)
theorem zgy:@opK P (.index n w p) H [.agg cs,.int k a] ⟨K⟩=(0≤a∧a<n∧n * w≤cs.length∧(p=false→w=1)∧@nx (Cd p (a.toNat * w) w (.agg cs)) H ⟨K⟩):=(rfl)
theorem z3g {s:List UInt8}:@opK P .indexStr H [.str s,.int k a] ⟨K⟩=(0≤a∧a<s.length∧@nx (.int .u8 (s.getD a.toNat 0).toNat) H ⟨K⟩):=(rfl)
theorem z6o:@opK P (.extract i) H [.tup xs] ⟨K⟩=(i<xs.length∧@nx (xs.getD i .any) H ⟨K⟩):=(rfl)
theorem z6p:@opK P (.len false) H [.nilS] ⟨K⟩=@nx (.int .i64 0) H ⟨K⟩:=(rfl)
theorem z6q:@opK P (.len false) H [.nul] ⟨K⟩=@nx (.int .i64 0) H ⟨K⟩:=(rfl)
theorem z6r:@opK P (.len false) H [.lst w xs] ⟨K⟩=@nx (.int .i64 xs.length) H ⟨K⟩:=(rfl)
theorem z6s:@opK P (.len false) H [.ref g v off len] ⟨K⟩=@nx (.int .i64 len) H ⟨K⟩:=(rfl)
theorem z6t {s:List UInt8}:@opK P (.len true) H [.str s] ⟨K⟩=@nx (.int .i64 s.length) H ⟨K⟩:=(rfl)
theorem K_app:@opK P (.app w n z) H [x,y] ⟨K⟩=(Fy H w y∧@optN _ (Fx H y) ⟨fun news=>@appN w n x news H ⟨K⟩⟩):=(rfl)
theorem zbk:@appN w n .nilS xs H ⟨K⟩=(xs.length * n≤140737488355328∧@nx (.ref H.n 1 0 xs.length) (H.push ⟨w,1,xs.isEmpty,xs⟩) ⟨K⟩):=(rfl)
theorem zgz:@appN w n .nul xs H ⟨K⟩=(xs.length * n≤140737488355328∧@nx (.ref H.n 1 0 xs.length) (H.push ⟨w,1,xs.isEmpty,xs⟩) ⟨K⟩):=(rfl)
theorem zh0:@appN w n (.ref g v off len) xs H ⟨K⟩=((H.at_ g).ver=v∧(H.at_ g).w=w∧(len+xs.length) * n≤140737488355328∧off+len≤(H.at_ g).xs.length∧@ifN (!(H.at_ g).exact||(H.at_ g).xs.isEmpty)
    ⟨(off+len+xs.length≤(H.at_ g).xs.length→@nx (.ref g v off (len+xs.length)) (H.set g ⟨w,v,true,(H.at_ g).xs.take (off+len)++xs++(H.at_ g).xs.drop (off+len+xs.length)⟩) ⟨K⟩) ∧
      ((H.at_ g).xs.length<off+len+xs.length→@nx (.ref H.n 1 0 (len+xs.length)) (H.push ⟨w,1,false,((H.at_ g).xs.drop off).take len++xs⟩) ⟨K⟩)⟩
    ⟨(off=0∨off+len=(H.at_ g).xs.length)∧(off+len=(H.at_ g).xs.length→@nx (.ref g (v+1) off (len+xs.length)) (H.set g ⟨w,v+1,(H.at_ g).exact&&xs.isEmpty,(H.at_ g).xs++xs⟩) ⟨K⟩) ∧
      (off+len<(H.at_ g).xs.length→off+len+xs.length≤(H.at_ g).xs.length∧@nx (.ref g v off (len+xs.length)) (H.set g ⟨w,v,(H.at_ g).exact,(H.at_ g).xs.take (off+len)++xs++(H.at_ g).xs.drop (off+len+xs.length)⟩) ⟨K⟩) ∧
      (off≠0→@nx (.ref g (v+1) 0 (len+xs.length)) (H.set g ⟨w,v+1,(H.at_ g).exact&&xs.isEmpty,(H.at_ g).xs.drop off++xs⟩) ⟨K⟩)⟩):=by
 simp only[appN,Jg,ifN];generalize (!(H.at_ g).exact||(H.at_ g).xs.isEmpty)=c;cases c<;>rfl
theorem zh1 {w':Nat} {lo hi:Option Int}:@slcN w (.lst w' xs) lo hi none H ⟨K⟩=(w'=w∧0≤lo.getD 0∧lo.getD 0≤hi.getD xs.length∧hi.getD xs.length≤xs.length∧@nx (.lst w' ((xs.take (hi.getD xs.length).toNat).drop (lo.getD 0).toNat)) H ⟨K⟩):=(rfl)
theorem zh2 {lo hi:Option Int}:@slcN w .nilS lo hi none H ⟨K⟩=((lo=none∨lo=some 0)∧(hi=none∨hi=some 0)∧@nx .nilS H ⟨K⟩):=(rfl)
theorem zh3 {lo hi:Option Int}:@slcN w (.ref g v off len) lo hi none H ⟨K⟩=((H.at_ g).ver=v∧(H.at_ g).w=w∧0<w∧0≤lo.getD 0∧lo.getD 0≤hi.getD len∧(hi.getD len≤len∨(H.at_ g).exact=true∧off+hi.getD len≤(H.at_ g).xs.length) ∧
     @nx (.ref g v (off+(lo.getD 0).toNat) ((hi.getD len).toNat-(lo.getD 0).toNat)) H ⟨K⟩):=(rfl)
theorem zbl {w':Nat} {lo hi:Option Int} {m:Int}:@slcN w (.lst w' xs) lo hi (some m) H ⟨K⟩=(m=0∧hi=some 0∧(lo=none∨lo=some 0)∧@nx .nul H ⟨K⟩):=(rfl)
theorem zbm {lo hi:Option Int} {m:Int}:@slcN w .nilS lo hi (some m) H ⟨K⟩=(m=0∧hi=some 0∧(lo=none∨lo=some 0)∧@nx .nilS H ⟨K⟩):=(rfl)
theorem zbn {lo hi:Option Int} {m:Int}:@slcN w .nul lo hi (some m) H ⟨K⟩=(m=0∧hi=some 0∧(lo=none∨lo=some 0)∧@nx .nul H ⟨K⟩):=(rfl)
theorem zbo {lo hi:Option Int} {m:Int}:@slcN w (.ref g v off len) lo hi (some m) H ⟨K⟩=(m=0∧hi=some 0∧(lo=none∨lo=some 0)∧@nx .nul H ⟨K⟩):=(rfl)
theorem K_cap:@opK P .cap H [.nilS] ⟨K⟩=@nx (.int .i64 0) H ⟨K⟩:=(rfl)
theorem K_clr {g v off len:Nat}:@opK P (.clr w z) H [.ref g v off len] ⟨K⟩=((H.at_ g).ver=v∧(H.at_ g).w=w∧off+len≤(H.at_ g).xs.length∧@nx (.tup []) (H.set g ⟨w,v,(H.at_ g).exact,(H.at_ g).xs.take off++List.replicate len z++(H.at_ g).xs.drop (off+len)⟩) ⟨K⟩):=(rfl)
theorem zle {m:Nat} {k:IntKind}:@opK P (.appZ w m z) H [.nilS,.int k a] ⟨K⟩=(0<a∧a * m≤140737488355328∧@nx (.ref H.n 1 0 a.toNat) (H.push ⟨w,1,false,List.replicate a.toNat z⟩) ⟨K⟩):=(rfl)
theorem K_max:@opK P .max H [.int k a,.int k b] ⟨K⟩=@nx (.int k (Max.max a b)) H ⟨K⟩:=by simp[opK,Ae,nx]
theorem K_min:@opK P .min H [.int k a,.int k b] ⟨K⟩=@nx (.int k (Min.min a b)) H ⟨K⟩:=by simp[opK,Ae,nx]
theorem z6u {k':IntKind}:@opK P (.mkSlice w n z) H [.int k a,.int k' b] ⟨K⟩=(0≤a∧a≤b∧b * n≤140737488355328∧@nx (.ref H.n 1 0 a.toNat) (H.push ⟨w,1,true,List.replicate b.toNat z⟩) ⟨K⟩):=(rfl)
theorem zbp {f:Nat}:@opK P (.mkFunc f) H xs ⟨K⟩=@nx (.fn f xs) H ⟨K⟩:=(rfl)
theorem zh4:@opK P .mkMap H [] ⟨K⟩=@nx (.map H.n 1) (H.push ⟨0,1,true,[]⟩) ⟨K⟩:=(rfl)
theorem zbq:@opK P (.mapGet z) H [.map g v,.int k a] ⟨K⟩=(k=.i64∧(H.at_ g).ver=v∧(H.at_ g).w=0∧(H.at_ g).exact=true∧@optN _ (B6 z a (H.at_ g).xs) ⟨fun y=>@nx y H ⟨K⟩⟩):=(rfl)
theorem zbr:@opK P .mapSet H [.map g v,.int k a,x] ⟨K⟩=(k=.i64∧(H.at_ g).ver=v∧(H.at_ g).w=0∧(H.at_ g).exact=true∧@optN _ (setM a x (H.at_ g).xs) ⟨fun ys=>@nx .any (H.set g ⟨0,v,true,ys⟩) ⟨K⟩⟩):=(rfl)
theorem z3h:@opK P (.len false) H [.full w xs] ⟨K⟩=@nx (.int .i64 xs.length) H ⟨K⟩:=(rfl)
theorem z6v {w':Nat}:@opK P (.iaddr w) H [.full w' xs,.int k a] ⟨K⟩=(w'=w∧0≤a∧a<xs.length∧@nx (.cptr (xs.getD a.toNat .any)) H ⟨K⟩):=(rfl)
theorem z3i:@opK P (.eqn p) H [.full w xs,.nilS] ⟨K⟩=(xs≠[]∧@nx (.bool p) H ⟨K⟩):=(rfl)
theorem zbs {w':Nat} {lo hi:Option Int}:@slcN w (.full w' xs) lo hi none H ⟨K⟩=(w'=w∧0≤lo.getD 0∧lo.getD 0≤hi.getD xs.length∧hi.getD xs.length≤xs.length∧@nx (.lst w' ((xs.take (hi.getD xs.length).toNat).drop (lo.getD 0).toNat)) H ⟨K⟩):=(rfl)
theorem z6w {w':Nat} {lo hi:Option Int} {m:Int}:@slcN w (.full w' xs) lo hi (some m) H ⟨K⟩=(m=0∧hi=some 0∧(lo=none∨lo=some 0)∧@nx .nul H ⟨K⟩):=(rfl)
theorem zbt {w':Nat}:@appN w n (.full w' xs) ys H ⟨K⟩=(w'=w∧0<ys.length∧(xs.length+ys.length) * n≤140737488355328∧@nx (.ref H.n 1 0 (xs.length+ys.length)) (H.push ⟨w,1,false,xs++ys⟩) ⟨K⟩):=(rfl)
theorem z6x:B6 z a []=some z:=rfl
theorem z3j:B6 z a (.int .i64 b::y::xs)=if b=a then some y else B6 z a xs:=rfl
theorem zbu:setM a x []=some [.int .i64 a,x]:=rfl
theorem z6y:setM a x (.int .i64 b::y::xs)=if b=a then some (.int .i64 b::x::xs) else (setM a x xs).map fun r'=>.int .i64 b::y::r':=rfl
theorem zlf {f:Nat}:@opK P .call H (.fn f cs::xs) ⟨K⟩=@R4 P f (xs++cs) H ⟨K⟩:=(rfl)
end
section
variable {P:Program} {H:Ac} {K:AV→Prop} {xs cs:List AV} {z:AV} {w len:Nat}
theorem Ch {k:AK} (h:k.still=true):@opQ P k H xs ⟨K⟩=@opK P k H xs ⟨fun x _=>K x⟩:=by
 cases k<;>first|(exact propext ⟨fun h=>h.2,fun h=>⟨rfl,h⟩⟩)|(simp[AK.still] at h)
theorem Q_mv  : @opQ P .mv H xs ⟨K⟩=@opK P .mv H xs ⟨fun x _=>K x⟩:=Ch rfl
theorem zlg  : @opQ P .pick H xs ⟨K⟩=@opK P .pick H xs ⟨fun x _=>K x⟩:=Ch rfl
theorem zh5 {zs:List AV} {pl:List (Nat × Nat)} {idx:List Nat}:@opQ P (.build zs pl idx) H xs ⟨K⟩=@opK P (.build zs pl idx) H xs ⟨fun x _=>K x⟩:=Ch rfl
theorem zlh {a:Bool} {s:Nat}:@opQ P (.load a s) H xs ⟨K⟩=@opK P (.load a s) H xs ⟨fun x _=>K x⟩:=Ch rfl
theorem z3k  : @opQ P .nilCheck H xs ⟨K⟩=@opK P .nilCheck H xs ⟨fun x _=>K x⟩:=Ch rfl
theorem Q_bin {op:BinOp}:@opQ P (.bin op) H xs ⟨K⟩=@opK P (.bin op) H xs ⟨fun x _=>K x⟩:=Ch rfl
theorem Q_eqb {n:Bool}:@opQ P (.eqb n) H xs ⟨K⟩=@opK P (.eqb n) H xs ⟨fun x _=>K x⟩:=Ch rfl
theorem Q_eqs {n:Bool} {ks:List Nat}:@opQ P (.eqs n ks) H xs ⟨K⟩=@opK P (.eqs n ks) H xs ⟨fun x _=>K x⟩:=Ch rfl
theorem Q_eqn {n:Bool}:@opQ P (.eqn n) H xs ⟨K⟩=@opK P (.eqn n) H xs ⟨fun x _=>K x⟩:=Ch rfl
theorem Q_un {op:UnOp}:@opQ P (.un op) H xs ⟨K⟩=@opK P (.un op) H xs ⟨fun x _=>K x⟩:=Ch rfl
theorem zli {k:IntKind}:@opQ P (.conv k) H xs ⟨K⟩=@opK P (.conv k) H xs ⟨fun x _=>K x⟩:=Ch rfl
theorem zh6 {w:Nat} {lo hi mx:Bool}:@opQ P (.slice w lo hi mx) H xs ⟨K⟩=@opK P (.slice w lo hi mx) H xs ⟨fun x _=>K x⟩:=Ch rfl
theorem zh7 {a:Bool} {o s:Nat}:@opQ P (.faddr a o s) H xs ⟨K⟩=@opK P (.faddr a o s) H xs ⟨fun x _=>K x⟩:=Ch rfl
theorem zh8 {a:Bool} {o s:Nat}:@opQ P (.field a o s) H xs ⟨K⟩=@opK P (.field a o s) H xs ⟨fun x _=>K x⟩:=Ch rfl
theorem zh9 {w:Nat}:@opQ P (.iaddr w) H xs ⟨K⟩=@opK P (.iaddr w) H xs ⟨fun x _=>K x⟩:=Ch rfl
theorem zbv {n w:Nat} {a:Bool}:@opQ P (.iaddrA n w a) H xs ⟨K⟩=@opK P (.iaddrA n w a) H xs ⟨fun x _=>K x⟩:=Ch rfl
theorem zha {n w:Nat} {a:Bool}:@opQ P (.index n w a) H xs ⟨K⟩=@opK P (.index n w a) H xs ⟨fun x _=>K x⟩:=Ch rfl
theorem z3l  : @opQ P .indexStr H xs ⟨K⟩=@opK P .indexStr H xs ⟨fun x _=>K x⟩:=Ch rfl
theorem z6z {i:Nat}:@opQ P (.extract i) H xs ⟨K⟩=@opK P (.extract i) H xs ⟨fun x _=>K x⟩:=Ch rfl
theorem Q_cap:@opQ P .cap H xs ⟨K⟩=@opK P .cap H xs ⟨fun x _=>K x⟩:=Ch rfl
theorem Q_len {b:Bool}:@opQ P (.len b) H xs ⟨K⟩=@opK P (.len b) H xs ⟨fun x _=>K x⟩:=Ch rfl
theorem Q_max  : @opQ P .max H xs ⟨K⟩=@opK P .max H xs ⟨fun x _=>K x⟩:=Ch rfl
theorem Q_min  : @opQ P .min H xs ⟨K⟩=@opK P .min H xs ⟨fun x _=>K x⟩:=Ch rfl
theorem zbw:@opQ P (.mapGet z) H xs ⟨K⟩=@opK P (.mapGet z) H xs ⟨fun x _=>K x⟩:=Ch rfl
theorem zbx {f:Nat}:@opQ P (.mkFunc f) H xs ⟨K⟩=@opK P (.mkFunc f) H xs ⟨fun x _=>K x⟩:=Ch rfl
theorem zhb  : @opQ P .toStr H xs ⟨K⟩=@opK P .toStr H xs ⟨fun x _=>K x⟩:=Ch rfl
theorem zhc {f:Nat}:@opQ P .call H (.fn f cs::xs) ⟨K⟩=@zbd P f (xs++cs) H ⟨K⟩:=(rfl)
theorem Q_bsl {idx:List Nat}:@opQ P (.bslice w len z idx) H xs ⟨K⟩=(F6 w len idx xs∧0<w∧Ap (Dh idx xs (List.replicate len z))=true∧@nq (.full w (Dh idx xs (List.replicate len z))) ⟨K⟩):=(rfl)
end
section
variable {H:Ac} {G:Grp} {g j:Nat}
end
section
variable {P:Program} {H:Ac} {env:Env} {K:List AV→Prop} {l:List ARes} {t s:Nat} {a:Bool}
theorem zhd:resK P [] env H K=K []:=(rfl)
theorem zby:resK P (.slot t::l) env H K=resK P l env H fun xs=>K (env t::xs):=(rfl)
theorem zbz:resK P (.cell t a s::l) env H K=@opK P (.load a s) H [env t] ⟨fun x _=>resK P l env H fun xs=>K (x::xs)⟩:=(rfl)
end
theorem zf7 {p:Prop} [Decidable p] (h:p):true=decide p:=(decide_eq_true h).symm
theorem zf8 {p:Prop} [Decidable p] (h:¬p):false=decide p:=(decide_eq_false h).symm
theorem W8 {p q:Prop} [Decidable p] [Decidable q] (h:p↔q):decide p=decide q:=decide_eq_decide.2 h
theorem getD_map {α:Type} [Inhabited α] (f:α→AV) (l:List α) (i:Nat):(l.map f).getD i .any=if i<l.length then f (l.getD i default) else .any:=by
 by_cases h:i<l.length<;>simp[List.getD,h]
def nth {α:Type} [Inhabited α] (l:List α) (i:Nat):α:=l.getD i default
theorem z71 {α:Type} [Inhabited α] (f:α→AV) (l:List α) (i:Nat) (h:i<l.length):(l.map f).getD i .any=f (nth l i):=by rw[getD_map,if_pos h];rfl
theorem zc0 {α:Type} (f:α→AV) (l:List α) (i:Nat):(l.map f).drop i=(l.drop i).map f:=List.map_drop.symm
theorem zc1 {α:Type} (f:α→AV) (l:List α) (i:Nat):(l.map f).take i=(l.take i).map f:=List.map_take.symm
theorem Ec {α:Type} {f:α→AV} (h:∀ x,(f x).pure=true):∀ l:List α,Ap (l.map f)=true
 | []=>rfl
 | x::l=>by simp[Ap,h x,Ec h l]
theorem Mq (k:IntKind) (l:List Int):Ap (l.map (AV.int k))=true:=Ec (fun _=>rfl) l
theorem z72 (k:IntKind) (l:List Int):Ap (l.map fun x=>AV.int k x)=true:=Ec (fun _=>rfl) l
theorem z73 (l:List Bool):Ap (l.map AV.bool)=true:=Ec (fun _=>rfl) l
attribute [push_cast] z34 z35 z36 zh4 zbq zbr z3h z6v z3i zbs z6w zbt z6x z3j zbu z6y zbw
attribute [push_cast] K_clr zle K_cap Q_cap zgq zgr z6f zbf z6g zbk zgz zh0 zh1 zh2 zh3 zbl zbm zbn zbo K_mv zl7 zgs K_box zgt zbg zbh zbi zgu zl8 zl9 zla K_add K_sub K_mul K_quo K_rem K_and K_or K_xor zbj K_shl K_shr K_eql K_neq K_lss K_leq K_gtr K_geq zlb zlc K_eqb K_eqs z6h z6i z6j K_not K_neg zld zgv zgw z6k z6l zgx z6m z6n z3e z3f zgy z3g z6o z6p z6q z6r z6s z6t K_app K_max K_min z6u zbp zlf Q_mv zlg zh5 zlh z3k Q_bin Q_eqb Q_eqs Q_eqn Q_un zli zh6 zh7 zh8 zh9 zbv zha z3l z6z Q_len Q_max Q_min zbx zhb zhc Q_bsl
attribute [push_cast] z21 z22 z23 z24 z25 z26 z27 zba
attribute [push_cast] Cd AV.cells AV.isAny D4 AV.one Jf eqL eq1 Fy Fx F6 Dh Ro optA List.replicate Ap AV.pure Ret zhd zby zbz resV zc0 zc1 Mq z72 z73
def pos:List Nat→Nat→Option Nat
 | [],_=>none
 | k::ks,g=>if g=k then some 0 else (pos ks g).map (·+1)
theorem Mr:∀ {ks:List Nat} {g j:Nat},pos ks g=some j→j<ks.length∧ks.getD j 0=g
 | [],g,j,h=>by simp[pos] at h
 | k::ks,g,j,h=>by
   rw[pos] at h;split at h
   · rename_i hk;cases h;exact⟨by simp,by simp[hk]⟩
   · obtain⟨i,hi,rfl⟩:=Option.map_eq_some_iff.1 h
     obtain⟨h1,h2⟩:=Mr hi;exact⟨by simp;omega,by simpa using h2⟩
theorem R5:∀ {ks:List Nat} {g:Nat},pos ks g=none→g∉ks
 | [],g,_=>by simp
 | k::ks,g,h=>by
   rw[pos] at h;split at h
   · cases h
   · rename_i hk
     have:=R5 (Option.map_eq_none_iff.1 h);simp[hk,this]
def frzL (w:Nat) (ys:List AV):AV:=bif Ap ys then .lst w ys else .any
def frzP (y:AV):AV:=bif y.pure then .cptr y else .any
def rnV (b:Nat) (H:Ac) (ks:List Nat):Nat→AV→AV
 | 0,x=>bif x.pure then x else .any
 | d+1,.ref g v off len=>if g<b then .ref g v off len else if v=(H.at_ g).ver then
     (match pos ks g with
      | some j=>.ref (b+j) 1 off len
      | none=>if 0<(H.at_ g).w∧off+len≤(H.at_ g).xs.length then frzL (H.at_ g).w ((((H.at_ g).xs.drop off).take len).map (rnV b H ks d)) else .any)
     else .any
 | d+1,.ptr g v i o=>if g<b then .ptr g v i o else if v=(H.at_ g).ver then
     (match pos ks g with
      | some j=>.ptr (b+j) 1 i o
      | none=>if o=0∧i<(H.at_ g).xs.length∧0<(H.at_ g).w then frzP (rnV b H ks d ((H.at_ g).xs.getD i .any)) else .any)
     else .any
 | _+1,.map g v=>if g<b then .map g v else if v=(H.at_ g).ver then (match pos ks g with|some j=>.map (b+j) 1|none=>.any) else .any
 | d+1,.agg cs=>.agg (cs.map (rnV b H ks d))
 | d+1,.tup cs=>.tup (cs.map (rnV b H ks d))
 | d+1,.fn f cs=>.fn f (cs.map (rnV b H ks d))
 | _+1,x=>x
def inv (b:Nat) (ks:List Nat) (j:Nat):Nat:=if j<b then j else ks.getD (j-b) 0
def MS.repack (S:MS) (b:Nat) (H:Ac) (ks:List Nat):MS where
 w:=S.w
 im:=fun c=>S.im c∨∃ g,g<H.n∧b≤g∧g∉ks∧0<(H.at_ g).w∧0<S.cap g∧c=S.place g
 keep:=S.keep
 n:=b+ks.length
 place:=fun j=>S.place (inv b ks j)
 cur:=fun j=>if j<b then S.cur j else 1
 cap:=fun j=>S.cap (inv b ks j)
 wid:=fun j=>S.wid (inv b ks j)
 base:=S.base
def Ac.repack (H:Ac) (b:Nat) (ks:List Nat) (d:Nat):Ac:=⟨b+ks.length,fun j=>⟨(H.at_ (inv b ks j)).w,if j<b then (H.at_ j).ver else 1,(H.at_ (inv b ks j)).exact,(H.at_ (inv b ks j)).xs.map (rnV b H ks d)⟩⟩
section
variable {S:MS} {H:Ac} {b:Nat} {ks:List Nat}
theorem Ed {j:Nat} (h:j<b):inv b ks j=j:=if_pos h
theorem W9 {j:Nat}:inv b ks (b+j)=ks.getD j 0:=by
 have h1:b+j-b=j:=by omega
 have h2:¬b+j<b:=by omega
 rw[inv,if_neg h2,h1]
theorem R6 {x:AV} {v:Value} (hx:x.pure=true) (h:VRel S x v):VRel (S.repack b H ks) x v:=VRel.of_pure (S:=S) (S':=S.repack b H ks) rfl (fun _ hb=>.inl hb) hx h
theorem z3m (hS:SRel S H):∀ (d:Nat) {x:AV} {v:Value},VRel S x v→VRel (S.repack b H ks) (rnV b H ks d x) v
 | 0,x,v,h=>by
   rw[rnV];cases hp:x.pure
   · trivial
   · exact R6 hp h
 | d+1,x,v,h=>by
   have keyL:∀ {cs:List AV} {vs:List Value},Ad S cs vs→Ad (S.repack b H ks) (cs.map (rnV b H ks d)) vs:=by
     intro cs
     induction cs with
     | nil=>intro vs hh;exact hh
     | cons c cs ih =>
       intro vs hh;obtain⟨u,r,rfl,h1,h2⟩:=hh;exact⟨u,r,rfl,z3m hS d h1,ih h2⟩
   cases x with
   | ref g vn off len =>
     obtain⟨⟨a,c,rfl,ha⟩,hg,hvn,hcur⟩:=h;have hG:=hS.live_of hg;rw[rnV];split
     · rename_i hgb
       refine⟨⟨a,c,rfl,ha⟩,by show g<b+_;omega,by show vn≤if g<b then _ else _;rw[if_pos hgb];exact hvn,fun he=>?_⟩;have he':(if g<b then S.cur g else 1)=vn:=he;rw[if_pos hgb] at he';show ∃ a cap',_=Value.slice a len cap'∧((a=some ⟨S.place (inv b ks g),off * S.wid (inv b ks g),none⟩∧cap'=S.cap (inv b ks g)-off∧off+len≤S.cap (inv b ks g))∨(len=0∧cap'=0∧S.cap (inv b ks g)≤off));rw[Ed hgb];exact hcur he'
     · split
       · rename_i hver
         have hh:=hcur (by rw[hG.ver,hver]);split
         · rename_i j hj
           obtain⟨h1,h2⟩:=Mr hj;refine⟨⟨a,c,rfl,ha⟩,by show b+j<b+_;omega,by show 1≤if b+j<b then _ else 1;rw[if_neg (by omega)];exact Nat.le_refl 1,fun _=>?_⟩;show ∃ a cap',_=Value.slice a len cap'∧((a=some ⟨S.place (inv b ks (b+j)),off * S.wid (inv b ks (b+j)),none⟩∧cap'=S.cap (inv b ks (b+j))-off∧off+len≤S.cap (inv b ks (b+j)))∨(len=0∧cap'=0∧S.cap (inv b ks (b+j))≤off));rw[W9,h2];exact hh
         · rename_i hb hj
           have hnk:=R5 hj;split
           · rename_i hw
             obtain⟨hw,hol⟩:=hw;unfold frzL;cases hpu:Ap ((((H.at_ g).xs.drop off).take len).map (rnV b H ks d))
             · trivial
             · obtain⟨a',cap',hv,hcase⟩:=hh
               obtain⟨rfl,-,rfl⟩:a=a'∧len=len∧c=cap':=by cases hv;exact⟨rfl,rfl,rfl⟩
               have hl:((((H.at_ g).xs.drop off).take len).map (rnV b H ks d)).length=len:=by simp;omega
               show VRel _ (.lst _ _) _
               have hnone:a=none→c=0:=fun hn=>by
                 rcases hcase with⟨rfl,_⟩|⟨_,hh,_⟩
                 · cases hn
                 · exact hh
               by_cases hc0:S.cap g=0
               · have hlen:=hG.len hw
                 have hnil:((H.at_ g).xs.drop off).take len=[]:=List.eq_nil_of_length_eq_zero (by simp;omega);simp only[hnil,List.map_nil] at hl ⊢;exact⟨rfl,hw,a,c,[],by rw[←hl],⟨Nat.zero_le _,hnone⟩,rfl,fun hne=>absurd rfl hne⟩
               obtain⟨⟨cells,TT,us,hb2,hcs,hus,hfl⟩,_⟩:=hG.live hw (by omega);refine⟨hpu,hw,a,c,_,by rw[hl],⟨?_,hnone⟩,keyL ((hus.drop off).take len),fun hne=>?_⟩
               · rw[hl];rcases hcase with⟨_,c2,c3⟩|⟨c1,c2,_⟩<;>omega
               · rcases hcase with⟨rfl,_,_⟩|⟨c1,_,_⟩
                 · refine⟨_,_,rfl,.inr ⟨g,by rw[←hS.n];exact hg,by omega,hnk,hw,by omega,rfl⟩,fun j u hu=>?_⟩
                   rw[List.getElem?_take] at hu;split at hu
                   · rw[List.getElem?_drop] at hu
                     have:=hfl.row hb2 (off+j) u hu;rw[Nat.zero_add,Nat.add_mul] at this;rw[hG.wid];exact this
                   · cases hu
                 · exact absurd (List.eq_nil_of_length_eq_zero (by rw[hl];exact c1)) hne
           · trivial
       · trivial
   | ptr g vn i o =>
     obtain⟨⟨a,rfl⟩,hg,hvn,hcur⟩:=h;have hG:=hS.live_of hg;rw[rnV];split
     · rename_i hgb
       refine⟨⟨a,rfl⟩,by show g<b+_;omega,by show vn≤if g<b then _ else _;rw[if_pos hgb];exact hvn,fun he=>?_⟩;have he':(if g<b then S.cur g else 1)=vn:=he;rw[if_pos hgb] at he';show _=Value.pointer (some ⟨S.place (inv b ks g),i * S.wid (inv b ks g)+o,none⟩);rw[Ed hgb];exact hcur he'
     · split
       · rename_i hver
         have hh:=hcur (by rw[hG.ver,hver]);split
         · rename_i j hj
           obtain⟨h1,h2⟩:=Mr hj;refine⟨⟨a,rfl⟩,by show b+j<b+_;omega,by show 1≤if b+j<b then _ else 1;rw[if_neg (by omega)];exact Nat.le_refl 1,fun _=>?_⟩;show _=Value.pointer (some ⟨S.place (inv b ks (b+j)),i * S.wid (inv b ks (b+j))+o,none⟩);rw[W9,h2];exact hh
         · rename_i hb hj
           have hnk:=R5 hj;split
           · rename_i hc
             obtain⟨rfl,hi,hw⟩:=hc;unfold frzP;cases hpu:(rnV b H ks d ((H.at_ g).xs.getD i .any)).pure
             · trivial
             · show VRel _ (.cptr _) _
               obtain⟨u,hu,hl⟩:=hG.elem hw hi;have k1:=z3m hS d hu;refine⟨hpu,S.place g,i * (H.at_ g).w,u,?_,.inr ⟨g,by rw[←hS.n];exact hg,by omega,hnk,hw,by have:=hG.len hw;omega,rfl⟩,k1,?_⟩
               · rw[hh,hG.wid];rfl
               · rw[hl.1];exact hl
           · trivial
       · trivial
   | agg cs=>obtain⟨vs,rfl,hr⟩:=h;exact⟨vs,rfl,keyL hr⟩
   | tup cs=>obtain⟨vs,rfl,hr⟩:=h;exact⟨vs,rfl,keyL hr⟩
   | fn f cs=>obtain⟨vs,rfl,hr⟩:=h;exact⟨vs,rfl,keyL hr⟩
   | full w xs=>exact R6 h.1 h
   | map g vn =>
     obtain⟨⟨a,rfl⟩,hg,hvn,hcur⟩:=h;have hG:=hS.live_of hg;rw[rnV];split
     · rename_i hgb
       refine⟨⟨a,rfl⟩,by show g<b+_;omega,by show vn≤if g<b then _ else _;rw[if_pos hgb];exact hvn,fun he=>?_⟩;have he':(if g<b then S.cur g else 1)=vn:=he;rw[if_pos hgb] at he';show _=Value.map (some (S.place (inv b ks g)));rw[Ed hgb];exact hcur he'
     · split
       · rename_i hver
         have hh:=hcur (by rw[hG.ver,hver]);split
         · rename_i j hj
           obtain⟨h1,h2⟩:=Mr hj;refine⟨⟨a,rfl⟩,by show b+j<b+_;omega,by show 1≤if b+j<b then _ else 1;rw[if_neg (by omega)];exact Nat.le_refl 1,fun _=>?_⟩;show _=Value.map (some (S.place (inv b ks (b+j))));rw[W9,h2];exact hh
         · trivial
       · trivial
   | lst w xs=>exact R6 h.1 h
   | cptr x=>exact R6 h.1 h
   | any=>trivial
   | bool _=>exact h
   | int _ _=>exact h
   | str _=>exact h
   | nilS=>exact h
   | nul=>exact h
   | emp=>exact h
   | nilP=>exact h
   | nilF=>exact h
   | yld l=>exact h
theorem Ii (hS:SRel S H) (hb:b≤S.n):BEvo b S (S.repack b H ks) where
 base:=rfl
 os:=rfl
 tape:=rfl
 output:=rfl
 size:=Nat.le_refl _
 kept _ _:=rfl
 im _ h:=.inl h
 keep _ h:=h
 fresh c hc:=by
   rcases hc with hc|⟨g,hg,_,_,hw,hcap,rfl⟩
   · exact .inl hc
   · exact .inr fun hk=>((hS.grp g hg).live hw hcap).2 (.inr hk)
 n:=Nat.le_add_right _ _
 cur g hg:=by show _≤if g<b then S.cur g else 1;rw[if_pos hg];exact Nat.le_refl _
 same g hg _:=by
   show S.place (inv b ks g)=_∧S.cap (inv b ks g)=_∧S.wid (inv b ks g)=_;rw[Ed hg];exact⟨rfl,rfl,rfl⟩
theorem Kt (d:Nat) (hS:SRel S H) (hb:b≤H.n) (hk:∀ k∈ks,b≤k∧k<H.n) (hn:ks.Nodup):SRel (S.repack b H ks) (H.repack b ks d):=by
 have keyL:∀ {cs:List AV} {vs:List Value},Ad S cs vs→Ad (S.repack b H ks) (cs.map (rnV b H ks d)) vs:=by
   intro cs
   induction cs with
   | nil=>intro vs hh;exact hh
   | cons c cs ih =>
     intro vs hh;obtain⟨u,r,rfl,h1,h2⟩:=hh;exact⟨u,r,rfl,z3m hS d h1,ih h2⟩
 have hinv:∀ j,j<b+ks.length→inv b ks j<H.n∧(j<b∨b≤inv b ks j∧inv b ks j∈ks):=by
   intro j hj;by_cases hjb:j<b
   · rw[Ed hjb];exact⟨by omega,.inl hjb⟩
   · have h1:j-b<ks.length:=by omega
     have:inv b ks j=ks[j-b]:=by simp[inv,hjb,List.getD,List.getElem?_eq_getElem h1]
     rw[this];have:=hk _ (List.getElem_mem h1);exact⟨this.2,.inr ⟨this.1,List.getElem_mem h1⟩⟩
 refine⟨rfl,fun j hj=>?_,fun j j' hj hj' hne hw hw'=>?_,fun c hc=>?_⟩
 · obtain⟨h1,h2⟩:=hinv j hj
   have hG:=hS.grp _ h1
   have hni:(H.at_ (inv b ks j)).has (S.cap (inv b ks j))→¬((S.repack b H ks).im (S.place (inv b ks j))∨(S.repack b H ks).keep (S.place (inv b ks j))):=fun hq=>by
     have a5:=hG.has_ni hq;rintro ((hi|⟨g,hg,hbg,hnk,hw',hc',he⟩)|hi)
     · exact a5 (.inl hi)
     · have hne:inv b ks j≠g:=by
         intro hh;rcases h2 with h2|h2
         · rw[Ed h2] at hh;omega
         · exact hnk (hh ▸ h2.2)
       exact hS.apart _ g h1 hg hne hq (.inl ⟨hw',hc'⟩) he
     · exact a5 (.inr hi)
   refine⟨?_,hG.wid,fun hw hc=>?_,fun hw=>?_,fun hw he=>?_,fun hw he=>?_⟩
   · show (if j<b then S.cur j else 1)=if j<b then (H.at_ j).ver else 1
     split
     · rename_i hjb;rw[Ed hjb] at hG;exact hG.ver
     · rfl
   · obtain⟨⟨cells,TT,us,a1,a2,a3,a4⟩,a5⟩:=hG.live hw hc
     exact⟨⟨cells,TT,us,a1,a2,keyL a3,a4⟩,hni (.inl ⟨hw,hc⟩)⟩
   · show ((H.at_ (inv b ks j)).xs.map _).length≤_;rw[List.length_map];exact hG.len hw
   · show ((H.at_ (inv b ks j)).xs.map _).length=_;rw[List.length_map];exact hG.full hw he
   · obtain⟨⟨es,clock,a1,a2⟩,a5⟩:=hG.mlive hw he
     exact⟨⟨es,clock,a1,keyL a2⟩,hni (.inr ⟨hw,he⟩)⟩
 · obtain⟨h1,h2⟩:=hinv j hj
   obtain⟨h1',h2'⟩:=hinv j' hj';refine hS.apart _ _ h1 h1' ?_ hw hw';intro hh;rcases h2 with h2|⟨h2,h3⟩<;>rcases h2' with h2'|⟨h2',h3'⟩
   · rw[Ed h2,Ed h2'] at hh;exact hne hh
   · rw[Ed h2] at hh;omega
   · rw[Ed h2'] at hh;omega
   · have hjb:¬j<b:=fun h=>by rw[Ed h] at h2;omega
     have hjb':¬j'<b:=fun h=>by rw[Ed h] at h2';omega
     have e1:j-b<ks.length:=by have:j<b+ks.length:=hj;omega
     have e2:j'-b<ks.length:=by have:j'<b+ks.length:=hj';omega
     have f1:inv b ks j=ks[j-b]:=by simp[inv,hjb,List.getD,List.getElem?_eq_getElem e1]
     have f2:inv b ks j'=ks[j'-b]:=by simp[inv,hjb',List.getD,List.getElem?_eq_getElem e2]
     rw[f1,f2] at hh;have:=(List.getElem_inj hn).1 hh;omega
 · rcases hc with (hc|⟨g,hg,_,_,hw,hcap,rfl⟩)|hc
   · exact hS.im c (.inl hc)
   · exact (hS.grp g hg).lt hw hcap
   · exact hS.im c (.inr hc)
theorem zc2 {P:Program} {n:Nat} {c:AC} {env:Env} {Q:Ex→Env→Ac→Prop} (ks:List Nat) (d:Nat) (hb:b≤H.n) (hk:∀ k∈ks,b≤k∧k<H.n) (hn:ks.Nodup)
   (h:T P n b c (fun i=>rnV b H ks d (env i)) (H.repack b ks d) Q):T P n b c env H Q:=by
 intro rd mm hrd code hc S a hbS hS hF;have hev:=Ii (ks:=ks) hS hbS;refine wpIn_mono (h rd mm hrd code hc (S.repack b H ks) a (Nat.le_add_right _ _) (Kt d hS hb hk hn) ⟨hF.size,hF.defers.of hev.base hev.size hev.keep hev.fresh (fun b hb=>hev.kept b (.inr hb)),fun j hj=>z3m hS d (hF.val j hj)⟩) fun e a w hh=>hh.trans (Ii hS hbS)
end
theorem Zs:Ac.nil=hl []:=by
 simp[Ac.nil,hl]
theorem hl_n (l:List Grp):(hl l).n=l.length:=rfl
theorem SRel.congr {S:MS} {H H':Ac} (hn:H'.n=H.n) (h:∀ g,g<H.n→H'.at_ g=H.at_ g) (hS:SRel S H):SRel S H' :=
 ⟨hS.n.trans hn.symm,fun g hg=>by rw[h g (by omega)];exact hS.grp g (by omega),fun g g' hg hg' hne hw hw'=>by
   rw[h g (by omega)] at hw;rw[h g' (by omega)] at hw'
   exact hS.apart g g' (by omega) (by omega) hne hw hw',hS.im⟩
theorem Bj.congr {P:Program} {f:Nat} {xs:List AV} {H H':Ac} {K:AV→Ac→Prop} (hn:H'.n=H.n) (h:∀ g,g<H.n→H'.at_ g=H.at_ g) (k:Bj P f xs H' K):Bj P f xs H K :=
 ⟨k.1,fun S cargs hS hx=>k.2 S cargs (hS.congr hn h) hx⟩
def Ac.groups (H:Ac):List Grp:=(List.range H.n).map H.at_
theorem Ui (l:List Grp):(hl l).groups=l:=by
 refine List.ext_getElem (by simp[Ac.groups,hl]) fun i h1 h2=>?_;simp[Ac.groups,hl,h2]
def D5:Nat→List Nat→List Grp→List Grp
 | _,_,[]=>[]
 | i,ks,G::l=>(if i∈ks then G.dead else G)::D5 (i+1) ks l
theorem Fc:∀ (i:Nat) (ks:List Nat) (l:List Grp),(D5 i ks l).length=l.length
 | _,_,[]=>rfl
 | i,ks,G::l=>by simp[D5,Fc (i+1) ks l]
theorem J4:∀ (i:Nat) (ks:List Nat) (l:List Grp) (g:Nat),g<l.length→(D5 i ks l).getD g default=if i+g∈ks then (l.getD g default).dead else l.getD g default
 | _,_,[],g,h=>by simp at h
 | i,ks,G::l,0,h=>by simp[D5]
 | i,ks,G::l,g+1,h=>by
   have:=J4 (i+1) ks l g (by simpa using h);have e:i+1+g=i+(g+1):=by omega
   rw[e] at this;simpa [D5] using this
theorem P7 {P:Program} {f:Nat} {xs:List AV} {l:List Grp} {K:AV→Ac→Prop} (d:Nat) (ks:List Nat) (hok:∀ x∈xs,Cj d ((hl l).only ks) x) (h:Bj P f (xs.map (frzV d ((hl l).only ks))) (hl (D5 0 ks l)) K):Bj P f xs (hl l) K:=by
 refine R3 d ks hok (Bj.congr (H':=hl (D5 0 ks l)) (by simp[hl,Ac.kill,Fc]) (fun g hg=>?_) h);show (D5 0 ks l).getD g default=if g∈ks then (l.getD g default).dead else l.getD g default
 rw[J4 0 ks l g hg,Nat.zero_add]
def leH (H:Ac) (x y:AV):Prop:=∀ S v,SRel S H→VRel S x v→VRel S y v
section
variable {H:Ac}
theorem z74 {l:List Grp} {g v len:Nat} (hv:(l.getD g default).ver=v) (hw:0<(l.getD g default).w) (hx:(l.getD g default).xs=[]) (he:(l.getD g default).exact=true) (hg:g<l.length) (h0:len=0):leH (hl l) .nilS (.ref g v 0 len):=fun S u hS hu=>by
 subst h0;have hG:=hS.grp g hg;rw[Cg] at hG;have hf:=hG.full hw he;rw[hx] at hf;have hc:S.cap g=0:=hf.symm;have hu':u=.slice none 0 0:=hu;subst hu';exact⟨⟨none,0,rfl,fun _=>rfl⟩,by rw[hS.n];exact hg,by rw[hG.ver,hv];exact Nat.le_refl _,fun _=>⟨none,0,rfl,.inr ⟨rfl,rfl,by rw[hc];exact Nat.le_refl _⟩⟩⟩
end
mutual
def leS (l:List Grp):AV→AV→Prop
 | .int k a,y=>(match y with|.int k' b=>k=k'∧a=b|.any=>True|_=>False)
 | .bool a,y=>(match y with|.bool b=>a=b|.any=>True|_=>False)
 | .nilS,y=>(match y with
   | .nilS|.any=>True
   | .lst w ys=>0<w∧ys=[]
   | .ref g v off len=>off=0∧len=0∧(l.getD g default).ver=v∧0<(l.getD g default).w∧(l.getD g default).xs=[]∧(l.getD g default).exact=true∧g<l.length
   | _=>False)
 | .nul,y=>(match y with|.nul|.any=>True|.lst w ys=>0<w∧ys=[]|_=>False)
 | .emp,y=>(match y with|.emp|.any=>True|.lst w ys=>0<w∧ys=[]|_=>False)
 | .lst w xs,y=>(match y with|.lst w' ys=>w=w'∧xs=ys|.any=>True|_=>False)
 | .full w xs,y=>(match y with|.full w' ys=>w=w'∧xs=ys|.lst w' ys=>w=w'∧leSL l xs ys∧Ap ys=true|.any=>True|_=>False)
 | .ref g v o n,y=>(match y with|.ref g' v' o' n'=>g=g'∧v=v'∧o=o'∧n=n'|.any=>True|_=>False)
 | .ptr g v o n,y=>(match y with|.ptr g' v' o' n'=>g=g'∧v=v'∧o=o'∧n=n'|.any=>True|_=>False)
 | .agg xs,y=>(match y with|.agg ys=>leSL l xs ys|.any=>True|_=>False)
 | .tup xs,y=>(match y with|.tup ys=>leSL l xs ys|.any=>True|_=>False)
 | x,y=>(match y with|.any=>True|y=>x=y)
def leSL (l:List Grp):List AV→List AV→Prop
 | [],ys=>ys=[]
 | x::xs,ys=>(match ys with|y::ys=>leS l x y∧leSL l xs ys|[]=>False)
end
mutual
theorem Uj {S:MS} {l:List Grp} (hS:SRel S (hl l)∨l=[]):∀ (x:AV) {y:AV} {v:Value},leS l x y→VRel S x v→VRel S y v
 | .any,y,v,h,hv=>by cases y<;>simp only[leS,reduceCtorEq] at h;trivial
 | .int k a,y,v,h,hv=>by
   cases y<;>simp only[leS] at h
   · trivial
   · obtain⟨rfl,rfl⟩:=h;exact hv
 | .bool a,y,v,h,hv=>by
   cases y<;>simp only[leS] at h
   · trivial
   · subst h;exact hv
 | .str s,y,v,h,hv=>by cases y<;>simp only[leS] at h<;>first|trivial|(cases h;done)|(cases h;exact hv)
 | .nilP,y,v,h,hv=>by cases y<;>simp only[leS] at h<;>first|trivial|(cases h;done)|exact hv
 | .nilF,y,v,h,hv=>by cases y<;>simp only[leS] at h<;>first|trivial|(cases h;done)|exact hv
 | .yld l,y,v,h,hv=>by cases y<;>simp only[leS] at h<;>first|trivial|(cases h;done)|(cases h;exact hv)
 | .cptr x,y,v,h,hv=>by cases y<;>simp only[leS] at h<;>first|trivial|(cases h;done)|(cases h;exact hv)
 | .fn f xs,y,v,h,hv=>by cases y<;>simp only[leS] at h<;>first|trivial|(cases h;done)|(cases h;exact hv)
 | .nilS,y,v,h,hv=>by
   cases y<;>simp only[leS] at h
   · trivial
   · exact hv
   · obtain⟨h1,rfl⟩:=h;exact AV.le_nilS h1 S v hv
   · obtain⟨rfl,rfl,h1,h2,h3,h4,h5⟩:=h
     rcases hS with hS|rfl
     · exact z74 h1 h2 h3 h4 h5 rfl S v hS hv
     · exact absurd h5 (Nat.not_lt_zero _)
 | .nul,y,v,h,hv=>by
   cases y<;>simp only[leS] at h
   · trivial
   · exact hv
   · obtain⟨h1,rfl⟩:=h;exact AV.le_nul h1 S v hv
 | .emp,y,v,h,hv=>by
   cases y<;>simp only[leS] at h
   · trivial
   · exact hv
   · obtain⟨h1,rfl⟩:=h;exact AV.le_emp h1 S v hv
 | .lst w xs,y,v,h,hv=>by
   cases y<;>simp only[leS] at h
   · trivial
   · obtain⟨rfl,rfl⟩:=h;exact hv
 | .full w xs,y,v,h,hv=>by
   cases y<;>simp only[leS] at h
   · trivial
   · rename_i w' ys
     obtain⟨rfl,h1,hp⟩:=h;obtain⟨_,h0,a,cap,vs,hv,hc,hl,hr⟩:=Jt hv;have hn:=Ad.length hl;have hm:=Hj hS xs h1 hl;have hln:ys.length=xs.length:=by rw[←Ad.length hm,hn]
     exact⟨hp,h0,a,cap,vs,by rw[hln];exact hv,by rw[hln];exact hc,hm,fun hne=>hr fun h=>hne (by rw[h] at hln;exact List.length_eq_zero_iff.1 hln)⟩
   · obtain⟨rfl,rfl⟩:=h;exact hv
 | .map g a,y,v,h,hv=>by cases y<;>simp only[leS] at h<;>first|trivial|(cases h;done)|(cases h;exact hv)
 | .ref g a o n,y,v,h,hv=>by
   cases y<;>simp only[leS] at h
   · trivial
   · obtain⟨rfl,rfl,rfl,rfl⟩:=h;exact hv
 | .ptr g a o n,y,v,h,hv=>by
   cases y<;>simp only[leS] at h
   · trivial
   · obtain⟨rfl,rfl,rfl,rfl⟩:=h;exact hv
 | .agg xs,y,v,h,hv=>by
   cases y<;>simp only[leS] at h
   · trivial
   · obtain⟨vs,rfl,hr⟩:=hv;exact⟨vs,rfl,Hj hS xs h hr⟩
 | .tup xs,y,v,h,hv=>by
   cases y<;>simp only[leS] at h
   · trivial
   · obtain⟨vs,rfl,hr⟩:=hv;exact⟨vs,rfl,Hj hS xs h hr⟩
theorem Hj {S:MS} {l:List Grp} (hS:SRel S (hl l)∨l=[]):∀ (xs:List AV) {ys:List AV} {vs:List Value},leSL l xs ys→Ad S xs vs→Ad S ys vs
 | [],ys,vs,h,hv=>by rw[show ys=[] from h];exact hv
 | x::xs,[],vs,h,hv=>h.elim
 | x::xs,y::ys,vs,h,hv=>by
   obtain⟨v,r,rfl,h1,h2⟩:=hv;exact⟨v,r,rfl,Uj hS x h.1 h1,Hj hS xs h.2 h2⟩
end
theorem Zt {l:List Grp}:∀ {xs ys:List AV},leSL l xs ys→ys.length=xs.length
 | [],ys,h=>by rw[show ys=[] from h]
 | _::_,[],h=>h.elim
 | _::_,_::_,h=>by simp[Zt h.2]
mutual
theorem Gm (l:List Grp):∀ x:AV,leS l x x
 | .any=>trivial
 | .int _ _=>⟨rfl,rfl⟩
 | .bool _=>rfl
 | .str _=>rfl
 | .nilS=>trivial
 | .nul=>trivial
 | .emp=>trivial
 | .lst _ _=>⟨rfl,rfl⟩
 | .full _ _=>⟨rfl,rfl⟩
 | .map _ _=>rfl
 | .ref ..=>⟨rfl,rfl,rfl,rfl⟩
 | .ptr ..=>⟨rfl,rfl,rfl,rfl⟩
 | .cptr _=>rfl
 | .nilP=>rfl
 | .nilF=>rfl
 | .yld _=>rfl
 | .fn ..=>rfl
 | .agg xs=>Bq l xs
 | .tup xs=>Bq l xs
theorem Bq (l:List Grp):∀ xs:List AV,leSL l xs xs
 | []=>rfl
 | x::xs=>⟨Gm l x,Bq l xs⟩
end
theorem zf9 {x y:AV} (h:leS [] x y):AV.le x y:=fun S v hv=>Uj (.inr rfl) x h hv
theorem Jo {xs ys:List AV} (h:leSL [] xs ys):leL xs ys:=fun S v hv=>Hj (.inr rfl) xs h hv
def z75 (l:List Grp) (G G':Grp):Prop:=G.w=G'.w∧G.ver=G'.ver∧(G'.exact=true→G.exact=true)∧leSL l G.xs G'.xs
def G3 (l0:List Grp):List Grp→List Grp→Prop
 | [],[]=>True
 | G::l,G'::l'=>z75 l0 G G'∧G3 l0 l l'
 | _,_=>False
theorem Ku {l0:List Grp}:∀ {l l':List Grp},G3 l0 l l'→l'.length=l.length
 | [],[],_=>rfl
 | G::l,G'::l',h=>by simp[Ku h.2]
 | [],_::_,h=>h.elim
 | _::_,[],h=>h.elim
theorem M7 {l0:List Grp}:∀ {l l':List Grp},G3 l0 l l'→∀ g,g<l.length→z75 l0 (l.getD g default) (l'.getD g default)
 | [],[],_,g,hg=>by simp at hg
 | G::l,G'::l',h,0,_=>h.1
 | G::l,G'::l',h,g+1,hg=>by simpa using M7 h.2 g (by simpa using hg)
 | [],_::_,h,_,_=>h.elim
 | _::_,[],h,_,_=>h.elim
theorem Ik {S:MS} {l l':List Grp} (hS:SRel S (hl l)) (h:G3 l l l'):SRel S (hl l'):=by
 have hlen:=Ku h;refine⟨hS.n.trans hlen.symm,fun g hg=>?_,fun g g' hg hg' hne hw hw'=>?_,hS.im⟩
 · have hg':g<l.length:=by rw[←hlen];exact hg
   obtain⟨h1,h2,h3,h5⟩:=M7 h g hg';have h4:(l.getD g default).xs.length=(l'.getD g default).xs.length:=(Zt h5).symm;have hG:=hS.grp g hg';rw[Cg] at hG ⊢;refine⟨by rw[←h2];exact hG.ver,by rw[←h1];exact hG.wid,fun hw hc=>?_,fun hw=>by rw[←h4];exact hG.len (by rw[h1];exact hw),fun hw he=>by rw[←h4];exact hG.full (by rw[h1];exact hw) (h3 he),fun hw he=>?_⟩
   rotate_left
   · obtain⟨⟨es,clock,a1,a2⟩,a5⟩:=hG.mlive (by rw[h1];exact hw) (h3 he)
     exact⟨⟨es,clock,a1,Hj (.inl hS) _ h5 a2⟩,a5⟩
   obtain⟨⟨cells,TT,us,a1,a2,a3,a4⟩,a5⟩:=hG.live (by rw[h1];exact hw) hc;exact⟨⟨cells,TT,us,a1,by rw[←h1];exact a2,Hj (.inl hS) _ h5 a3,by rw[←h1];exact a4⟩,a5⟩
 · have hg1:g<l.length:=by rw[←hlen];exact hg
   have hg1':g'<l.length:=by rw[←hlen];exact hg'
   have key:∀ g,g<l.length→((hl l').at_ g).has (S.cap g)→((hl l).at_ g).has (S.cap g):=fun g hg hh=>by
     obtain⟨k1,_,k3,_⟩:=M7 h g hg;rw[Cg] at hh ⊢;rcases hh with⟨q1,q2⟩|⟨q1,q2⟩
     · exact .inl ⟨by rw[k1];exact q1,q2⟩
     · exact .inr ⟨by rw[k1];exact q1,k3 q2⟩
   exact hS.apart g g' hg1 hg1' hne (key g hg1 hw) (key g' hg1' hw')
inductive Src where
 | grp (g:Nat)
 | virt (w:Nat)
def Bi (w:Nat):AV→Src
 | .ref g _ _ _=>.grp g
 | .ptr g _ _ _=>.grp g
 | .map g _=>.grp g
 | _=>.virt w
def cellAt (H:Ac) (x:AV) (k:Nat):AV:=match x with
 | .ptr g _ i _=>((H.at_ g).xs.getD i .any).cells.getD k .any
 | _=>.any
def D6:Nat→List Src→List Nat × List Nat
 | _,[]=>([],[])
 | N,.grp g::r=>(g::(D6 N r).1,(D6 N r).2)
 | N,.virt w::r=>(N::(D6 (N+1) r).1,w::(D6 (N+1) r).2)
def Hb (w:Nat):Grp:=⟨w,1,true,[]⟩
def C2:List (Nat × AV)→Env
 | [],_=>.any
 | (t,x)::l,j=>if j=t then x else C2 l j
def Ld (l2:List Grp) (H1:Ac) (b:Nat) (ks:List Nat) (env:Env):List (Nat × AV)→Prop
 | []=>True
 | (t,y)::r=>leS l2 (rnV b H1 ks 6 (env t)) y∧Ld l2 H1 b ks env r
def allB (b n:Nat):List Nat→Prop
 | []=>True
 | k::r=>b≤k∧k<n∧allB b n r
def Xa:List Nat→Prop
 | []=>True
 | k::r=>k∉r∧Xa r
def rnG (b:Nat) (H:Ac) (ks:List Nat) (v:Nat) (G:Grp):Grp:=⟨G.w,v,G.exact,G.xs.map (rnV b H ks 6)⟩
def Dd (b:Nat) (H:Ac) (ks:List Nat):List Grp→List Grp
 | []=>[]
 | G::l=>rnG b H ks G.ver G::Dd b H ks l
def Dk (b:Nat) (H:Ac) (ks:List Nat) (l:List Grp):List Nat→List Grp
 | []=>[]
 | k::r=>rnG b H ks 1 (l.getD k default)::Dk b H ks l r
def zhe (b:Nat) (env:Env) (l1 l2:List Grp) (ks:List Nat) (live:List (Nat × AV)) (heap:List Grp):Prop:=Ld l2 (hl l1) b ks env live∧G3 l2 l2 heap
def zhf (b:Nat) (env:Env) (l1:List Grp) (ks:List Nat) (live:List (Nat × AV)) (heap:List Grp):Prop :=
 allB b l1.length ks∧Xa ks∧zhe b env l1 (Dd b (hl l1) ks (l1.take b)++Dk b (hl l1) ks l1 ks) ks live heap
def M8:List Nat→Prop
 | []=>True
 | w::r=>0<w∧M8 r
theorem Il:∀ {ws:List Nat},M8 ws→∀ w∈ws,0<w
 | [],_,w,hw=>by simp at hw
 | k::r,h,w,hw=>by
   rcases List.mem_cons.1 hw with rfl|hw
   · exact h.1
   · exact Il h.2 w hw
def zhg (b:Nat) (env:Env) (l:List Grp) (p:List Nat × List Nat) (live:List (Nat × AV)) (heap:List Grp):Prop:=M8 p.2∧zhf b env (l++p.2.map Hb) p.1 live heap
def Head (b:Nat) (env:Env) (H:Ac) (srcs:List Src) (live:List (Nat × AV)) (heap:List Grp):Prop:=b≤H.n∧zhg b env H.groups (D6 H.n srcs) live heap
section
variable {P:Program} {n b:Nat} {env:Env} {H:Ac} {Q:Ex→Env→Ac→Prop}
theorem zhh {l:List Grp} {srcs:List Src} {live:List (Nat × AV)} {heap:List Grp}:Head b env (hl l) srcs live heap=(b≤l.length∧zhg b env l (D6 l.length srcs) live heap):=by
 rw[Head,Ui,hl_n]
theorem zhi {c:AC} (w:Nat) (hw0:0<w) (h:T P n b c env (H.push ⟨w,1,true,[]⟩) Q):T P n b c env H Q:=by
 intro rd mm hrd code hc S a hb hS hF;exact wpIn_mono (h rd mm hrd code hc (S.virt w) a (Nat.le_succ_of_le hb) (hS.virt w hw0) ⟨hF.size,hF.defers.mono (Evo.virt _),fun j hj=>VRel.mono (Evo.virt _) _ (hF.val j hj)⟩) fun e a w hh=>hh.trans ((Evo.virt _).down hb)
theorem Xb {c:AC}:∀ (ws:List Nat) {l:List Grp},(∀ w∈ws,0<w)→T P n b c env (hl (l++ws.map Hb)) Q→T P n b c env (hl l) Q
 | [],l,_,h=>by simpa using h
 | w::ws,l,hw,h=>zhi w (hw w (by simp)) (by rw[Dj];exact Xb ws (fun w' h'=>hw w' (by simp[h'])) (by simpa [Hb] using h))
theorem z78 {c:AC} {H':Ac} (hn:H'.n=H.n) (h:∀ g,g<H.n→H'.at_ g=H.at_ g) (k:T P n b c env H' Q):T P n b c env H Q :=
 fun rd mm hrd code hc S a hb hS hF=>k rd mm hrd code hc S a hb (hS.congr hn h) hF
theorem Ms {m:Nat}:∀ {ks:List Nat},allB b m ks→∀ k∈ks,b≤k∧k<m
 | [],_,k,hk=>by simp at hk
 | k::r,h,j,hj=>by
   rcases List.mem_cons.1 hj with rfl|hj
   · exact⟨h.1,h.2.1⟩
   · exact Ms h.2.2 j hj
theorem Gn:∀ {ks:List Nat},Xa ks→ks.Nodup
 | [],_=>List.nodup_nil
 | k::r,h=>List.nodup_cons.2 ⟨h.1,Gn h.2⟩
theorem M9 {H:Ac} {ks:List Nat}:∀ {l:List Grp},(Dd b H ks l).length=l.length
 | []=>rfl
 | G::l=>by simp[Dd,M9]
theorem P8 {H:Ac} {ks:List Nat}:∀ {l:List Grp} {g:Nat},g<l.length→(Dd b H ks l).getD g default=rnG b H ks (l.getD g default).ver (l.getD g default)
 | [],g,h=>by simp at h
 | G::l,0,_=>rfl
 | G::l,g+1,h=>by simpa [Dd] using P8 (l:=l) (g:=g) (by simpa using h)
theorem Na {H:Ac} {ks:List Nat} {l:List Grp}:∀ {r:List Nat},(Dk b H ks l r).length=r.length
 | []=>rfl
 | k::r=>by simp[Dk,Na]
theorem P9 {H:Ac} {ks:List Nat} {l:List Grp}:∀ {r:List Nat} {j:Nat},j<r.length→(Dk b H ks l r).getD j default=rnG b H ks 1 (l.getD (r.getD j 0) default)
 | [],j,h=>by simp at h
 | k::r,0,_=>rfl
 | k::r,j+1,h=>by simpa [Dk] using P9 (r:=r) (j:=j) (by simpa using h)
theorem Nb {l1:List Grp} {ks:List Nat} (hb:b≤l1.length):((hl (Dd b (hl l1) ks (l1.take b)++Dk b (hl l1) ks l1 ks)).n=((hl l1).repack b ks 6).n) ∧
   ∀ g,g<((hl l1).repack b ks 6).n→(hl (Dd b (hl l1) ks (l1.take b)++Dk b (hl l1) ks l1 ks)).at_ g=((hl l1).repack b ks 6).at_ g:=by
 have hO:(Dd b (hl l1) ks (l1.take b)).length=b:=by rw[M9,List.length_take];omega
 refine⟨?_,fun g hg=>?_⟩
 · show (Dd b (hl l1) ks (l1.take b)++Dk b (hl l1) ks l1 ks).length=b+ks.length
   rw[List.length_append,hO,Na]
 · have hg':g<b+ks.length:=hg
   rw[Cg];show _=(⟨_,if g<b then (l1.getD g default).ver else 1,_,_⟩:Grp);by_cases hgb:g<b
   · rw[if_pos hgb,Ed hgb]
     have e:(Dd b (hl l1) ks (l1.take b)++Dk b (hl l1) ks l1 ks).getD g default=(Dd b (hl l1) ks (l1.take b)).getD g default:=by
       simp[List.getD,List.getElem?_append_left (show g<(Dd b (hl l1) ks (l1.take b)).length by omega)]
     have e2:(l1.take b).getD g default=l1.getD g default:=by
       simp[List.getD,hgb]
     rw[e,P8 (by simp;omega),e2];rfl
   · rw[if_neg hgb]
     have e:(Dd b (hl l1) ks (l1.take b)++Dk b (hl l1) ks l1 ks).getD g default=(Dk b (hl l1) ks l1 ks).getD (g-b) default:=by
       have:=List.getElem?_append_right (l₁:=Dd b (hl l1) ks (l1.take b)) (l₂:=Dk b (hl l1) ks l1 ks) (i:=g) (by omega);rw[hO] at this;simp[List.getD,this]
     rw[e,P9 (by omega)];have e3:inv b ks g=ks.getD (g-b) 0:=by rw[inv,if_neg hgb]
     rw[e3];rfl
theorem Nc {S:MS} {l2:List Grp} {H1:Ac} {ks:List Nat} {a:Act} (hS:SRel S (hl l2)) (hF:FRel S n (fun i=>rnV b H1 ks 6 (env i)) a):∀ {live:List (Nat × AV)},Ld l2 H1 b ks env live→∀ i,i<n→VRel S (C2 live i) (a.tmps.getD i undef)
 | [],_,i,_=>trivial
 | (t,y)::r,h,i,hi=>by
   show VRel S (if i=t then y else C2 r i) _;split
   · rename_i hit
     subst hit;exact Uj (.inl hS) _ h.1 (hF.val i hi)
   · exact Nc hS hF h.2 i hi
theorem Zu {c:AC} {srcs:List Src} {live:List (Nat × AV)} {heap:List Grp} (hh:Head b env H srcs live heap) (h:T P n b c (C2 live) (hl heap) Q):T P n b c env H Q:=by
 obtain⟨hb,hh⟩:=hh;have hgn:H.groups.length=H.n:=by simp[Ac.groups]
 refine z78 (H':=hl H.groups) hgn (fun g hg=>?_) ?_
 · show H.groups.getD g default=_
   simp[Ac.groups,List.getD,hg]
 refine Xb (D6 H.n srcs).2 (Il hh.1) ?_;replace hh:=hh.2;generalize hl1:H.groups++(D6 H.n srcs).2.map Hb=l1;simp only[hl1] at hh;obtain⟨h1,h2,h3,h4⟩:=hh;have hb1:b≤l1.length:=by rw[←hl1,List.length_append];omega
 refine zc2 (D6 H.n srcs).1 6 hb1 (fun k hk=>Ms h1 k hk) (Gn h2) ?_;obtain⟨e1,e2⟩:=Nb (ks:=(D6 H.n srcs).1) hb1;refine z78 e1 e2 ?_;intro rd mm hrd code hc S a hbS hS hF;have hlen:=Ku h4;exact h rd mm hrd code hc S a hbS (Ik hS h4) ⟨hF.size,hF.defers,Nc hS hF h3⟩
theorem Be {σ:Type} (Fact:σ→Prop) (μ:σ→Nat) (live:σ→List (Nat × AV)) (heap:σ→List Grp) (srcs:Env→Ac→List Src) {c:AC} (s0:σ) (h0:Fact s0) (he:Head b env H (srcs env H) (live s0) (heap s0))
   (round:∀ s,Fact s→T P n b c (C2 (live s)) (hl (heap s)) (Ex.then (fun env' H'=>∃ s',Head b env' H' (srcs env' H') (live s') (heap s')∧Fact s'∧μ s'<μ s) Q)):T P n b (.loop c) env H Q:=by
 refine zf4 (fun s env H=>Fact s∧Head b env H (srcs env H) (live s) (heap s)) μ s0 ⟨h0,he⟩ fun s env H hI=>?_;refine Zu hI.2 (T.mono (round s hI.1) fun x env' H' hh=>?_);cases x with
 | normal=>obtain⟨s',k1,k2,k3⟩:=hh;exact⟨s',⟨k2,k1⟩,k3⟩
 | exit id=>exact hh
 | ret=>exact hh
end
def hset (l:List Grp) (g:Nat) (G:Grp):Ac:=(hl l).set g G
def setQ:List Grp→Nat→Grp→Option (List Grp)
 | [],_,_=>none
 | _::l,0,G=>some (G::l)
 | K::l,g+1,G=>(setQ l g G).map (K::·)
theorem Uk:∀ {l:List Grp} {g:Nat} {G:Grp} {l':List Grp},setQ l g G=some l'→g<l.length∧l'=l.set g G
 | [],_,_,_,h=>by cases h
 | _::l,0,G,_,h=>by cases h;exact⟨by simp,rfl⟩
 | K::l,g+1,G,l',h=>by
   obtain⟨r,hr,rfl⟩:=Option.map_eq_some_iff.1 h;obtain⟨h1,rfl⟩:=Uk hr;exact⟨by simpa using h1,rfl⟩
theorem zhj (l:List Grp) (g:Nat) (G:Grp):(hl l).set g G=(match setQ l g G with|some l'=>hl l'|none=>hset l g G):=by
 cases h:setQ l g G with
 | none=>rfl
 | some l'=>obtain⟨h1,rfl⟩:=Uk h;exact Fq l g G h1
theorem z79 (K:Grp) (l:List Grp) (G:Grp):setQ (K::l) 0 G=some (G::l):=rfl
theorem z7a (K:Grp) (l:List Grp) (g:Nat) (G:Grp):setQ (K::l) (g+1) G=(setQ l g G).map (K::·):=rfl
theorem zhk (g:Nat):pos [] g=none:=rfl
theorem zc3 (k:Nat) (ks:List Nat) (g:Nat):pos (k::ks) g=if g=k then some 0 else (pos ks g).map (·+1):=rfl
section
variable {b d:Nat} {H:Ac} {ks:List Nat}
def rnL (b:Nat) (H:Ac) (ks:List Nat) (d:Nat) (xs:List AV):List AV:=xs.map (rnV b H ks d)
theorem zlj (xs:List AV):xs.map (rnV b H ks (d+1))=bif Ap xs then xs else rnL b H ks (d+1) xs:=by
 cases h:Ap xs
 · rfl
 · have key:∀ (d:Nat) {x:AV},x.pure=true→rnV b H ks d x=x:=by
     intro d
     induction d with
     | zero=>intro x hx;simp[rnV,hx]
     | succ d ih =>
       intro x hx
       have kl:∀ cs:List AV,Ap cs=true→cs.map (rnV b H ks d)=cs:=fun cs hc=>by
         have:cs.map (rnV b H ks d)=cs.map id:=List.map_congr_left fun y hy=>ih (Bu.1 hc y hy);simpa using this
       cases x with
       | ref=>simp[AV.pure] at hx
       | ptr=>simp[AV.pure] at hx
       | map=>simp[AV.pure] at hx
       | agg cs=>rw[rnV,kl cs (by simpa [AV.pure] using hx)]
       | tup cs=>rw[rnV,kl cs (by simpa [AV.pure] using hx)]
       | fn f cs=>rw[rnV,kl cs (by simpa [AV.pure] using hx)]
       | _=>rfl
   have:xs.map (rnV b H ks (d+1))=xs.map id:=List.map_congr_left fun y hy=>key _ (Bu.1 h y hy);simpa using this
theorem zhl:rnL b H ks d []=[]:=rfl
theorem zc4 (x:AV) (xs:List AV):rnL b H ks d (x::xs)=rnV b H ks d x::rnL b H ks d xs:=rfl
theorem zlk (g v off len:Nat):rnV b H ks (d+1) (.ref g v off len)=if g<b then .ref g v off len else if v=(H.at_ g).ver then
     (match pos ks g with
      | some j=>.ref (b+j) 1 off len
      | none=>if 0<(H.at_ g).w∧off+len≤(H.at_ g).xs.length then frzL (H.at_ g).w ((((H.at_ g).xs.drop off).take len).map (rnV b H ks d)) else .any)
     else .any:=rfl
theorem zll (g v i o:Nat):rnV b H ks (d+1) (.ptr g v i o)=if g<b then .ptr g v i o else if v=(H.at_ g).ver then
     (match pos ks g with
      | some j=>.ptr (b+j) 1 i o
      | none=>if o=0∧i<(H.at_ g).xs.length∧0<(H.at_ g).w then frzP (rnV b H ks d ((H.at_ g).xs.getD i .any)) else .any)
     else .any:=rfl
theorem zlm (cs:List AV):rnV b H ks (d+1) (.agg cs)=.agg (cs.map (rnV b H ks d)):=rfl
theorem zln (cs:List AV):rnV b H ks (d+1) (.tup cs)=.tup (cs.map (rnV b H ks d)):=rfl
theorem rn_fn (f:Nat) (cs:List AV):rnV b H ks (d+1) (.fn f cs)=.fn f (cs.map (rnV b H ks d)):=rfl
theorem zlo:rnV b H ks (d+1) .any=.any:=rfl
theorem zhm (w:Nat) (xs:List AV):rnV b H ks (d+1) (.full w xs)=.full w xs:=rfl
theorem rn_mp (g v:Nat):rnV b H ks (d+1) (.map g v)=if g<b then .map g v else if v=(H.at_ g).ver then (match pos ks g with|some j=>.map (b+j) 1|none=>.any) else .any:=rfl
theorem zhn (q:Bool):rnV b H ks (d+1) (.bool q)=.bool q:=rfl
theorem zlp (k:IntKind) (n:Int):rnV b H ks (d+1) (.int k n)=.int k n:=rfl
theorem zlq (s:List UInt8):rnV b H ks (d+1) (.str s)=.str s:=rfl
theorem zho:rnV b H ks (d+1) .nilS=.nilS:=rfl
theorem zlr:rnV b H ks (d+1) .nul=.nul:=rfl
theorem zhp:rnV b H ks (d+1) .nilP=.nilP:=rfl
theorem zhq:rnV b H ks (d+1) .nilF=.nilF:=rfl
theorem zls (l:Nat):rnV b H ks (d+1) (.yld l)=.yld l:=rfl
theorem zlt (w:Nat) (xs:List AV):rnV b H ks (d+1) (.lst w xs)=.lst w xs:=rfl
theorem zhr (x:AV):rnV b H ks (d+1) (.cptr x)=.cptr x:=rfl
end
section
variable {l l0 l':List Grp} {G G':Grp}
theorem zlu:G3 l0 [] []=True:=rfl
theorem zhs:G3 l0 (G::l) (G'::l')=(z75 l0 G G'∧G3 l0 l l'):=rfl
theorem g_le:z75 l0 G G'=(G.w=G'.w∧G.ver=G'.ver∧(G'.exact=true→G.exact=true)∧leSL l0 G.xs G'.xs):=rfl
theorem z7b {x:AV}:leS l x x=True:=eq_true (Gm l x)
theorem zc5 {xs:List AV}:leSL l xs xs=True:=eq_true (Bq l xs)
theorem zht {ys:List AV}:leSL l [] ys=(ys=[]):=by simp only[leSL]
theorem zc6 {x y:AV} {xs ys:List AV}:leSL l (x::xs) (y::ys)=(leS l x y∧leSL l xs ys):=by simp only[leSL]
theorem Qa {k:IntKind} {a:Int} {k':IntKind} {b:Int}:leS l (.int k a) (.int k' b)=(k=k'∧a=b):=by simp only[leS]
theorem Le {a:Bool} {b:Bool}:leS l (.bool a) (.bool b)=(a=b):=by simp only[leS]
theorem Nf  {w:Nat} {ys:List AV}:leS l .nilS (.lst w ys)=(0<w∧ys=[]):=by simp only[leS]
theorem Xc  {g v o n:Nat}:leS l .nilS (.ref g v o n)=(o=0∧n=0∧(l.getD g default).ver=v∧0<(l.getD g default).w∧(l.getD g default).xs=[]∧(l.getD g default).exact=true∧g<l.length):=by simp only[leS]
theorem Qb  {w:Nat} {ys:List AV}:leS l .nul (.lst w ys)=(0<w∧ys=[]):=by simp only[leS]
theorem Qc  {w:Nat} {ys:List AV}:leS l .emp (.lst w ys)=(0<w∧ys=[]):=by simp only[leS]
theorem Ul {w:Nat} {xs:List AV} {w':Nat} {ys:List AV}:leS l (.full w xs) (.full w' ys)=(w=w'∧xs=ys):=by simp only[leS]
theorem Ng {w:Nat} {xs:List AV} {w':Nat} {ys:List AV}:leS l (.full w xs) (.lst w' ys)=(w=w'∧leSL l xs ys∧Ap ys=true):=by simp only[leS]
theorem z3n {g v g' v':Nat}:leS l (.map g v) (.map g' v')=(g=g'∧v=v'):=by simp only[leS,AV.map.injEq]
theorem Qd {w:Nat} {xs:List AV} {w':Nat} {ys:List AV}:leS l (.lst w xs) (.lst w' ys)=(w=w'∧xs=ys):=by simp only[leS]
theorem z3o {g v o n:Nat} {g' v' o' n':Nat}:leS l (.ref g v o n) (.ref g' v' o' n')=(g=g'∧v=v'∧o=o'∧n=n'):=by simp only[leS]
theorem z3p {g v o n:Nat} {g' v' o' n':Nat}:leS l (.ptr g v o n) (.ptr g' v' o' n')=(g=g'∧v=v'∧o=o'∧n=n'):=by simp only[leS]
theorem Qe {xs:List AV} {ys:List AV}:leS l (.agg xs) (.agg ys)=leSL l xs ys:=by simp only[leS]
theorem Qf {xs:List AV} {ys:List AV}:leS l (.tup xs) (.tup ys)=leSL l xs ys:=by simp only[leS]
theorem zlv {x:AV}:leS l x .any=True:=eq_true (by cases x<;>simp only[leS])
def ansW (x y:AV):Prop:=leS [] x y
theorem zhu {x:AV}:ansW x x=True:=z7b
theorem zlw {k k':IntKind} {a b:Int}:ansW (.int k a) (.int k' b)=(k=k'∧a=b):=Qa
theorem zhv {a b:Bool}:ansW (.bool a) (.bool b)=(a=b):=Le
theorem zhw {w w':Nat} {xs ys:List AV}:ansW (.full w xs) (.lst w' ys)=(w=w'∧leSL [] xs ys∧Ap ys=true):=Ng
theorem zlx {w w':Nat} {xs ys:List AV}:ansW (.lst w xs) (.lst w' ys)=(w=w'∧xs=ys):=Qd
theorem zhx {w:Nat} {ys:List AV}:ansW .nilS (.lst w ys)=(0<w∧ys=[]):=Nf
theorem zly {w:Nat} {ys:List AV}:ansW .nul (.lst w ys)=(0<w∧ys=[]):=Qb
theorem zlz {w:Nat} {ys:List AV}:ansW .emp (.lst w ys)=(0<w∧ys=[]):=Qc
theorem zm0 {xs ys:List AV}:ansW (.agg xs) (.agg ys)=leSL [] xs ys:=Qe
theorem Cf {xs ys:List AV}:ansW (.tup xs) (.tup ys)=leSL [] xs ys:=Qf
end
attribute [push_cast] Ul Ng z3n zhw zhm rn_mp
attribute [push_cast] z7b zc5 zht zc6 Qa Le Nf Xc Qb Qc Qd z3o z3p Qe Qf zlv zhu zlw zhv zlx zhx zly zlz zm0
section
variable {H H1:Ac} {l0:List Grp} {b t:Nat} {ks:List Nat} {env:Env} {y:AV} {r:List (Nat × AV)}
theorem zc7:Ld l0 H1 b ks env []=True:=rfl
theorem z7c:Ld l0 H1 b ks env ((t,y)::r)=(leS l0 (rnV b H1 ks 6 (env t)) y∧Ld l0 H1 b ks env r):=rfl
theorem zc8 {n:Nat}:allB b n []=True:=rfl
theorem z7d {n k:Nat}:allB b n (k::ks)=(b≤k∧k<n∧allB b n ks):=rfl
theorem z7e:Xa []=True:=rfl
theorem z3q {k:Nat}:Xa (k::ks)=(k∉ks∧Xa ks):=rfl
theorem z7f {w g v o n:Nat}:Bi w (.ref g v o n)=.grp g:=rfl
theorem z7g {w g v i o:Nat}:Bi w (.ptr g v i o)=.grp g:=rfl
theorem z7h {w g v:Nat}:Bi w (.map g v)=.grp g:=rfl
theorem z3r:M8 []=True:=rfl
theorem Xd {w:Nat} {r:List Nat}:M8 (w::r)=(0<w∧M8 r):=rfl
theorem z3s {w:Nat}:Bi w .nilS=.virt w:=rfl
theorem z3t {g v i o k:Nat}:cellAt H (.ptr g v i o) k=((H.at_ g).xs.getD i .any).cells.getD k .any:=rfl
theorem zm1 {N:Nat}:D6 N []=([],[]):=rfl
theorem zm2 {N g:Nat} {l:List Src}:D6 N (.grp g::l)=(g::(D6 N l).1,(D6 N l).2):=rfl
theorem zhy {N w:Nat} {l:List Src}:D6 N (.virt w::l)=(N::(D6 (N+1) l).1,w::(D6 (N+1) l).2):=rfl
theorem zm3 {j:Nat}:C2 [] j=.any:=rfl
theorem zhz {j:Nat}:C2 ((t,y)::r) j=if j=t then y else C2 r j:=rfl
variable {l l1 l2:List Grp} {G:Grp} {live:List (Nat × AV)} {heap:List Grp}
theorem head1 {p q:List Nat}:zhg b env l (p,q) live heap=(M8 q∧zhf b env (l++q.map Hb) p live heap):=rfl
theorem head2:zhf b env l1 ks live heap=(allB b l1.length ks∧Xa ks∧zhe b env l1 (Dd b (hl l1) ks (l1.take b)++Dk b (hl l1) ks l1 ks) ks live heap):=rfl
theorem head3:zhe b env l1 l2 ks live heap=(Ld l2 (hl l1) b ks env live∧G3 l2 l2 heap):=rfl
theorem zm4:Dd b H ks []=[]:=rfl
theorem zi0:Dd b H ks (G::l)=rnG b H ks G.ver G::Dd b H ks l:=rfl
theorem zm5:Dk b H ks l []=[]:=rfl
theorem zi1 {k:Nat} {r:List Nat}:Dk b H ks l (k::r)=rnG b H ks 1 (l.getD k default)::Dk b H ks l r:=rfl
theorem zm6 {v:Nat}:rnG b H ks v G=⟨G.w,v,G.exact,G.xs.map (rnV b H ks 6)⟩:=rfl
end
theorem zc9 (i:Nat) (ks:List Nat):D5 i ks []=[]:=rfl
theorem Fe (i:Nat) (ks:List Nat) (G:Grp) (l:List Grp):D5 i ks (G::l)=(if i∈ks then G.dead else G)::D5 (i+1) ks l:=rfl
theorem zi2 (w:Nat):Hb w=⟨w,1,true,[]⟩:=rfl
theorem zi3 (w:Nat) (xs:List AV):frzL w xs=bif Ap xs then .lst w xs else .any:=rfl
theorem zi4 (x:AV):frzP x=bif x.pure then .cptr x else .any:=rfl
theorem Um (xs ys:List AV):Ap (xs++ys)=(Ap xs&&Ap ys):=by
 induction xs with
 | nil=>rfl
 | cons x xs ih=>simp[Ap,ih,Bool.and_assoc]
theorem z3u (i:Nat):((i:Int)-1).toNat=i-1:=by omega
theorem z3v (i:Nat):((i:Int)+1).toNat=i+1:=by omega
theorem z7i (i k:Nat):((i:Int)+(k:Int)).toNat=i+k:=by omega
theorem drop_at {α:Type} [Inhabited α] {l:List α} {i:Nat} (h:i<l.length):l.drop i=nth l i::l.drop (i+1):=by
 rw[List.drop_eq_getElem_cons h];simp[nth,List.getD,h]
theorem take_at {α:Type} [Inhabited α] {l:List α} {i:Nat} (h:i<l.length):l.take (i+1)=l.take i++[nth l i]:=by
 rw[List.take_succ_eq_append_getElem h];simp[nth,List.getD,h]
theorem Ba {α:Type} [Inhabited α] {l:List α} {i:Nat} (h:i<l.length):nth l i∈l:=by
 have:nth l i=l[i]:=by simp[nth,List.getD,h]
 rw[this];exact List.getElem_mem h
theorem zi5 (g k:Nat) (ks:List Nat):(g∈k::ks)=(g=k∨g∈ks):=by simp
theorem Xe (g:Nat):(g∈([]:List Nat))=False:=by simp
theorem zi6 (H:Ac) (ks:List Nat) (g:Nat):(H.only ks).at_ g=if g∈ks then H.at_ g else (H.at_ g).dead:=rfl
def Bv:List AV→List Nat
 | []=>[]
 | .ref g _ _ _::l=>g::Bv l
 | .ptr g _ _ _::l=>g::Bv l
 | .agg cs::l=>Bv cs++Bv l
 | .fn _ cs::l=>Bv cs++Bv l
 | _::l=>Bv l
theorem Cw {w:Nat} {xs l:List AV}:Bv (.lst w xs::l)=Bv l:=by rw[Bv]<;>(intros;simp_all)
theorem z7j {x:AV} {l:List AV}:Bv (.cptr x::l)=Bv l:=by rw[Bv]<;>(intros;simp_all)
theorem zca {k:IntKind} {n:Int} {l:List AV}:Bv (.int k n::l)=Bv l:=by rw[Bv]<;>(intros;simp_all)
theorem z7k {b:Bool} {l:List AV}:Bv (.bool b::l)=Bv l:=by rw[Bv]<;>(intros;simp_all)
theorem z7l {l:List AV}:Bv (.nilS::l)=Bv l:=by rw[Bv]<;>(intros;simp_all)
theorem zcb {g v o n:Nat} {l:List AV}:Bv (.ref g v o n::l)=g::Bv l:=by rw[Bv]
theorem zcc {g v o n:Nat} {l:List AV}:Bv (.ptr g v o n::l)=g::Bv l:=by rw[Bv]
theorem zcd {cs l:List AV}:Bv (.agg cs::l)=Bv cs++Bv l:=by rw[Bv]
theorem zi7 {f:Nat} {cs l:List AV}:Bv (.fn f cs::l)=Bv cs++Bv l:=by rw[Bv]
theorem zce:Bv []=[]:=by rw[Bv]
attribute [push_cast] Cw z7j zca z7k z7l zcb zcc zcd zi7 zce
def okA (d:Nat) (H:Ac):List AV→Prop
 | []=>True
 | x::l=>Cj d H x∧okA d H l
section
variable {P:Program} {f:Nat} {xs ys:List AV} {y:AV} {l:List Grp} {H:Ac}
theorem Nh {d:Nat}:∀ {xs:List AV},okA d H xs→∀ x∈xs,Cj d H x
 | [],_,x,hx=>by simp at hx
 | z::r,h,x,hx=>by
   rcases List.mem_cons.1 hx with rfl|hx
   · exact h.1
   · exact Nh h.2 x hx
theorem zi8 {d:Nat}:okA d H []=True:=rfl
theorem zcf {d:Nat} {x:AV}:okA d H (x::xs)=(Cj d H x∧okA d H xs):=rfl
theorem Ni (h:PC P f ys y) (hl:leL xs ys):PC P f xs y:=F8 hl h
def chB (c:Bool) (p q:Prop):Prop:=match c with
 | true=>p
 | false=>q
theorem zcg {p q:Prop}:chB true p q=p:=rfl
theorem z7m {p q:Prop}:chB false p q=q:=rfl
def frA (d:Nat) (H:Ac) (xs:List AV):List AV:=xs.map (frzV d H)
theorem zi9 {d:Nat}:frA d H []=[]:=rfl
theorem zch {d:Nat} {x:AV}:frA d H (x::xs)=frzV d H x::frA d H xs:=rfl
theorem cK {K:AV→Ac→Prop} (h:PC P f ys y) (hh:chB (Ap xs) (leSL [] xs ys∧Ap ys=true∧@nx y (hl l) ⟨K⟩)
   (chB y.flat (okA 4 (hl l) xs∧leSL [] (frA 4 (hl l) xs) ys∧@nx y (hl l) ⟨K⟩)
     (okA 4 ((hl l).only (Bv xs)) xs∧leSL [] (frA 4 ((hl l).only (Bv xs)) xs) ys∧Ap ys=true∧@nx y (hl (D5 0 (Bv xs) l)) ⟨K⟩))):@R4 P f xs (hl l) ⟨K⟩:=by
 cases hp:Ap xs<;>rw[hp] at hh
 · cases hy:y.flat<;>rw[hy] at hh
   · obtain⟨h1,h2,h3,h4⟩:=hh
     exact P7 4 (Bv xs) (Nh h1) (F8 (Jo h2) (Gl h h3 h4))
   · obtain⟨h1,h2,h3⟩:=hh
     exact z65 (Ni h (Jo h2)) 4 (Nh h1) rfl hy h3
 · obtain⟨h1,h2,h3⟩:=hh
   exact F8 (Jo h1) (Gl h h2 h3)
theorem eK {K:AV→Ac→Prop} (h:PC P f xs y) (hh:Ap xs=true∧@nx y H ⟨K⟩):@R4 P f xs H ⟨K⟩:=Gl h hh.1 hh.2
theorem eQ {K:AV→Prop} (h:PC P f xs y) (hh:Ap xs=true∧@nq y ⟨K⟩):@zbd P f xs H ⟨K⟩:=⟨y,Gl h hh.1 ⟨rfl,rfl⟩,hh.2⟩
theorem cQ {K:AV→Prop} (h:PC P f ys y) (hh:chB (Ap xs) (leSL [] xs ys∧Ap ys=true∧@nq y ⟨K⟩)
   (y.flat=true∧okA 4 (hl l) xs∧leSL [] (frA 4 (hl l) xs) ys∧@nq y ⟨K⟩)):@zbd P f xs (hl l) ⟨K⟩:=by
 cases hp:Ap xs<;>rw[hp] at hh
 · obtain⟨hy,h1,h2,h3⟩:=hh
   exact⟨y,z65 (Ni h (Jo h2)) 4 (Nh h1) rfl hy ⟨rfl,rfl⟩,h3⟩
 · obtain⟨h1,h2,h3⟩:=hh
   exact⟨y,F8 (Jo h1) (Gl h h2 ⟨rfl,rfl⟩),h3⟩
end
attribute [push_cast] zi8 zcf zi9 zch zcg z7m AV.flat z62
section
variable {d:Nat} {H:Ac}
def okL (d:Nat) (H:Ac) (xs:List AV):Prop:=∀ y∈xs,Cj d H y
def frL (d:Nat) (H:Ac) (xs:List AV):List AV:=xs.map (frzV d H)
def okM (d:Nat) (H:Ac) (xs:List AV):Prop:=okL d H xs
def frM (d:Nat) (H:Ac) (xs:List AV):List AV:=frL d H xs
def ifB (b:Bool) (p:Prop):Prop:=b=true∨p
theorem zci (p:Prop):ifB true p=True:=by simp[ifB]
theorem z7n (p:Prop):ifB false p=p:=by simp[ifB]
theorem zm7 (xs:List AV):okL d H xs=ifB (Ap xs) (okM d H xs):=propext ⟨fun h=>.inr h,fun h=>h.elim (fun h=>(Hi H d h).1) id⟩
theorem zm8 (xs:List AV):frL d H xs=bif Ap xs then xs else frM d H xs:=by
 cases h:Ap xs
 · rfl
 · exact (Hi H d h).2
theorem zia:okM d H []=True:=by simp[okM,okL]
theorem zcj (x:AV) (xs:List AV):okM d H (x::xs)=(Cj d H x∧okM d H xs):=by simp[okM,okL]
theorem zib:frM d H []=[]:=rfl
theorem zck (x:AV) (xs:List AV):frM d H (x::xs)=frzV d H x::frM d H xs:=rfl
theorem zm9 (g v off len:Nat):Cj (d+1) H (.ref g v off len)=((H.at_ g).ver=v∧0<(H.at_ g).w∧off+len≤(H.at_ g).xs.length∧okL d H (((H.at_ g).xs.drop off).take len)):=rfl
theorem zma (g v i o:Nat):Cj (d+1) H (.ptr g v i o)=((H.at_ g).ver=v∧i<(H.at_ g).xs.length∧0<(H.at_ g).w∧o=0∧Cj d H ((H.at_ g).xs.getD i .any)):=rfl
theorem zmb (cs:List AV):Cj (d+1) H (.agg cs)=okL d H cs:=rfl
theorem zmc (cs:List AV):Cj (d+1) H (.tup cs)=okL d H cs:=rfl
theorem ok_fn (f:Nat) (cs:List AV):Cj (d+1) H (.fn f cs)=okL d H cs:=rfl
theorem zmd:Cj (d+1) H .any=True:=eq_true rfl
theorem zic (b:Bool):Cj (d+1) H (.bool b)=True:=eq_true rfl
theorem ok_int (k:IntKind) (n:Int):Cj (d+1) H (.int k n)=True:=eq_true rfl
theorem zme (s:List UInt8):Cj (d+1) H (.str s)=True:=eq_true rfl
theorem zid:Cj (d+1) H .nilS=True:=eq_true rfl
theorem zmf:Cj (d+1) H .nul=True:=eq_true rfl
theorem zmg:Cj (d+1) H .emp=True:=eq_true rfl
theorem zie:Cj (d+1) H .nilP=True:=eq_true rfl
theorem zif:Cj (d+1) H .nilF=True:=eq_true rfl
theorem zmh (l:Nat):Cj (d+1) H (.yld l)=True:=eq_true rfl
theorem zig (w:Nat) (xs:List AV):Cj (d+1) H (.full w xs)=(Ap xs=true):=rfl
theorem zih (w:Nat) (xs:List AV):frzV (d+1) H (.full w xs)=.full w xs:=rfl
theorem zmi (w:Nat) (xs:List AV):Cj (d+1) H (.lst w xs)=(Ap xs=true):=rfl
theorem zii (x:AV):Cj (d+1) H (.cptr x)=(x.pure=true):=rfl
theorem zmj (g v off len:Nat):frzV (d+1) H (.ref g v off len)=.lst (H.at_ g).w (frL d H (((H.at_ g).xs.drop off).take len)):=rfl
theorem zmk (g v i o:Nat):frzV (d+1) H (.ptr g v i o)=if o=0 then .cptr (frzV d H ((H.at_ g).xs.getD i .any)) else .any:=rfl
theorem zml (cs:List AV):frzV (d+1) H (.agg cs)=.agg (frL d H cs):=rfl
theorem zmm (cs:List AV):frzV (d+1) H (.tup cs)=.tup (frL d H cs):=rfl
theorem fr_fn (f:Nat) (cs:List AV):frzV (d+1) H (.fn f cs)=.fn f (frL d H cs):=rfl
theorem zmn:frzV (d+1) H .any=.any:=rfl
theorem zij (b:Bool):frzV (d+1) H (.bool b)=.bool b:=rfl
theorem zmo (k:IntKind) (n:Int):frzV (d+1) H (.int k n)=.int k n:=rfl
theorem zmp (s:List UInt8):frzV (d+1) H (.str s)=.str s:=rfl
theorem zik:frzV (d+1) H .nilS=.nilS:=rfl
theorem zmq:frzV (d+1) H .nul=.nul:=rfl
theorem zmr:frzV (d+1) H .emp=.emp:=rfl
theorem zil:frzV (d+1) H .nilP=.nilP:=rfl
theorem zim:frzV (d+1) H .nilF=.nilF:=rfl
theorem zms (l:Nat):frzV (d+1) H (.yld l)=.yld l:=rfl
theorem zmt (w:Nat) (xs:List AV):frzV (d+1) H (.lst w xs)=.lst w xs:=rfl
theorem zin (x:AV):frzV (d+1) H (.cptr x)=.cptr x:=rfl
end
attribute [push_cast] zci z7n zm7 zm8 zia zcj zib zck zm9 zma zmb zmc ok_fn zmd zic ok_int zme zid zmf zmg zie zif zmh zms zmi zig zih zii zmj zmk zml zmm fr_fn zmn zij zmo zmp zik zmq zmr zil zim zmt zin List.take_length
section
variable {P:Program} {l:List Grp} {xs cs:List AV} {K:AV→List Grp→Prop} {z:AV} {w len n:Nat}
theorem Cn {k:AK} (h:k.still=true):@opG P k l xs ⟨K⟩=(Bc (·<l.length) xs∧@opK P k (hl l) xs ⟨fun x _=>K x l⟩):=by
 rw[Zq];have hn:¬k.still=false:=by rw[h];simp
 cases k<;>first|(exact propext ⟨fun hh=>hh.elim (fun hh=>⟨hh.2.1,hh.2.2⟩) (fun hh=>absurd hh.1 hn),fun hh=>.inl ⟨h,hh.1,hh.2⟩⟩)|(simp[AK.still] at h)
theorem z3w {k:AK} (h:k.still=false) (he:k.eff.isSome=true):@opG P k l xs ⟨K⟩=(k.appOk=true∧Rp k xs∧@opK P k (hl l) xs ⟨fun x H'=>∀ l',H'=hl l'→K x l'⟩):=by
 rw[Zq];have hn:¬k.still=true:=by rw[h];simp
 cases k<;>first|(exact propext ⟨fun hh=>hh.elim (fun hh=>absurd hh.1 hn) (fun hh=>⟨hh.2.2.1,hh.2.2.2⟩),fun hh=>.inr ⟨h,he,hh.1,hh.2⟩⟩)|(simp[AK.eff] at he)
theorem G_mv  : @opG P .mv l xs ⟨K⟩=(Bc (·<l.length) xs∧@opK P .mv (hl l) xs ⟨fun x _=>K x l⟩):=Cn rfl
theorem zmu  : @opG P .pick l xs ⟨K⟩=(Bc (·<l.length) xs∧@opK P .pick (hl l) xs ⟨fun x _=>K x l⟩):=Cn rfl
theorem zio {zs:List AV} {pl:List (Nat × Nat)} {idx:List Nat}:@opG P (.build zs pl idx) l xs ⟨K⟩=(Bc (·<l.length) xs∧@opK P (.build zs pl idx) (hl l) xs ⟨fun x _=>K x l⟩):=Cn rfl
theorem zmv {a:Bool} {s:Nat}:@opG P (.load a s) l xs ⟨K⟩=(Bc (·<l.length) xs∧@opK P (.load a s) (hl l) xs ⟨fun x _=>K x l⟩):=Cn rfl
theorem z3x  : @opG P .nilCheck l xs ⟨K⟩=(Bc (·<l.length) xs∧@opK P .nilCheck (hl l) xs ⟨fun x _=>K x l⟩):=Cn rfl
theorem G_bin {op:BinOp}:@opG P (.bin op) l xs ⟨K⟩=(Bc (·<l.length) xs∧@opK P (.bin op) (hl l) xs ⟨fun x _=>K x l⟩):=Cn rfl
theorem G_eqb {n:Bool}:@opG P (.eqb n) l xs ⟨K⟩=(Bc (·<l.length) xs∧@opK P (.eqb n) (hl l) xs ⟨fun x _=>K x l⟩):=Cn rfl
theorem G_eqs {n:Bool} {ks:List Nat}:@opG P (.eqs n ks) l xs ⟨K⟩=(Bc (·<l.length) xs∧@opK P (.eqs n ks) (hl l) xs ⟨fun x _=>K x l⟩):=Cn rfl
theorem G_eqn {n:Bool}:@opG P (.eqn n) l xs ⟨K⟩=(Bc (·<l.length) xs∧@opK P (.eqn n) (hl l) xs ⟨fun x _=>K x l⟩):=Cn rfl
theorem G_un {op:UnOp}:@opG P (.un op) l xs ⟨K⟩=(Bc (·<l.length) xs∧@opK P (.un op) (hl l) xs ⟨fun x _=>K x l⟩):=Cn rfl
theorem zmw {k:IntKind}:@opG P (.conv k) l xs ⟨K⟩=(Bc (·<l.length) xs∧@opK P (.conv k) (hl l) xs ⟨fun x _=>K x l⟩):=Cn rfl
theorem ziq {w:Nat} {lo hi mx:Bool}:@opG P (.slice w lo hi mx) l xs ⟨K⟩=(Bc (·<l.length) xs∧@opK P (.slice w lo hi mx) (hl l) xs ⟨fun x _=>K x l⟩):=Cn rfl
theorem zir {a:Bool} {o s:Nat}:@opG P (.faddr a o s) l xs ⟨K⟩=(Bc (·<l.length) xs∧@opK P (.faddr a o s) (hl l) xs ⟨fun x _=>K x l⟩):=Cn rfl
theorem zis {a:Bool} {o s:Nat}:@opG P (.field a o s) l xs ⟨K⟩=(Bc (·<l.length) xs∧@opK P (.field a o s) (hl l) xs ⟨fun x _=>K x l⟩):=Cn rfl
theorem zit {w:Nat}:@opG P (.iaddr w) l xs ⟨K⟩=(Bc (·<l.length) xs∧@opK P (.iaddr w) (hl l) xs ⟨fun x _=>K x l⟩):=Cn rfl
theorem zcl {n w:Nat} {a:Bool}:@opG P (.iaddrA n w a) l xs ⟨K⟩=(Bc (·<l.length) xs∧@opK P (.iaddrA n w a) (hl l) xs ⟨fun x _=>K x l⟩):=Cn rfl
theorem ziu {n w:Nat} {a:Bool}:@opG P (.index n w a) l xs ⟨K⟩=(Bc (·<l.length) xs∧@opK P (.index n w a) (hl l) xs ⟨fun x _=>K x l⟩):=Cn rfl
theorem z3y  : @opG P .indexStr l xs ⟨K⟩=(Bc (·<l.length) xs∧@opK P .indexStr (hl l) xs ⟨fun x _=>K x l⟩):=Cn rfl
theorem z7o {i:Nat}:@opG P (.extract i) l xs ⟨K⟩=(Bc (·<l.length) xs∧@opK P (.extract i) (hl l) xs ⟨fun x _=>K x l⟩):=Cn rfl
theorem G_len {b:Bool}:@opG P (.len b) l xs ⟨K⟩=(Bc (·<l.length) xs∧@opK P (.len b) (hl l) xs ⟨fun x _=>K x l⟩):=Cn rfl
theorem G_max  : @opG P .max l xs ⟨K⟩=(Bc (·<l.length) xs∧@opK P .max (hl l) xs ⟨fun x _=>K x l⟩):=Cn rfl
theorem G_min  : @opG P .min l xs ⟨K⟩=(Bc (·<l.length) xs∧@opK P .min (hl l) xs ⟨fun x _=>K x l⟩):=Cn rfl
theorem zcm:@opG P (.mapGet z) l xs ⟨K⟩=(Bc (·<l.length) xs∧@opK P (.mapGet z) (hl l) xs ⟨fun x _=>K x l⟩):=Cn rfl
theorem zcn {f:Nat}:@opG P (.mkFunc f) l xs ⟨K⟩=(Bc (·<l.length) xs∧@opK P (.mkFunc f) (hl l) xs ⟨fun x _=>K x l⟩):=Cn rfl
theorem ziv  : @opG P .toStr l xs ⟨K⟩=(Bc (·<l.length) xs∧@opK P .toStr (hl l) xs ⟨fun x _=>K x l⟩):=Cn rfl
theorem ziw  : @opG P (.alloc z w) l xs ⟨K⟩=@opK P (.alloc z w) (hl l) xs ⟨fun x H'=>∀ l',H'=hl l'→K x l'⟩:=(z3w rfl rfl).trans (by simp only[AK.appOk,Rp,true_and])
theorem G_box  : @opG P .box l xs ⟨K⟩=@opK P .box (hl l) xs ⟨fun x H'=>∀ l',H'=hl l'→K x l'⟩:=(z3w rfl rfl).trans (by simp only[AK.appOk,Rp,true_and])
theorem zix  : @opG P (.store w) l xs ⟨K⟩=@opK P (.store w) (hl l) xs ⟨fun x H'=>∀ l',H'=hl l'→K x l'⟩:=(z3w rfl rfl).trans (by simp only[AK.appOk,Rp,true_and])
theorem z7p  : @opG P (.mkSlice w n z) l xs ⟨K⟩=@opK P (.mkSlice w n z) (hl l) xs ⟨fun x H'=>∀ l',H'=hl l'→K x l'⟩:=(z3w rfl rfl).trans (by simp only[AK.appOk,Rp,true_and])
theorem G_app:@opG P (.app w n z) l xs ⟨K⟩=(0<w∧offA xs∧@opK P (.app w n z) (hl l) xs ⟨fun x H'=>∀ l',H'=hl l'→K x l'⟩):=(z3w rfl rfl).trans (by simp only[AK.appOk,Rp,decide_eq_true_eq])
theorem zco {g v o n:Nat}:offA (.ref g v o n::xs)=(o=0):=rfl
theorem z7q:offA (.nilS::xs)=True:=rfl
theorem zcp:offA (.nul::xs)=True:=rfl
theorem zcq:offA (.emp::xs)=True:=rfl
theorem z7r {w:Nat} {ys:List AV}:offA (.full w ys::xs)=True:=rfl
theorem zcr {w:Nat} {ys:List AV}:offA (.lst w ys::xs)=True:=rfl
theorem zmx {f:Nat}:@opG P .call l (.fn f cs::xs) ⟨K⟩=@zbe P f (xs++cs) l ⟨K⟩:=(rfl)
theorem G_bsl {idx:List Nat}:@opG P (.bslice w len z idx) l xs ⟨K⟩=(F6 w len idx xs∧0<w∧Ap (Dh idx xs (List.replicate len z))=true∧@nx (.full w (Dh idx xs (List.replicate len z))) (hl l) ⟨fun x _=>K x l⟩):=(rfl)
theorem hl_eq {l l':List Grp}:(hl l=hl l')=(l=l'):=propext ⟨zf6,fun h=>h ▸ rfl⟩
theorem eG {f:Nat} {y:AV} (h:PC P f xs y) (hh:Ap xs=true∧@nx y (hl l) ⟨fun y _=>K y l⟩):@zbe P f xs l ⟨K⟩:=⟨y,fun H=>Gl h hh.1 ⟨rfl,rfl⟩,hh.2⟩
theorem cG {f:Nat} {ys:List AV} {y:AV} (h:PC P f ys y) (hh:leSL [] xs ys∧Ap ys=true∧@nx y (hl l) ⟨fun y _=>K y l⟩):@zbe P f xs l ⟨K⟩:=⟨y,fun H=>F8 (Jo hh.1) (Gl h hh.2.1 ⟨rfl,rfl⟩),hh.2.2⟩
end
theorem Bf {P:Program} {f m np:Nat} {xs:List AV} {y:AV} {res:List ARes} {B:AC} (hf:Ax P f xs.length=some ⟨m,np,res,B⟩) (h:W P m 0 B (entry xs) (hl []) (Ret P res fun z H=>Cj 4 H z∧ansW (frzV 4 H z) y)):PC P f xs y:=by
 refine zl4 hf 4 ?_;rw[Zs];exact T.mono (W_T h) fun x env H hh=>Zr (fun z H hh=>⟨hh.1,zf9 hh.2⟩) hh
theorem zfa {P:Program} {f w:Nat} {y:AV} (h1:PC P f [.nilS] y) (h2:PC P f [.emp] y):PC P f [.lst w []] y:=by
 refine⟨h1.1,fun S cargs hS hx=>?_⟩;obtain⟨v,r,rfl,⟨_,_,a,cap,vs,rfl,⟨_,hn⟩,_,_⟩,hr⟩:=hx;cases a with
 | none=>exact h1.2 S _ hS ⟨_,r,rfl,by rw[hn rfl];rfl,hr⟩
 | some a=>exact h2.2 S _ hS ⟨_,r,rfl,⟨a,cap,rfl⟩,hr⟩
section
variable {P:Program} {H:Ac} {K:AV→Ac→Prop} {n:Bool} {b d:Nat} {ks:List Nat}
theorem z7s:@opK P (.eqn n) H [.emp,.nilS] ⟨K⟩=@nx (.bool n) H ⟨K⟩:=(rfl)
theorem z7t:@opK P (.len false) H [.emp] ⟨K⟩=@nx (.int .i64 0) H ⟨K⟩:=(rfl)
theorem zmy:rnV b H ks (d+1) .emp=.emp:=rfl
end
theorem A5 {P:Program} {n b:Nat} {c:AC} {env:Env} {H:Ac} {Q:Ex→Env→Ac→Prop} (h:T P n b (.loop c) env H Q):@I3 ⟨T P n b (.loop c) env H Q⟩:=h
attribute [push_cast] z7s z7t zmy Zs hl_n Cg Dj zhj z79 z7a Ui zhk zc3 zlj zhl zc4 zlk zll zlm zln rn_fn zlo zhn zlp zlq zho zlr zhp zhq zls zlt zhr
attribute [push_cast] zlu zhs g_le zc7 z7c zc8 z7d z7e z3q z7f z7g z3s z7h z3r Xd z3t zm1 zm2 zhy zm3 zhz zhh head1 head2 head3 zm4 zi0 zm5 zi1 zm6 zc9 Fe zi2 zi3 zi4 Um zi6 Bv List.cons_append List.nil_append
attribute [push_cast] zco z7q zcp zcq z7r zcr G_mv zmu zio zmv z3x G_bin G_eqb G_eqs G_eqn G_un zmw ziq zir zis zit zcl ziu z3y z7o G_len G_max G_min zcn ziv ziw G_box zix z7p G_app zmx G_bsl hl_eq Bc forall_eq' forall_eq
attribute [push_cast] List.isEmpty_nil List.isEmpty_cons List.map_eq_nil_iff Option.isSome_some Option.isSome_none
attribute [push_cast] List.map_append List.length_append Option.map_some Option.map_none zi5 Xe Int.add_sub_cancel Int.sub_add_cancel z3u z3v z7i Nat.not_lt_zero Nat.zero_le
open IntWalk in
attribute [push_cast] i64_in i32_in u8_in u32_in u64_in z71
theorem zz:type_of% (And.intro @z1 <| And.intro @z2 <| And.intro @z3 <| And.intro @z4 <| And.intro @z5 <| And.intro @z6 <| And.intro @z7 <| And.intro @z8 <| And.intro @z9 <| And.intro @z10 <| And.intro @z11 <| And.intro @z12 <| And.intro @z13 <| And.intro @z14 <| And.intro @z15 <| And.intro @z16 <| And.intro @z17 <| And.intro @z18 <| And.intro @z19 <| And.intro @z20 <| And.intro @z21 <| And.intro @z22 <| And.intro @z23 <| And.intro @z24 <| And.intro @z25 <| And.intro @z26 <| And.intro @z27 <| And.intro @z28 <| And.intro @z29 <| And.intro @z30 <| And.intro @z31 <| And.intro @z32 <| @z33):=And.intro @z1 <| And.intro @z2 <| And.intro @z3 <| And.intro @z4 <| And.intro @z5 <| And.intro @z6 <| And.intro @z7 <| And.intro @z8 <| And.intro @z9 <| And.intro @z10 <| And.intro @z11 <| And.intro @z12 <| And.intro @z13 <| And.intro @z14 <| And.intro @z15 <| And.intro @z16 <| And.intro @z17 <| And.intro @z18 <| And.intro @z19 <| And.intro @z20 <| And.intro @z21 <| And.intro @z22 <| And.intro @z23 <| And.intro @z24 <| And.intro @z25 <| And.intro @z26 <| And.intro @z27 <| And.intro @z28 <| And.intro @z29 <| And.intro @z30 <| And.intro @z31 <| And.intro @z32 <| @z33
end Go.Proofs.Ytbcjoeadpjfcfaa.Abs
namespace Go.Proofs.Ytbcjoeadpjfcfaa
open Abs
structure Span where
 lo:Int
 hi:Int
 deriving DecidableEq,Inhabited
structure Part where
 at_:Int
 drop:Int
 take:Int
 up:Int
 deriving DecidableEq,Inhabited
structure Term where
 base:Int
 drop:Int
 take:Int
 up:Int
 sum:Int
 parts:List Part
 deriving DecidableEq,Inhabited
structure Rule where
 from_:Int
 to_:Int
 guards:List (List Span)
 eat:Int
 out:List Term
 deriving DecidableEq,Inhabited
structure C6 where
 from_:Int
 guards:List (List Span)
 out:List Term
 deriving DecidableEq,Inhabited
structure Desc where
 in_:Int
 out:Int
 states:Int
 start:Int
 rules:List Rule
 finals:List C6
 deriving DecidableEq,Inhabited
abbrev Pe (l:List Int):AV:=.lst 1 (l.map (AV.int .i64))
abbrev zfb (l:List Int):AV:=.lst 1 (l.map (AV.int .i32))
abbrev Bz (s:Span):AV:=.agg [.int .i64 s.lo,.int .i64 s.hi]
abbrev Ah (l:List Span):AV:=.lst 2 (l.map Bz)
abbrev Al (l:List (List Span)):AV:=.lst 1 (l.map Ah)
abbrev Cd (p:Part):AV:=.agg [.int .i64 p.at_,.int .i64 p.drop,.int .i64 p.take,.int .i64 p.up]
abbrev A8 (l:List Part):AV:=.lst 4 (l.map Cd)
abbrev B0 (t:Term):AV:=.agg [.int .i64 t.base,.int .i64 t.drop,.int .i64 t.take,.int .i64 t.up,.int .i64 t.sum,A8 t.parts]
abbrev Bl (l:List Term):AV:=.lst 6 (l.map B0)
abbrev Ca (r:Rule):AV:=.agg [.int .i64 r.from_,.int .i64 r.to_,Al r.guards,.int .i64 r.eat,Bl r.out]
abbrev Bn (f:C6):AV:=.agg [.int .i64 f.from_,Al f.guards,Bl f.out]
abbrev De (l:List Rule):AV:=.lst 5 (l.map Ca)
abbrev F1 (l:List C6):AV:=.lst 3 (l.map Bn)
abbrev Cp (d:Desc):AV:=.agg [.int .i64 d.in_,.int .i64 d.out,.int .i64 d.states,.int .i64 d.start,De d.rules,F1 d.finals]
theorem Dq (l:List Span):Ap (l.map Bz)=true:=Ec (fun _=>rfl) l
theorem Im (l:List Part):Ap (l.map Cd)=true:=Ec (fun _=>rfl) l
theorem Ag (l:List (List Span)):Ap (l.map Ah)=true:=Ec (fun s=>by simp only[Ah,AV.pure,Dq]) l
theorem Aq (l:List Term):Ap (l.map B0)=true:=Ec (fun s=>by simp[B0,AV.pure,Ap,Im]) l
theorem A7 (l:List Rule):Ap (l.map Ca)=true:=Ec (fun s=>by simp[Ca,AV.pure,Ap,Ag,Aq]) l
theorem A6 (l:List C6):Ap (l.map Bn)=true:=Ec (fun s=>by simp[Bn,AV.pure,Ap,Ag,Aq]) l
theorem z3z (l:List (List Int)):Ap (l.map zfb)=true:=Ec (fun s=>by simp only[zfb,AV.pure,Mq]) l
attribute [push_cast] Dq Im Ag Aq A7 A6 z3z
end Go.Proofs.Ytbcjoeadpjfcfaa
namespace Go.Proofs.Ytbcjoeadpjfcfaa.Abs
open Go.RowKit
inductive Sh where
 | bool
 | int (k:IntKind)
 | str
 | sl (agg:Bool) (fs:List Sh)
mutual
def Is:Sh→AV→Prop
 | .bool,x=>∃ b,x=.bool b
 | .int k,x=>∃ n,x=.int k n∧(Lit.int k n).wf=true
 | .str,x=>∃ s:List UInt8,x=.str s∧s.length≤maxLen
 | .sl agg fs,x=>x=.nilS∨∃ xs,x=.lst fs.length xs∧xs.length≤maxLen∧∀ y∈xs,∃ cs,y=(if agg then .agg cs else cs.headD .any)∧IsL fs cs
def IsL:List Sh→List AV→Prop
 | [],cs=>cs=[]
 | s::fs,cs=>∃ c r,cs=c::r∧Is s c∧IsL fs r
end
theorem z7u:∀ {fs:List Sh} {cs:List AV},IsL fs cs→cs.length=fs.length
 | [],_,h=>by rw[show _=[] from h];rfl
 | _::_,_,⟨_,_,h,_,k⟩=>by rw[h];simp[z7u k]
mutual
def Pf (P:Program):Sh→TypeId→Bool
 | .bool,t=>match P.underlying t with|some .bool=>true|_=>false
 | .int k,t=>match P.underlying t with|some (.int k')=>k' == k|_=>false
 | .str,t=>match P.underlying t with|some .string=>true|_=>false
 | .sl agg fs,t=>match P.underlying t with
   | some (.slice e)=>P.cellsOf e == fs.length&&!fs.isEmpty&&(match agg,P.underlying e with
     | true,some (.struct fl)=>Pg P fs 0 fl.toList
     | true,some (.array n u)=>fs.length == n&&P.cellsOf u == 1&&z7v P fs u
     | false,_=>fs.length == 1&&z7v P fs e
     | _,_=>false)
   | _=>false
def Pg (P:Program):List Sh→Nat→List Field→Bool
 | [],_,[]=>true
 | s::ss,i,f::fl=>f.offset == i&&P.cellsOf f.type == 1&&Pf P s f.type&&Pg P ss (i+1) fl
 | _,_,_=>false
def z7v (P:Program):List Sh→TypeId→Bool
 | [],_=>true
 | s::ss,u=>Pf P s u&&z7v P ss u
end
section
variable {H:Type} {enc:TypeId × Value→H} {P:Program} {w:World} {base:Nat} {spare:Nat→Bool} {held:Bool}
def Got (w:World) (s:Sh) (v:Value):Prop:=∃ x,Is s x∧VRel (MS.start w) x v∧x.pure=true∧x.one=true
def GotL (w:World) (fs:List Sh) (vs:List Value):Prop:=∃ xs,IsL fs xs∧Ad (MS.start w) xs vs∧Ap xs=true∧D4 xs=true
theorem Zv:GotL w [] []:=⟨[],rfl,rfl,rfl,rfl⟩
theorem Un {s:Sh} {fs:List Sh} {v:Value} {vs:List Value} (h:Got w s v) (k:GotL w fs vs):GotL w (s::fs) (v::vs):=by
 obtain⟨x,h1,h2,h3,h4⟩:=h;obtain⟨xs,k1,k2,k3,k4⟩:=k;exact⟨x::xs,⟨x,xs,rfl,h1,k1⟩,⟨v,vs,rfl,h2,k2⟩,by simp[Ap,h3,k3],by simp[D4,h4,k4]⟩
theorem Xf {a:Addr} {v:Value} (h:w.cell? a=some v):(MS.start w).im a.block:=z3c h
theorem ziy {agg:Bool} {fs:List Sh} {a:Addr} {len cap sz:Nat} (hsz:sz=fs.length) (hpos:0<fs.length) (hagg:agg=false→fs.length=1) (hlc:len≤cap) (hcap:cap≤maxLen)
   (h:∀ i,i<len→∃ cs',w.cells? base (a.add (i * sz)) sz=some cs'∧GotL w fs cs'):Got w (.sl agg fs) (.slice (some a) len cap):=by
 subst hsz
 have h':∀ i:Nat,∃ p:List AV × List Value,i<len→(w.cells? base (a.add (i * fs.length)) fs.length=some p.2∧IsL fs p.1∧Ad (MS.start w) p.1 p.2∧Ap p.1=true∧D4 p.1=true):=by
   intro i;by_cases hi:i<len
   · obtain⟨cs',h1,xs,h2,h3,h4,h5⟩:=h i hi
     exact⟨(xs,cs'),fun _=>⟨h1,h2,h3,h4,h5⟩⟩
   · exact⟨([],[]),fun h=>absurd h hi⟩
 obtain⟨p,hp⟩:=Classical.axiomOfChoice h'
 let E:List AV→AV:=fun cs=>if agg then .agg cs else cs.headD .any
 let V:List Value→Value:=fun cs=>if agg then .agg cs.toArray else cs.headD undef
 let xs:List AV:=(List.range len).map fun i=>E (p i).1
 let vs:List Value:=(List.range len).map fun i=>V (p i).2
 have hone:∀ i,i<len→(V (p i).2).cells.toList=(p i).2∧VRel (MS.start w) (E (p i).1) (V (p i).2)∧(E (p i).1).pure=true:=by
   intro i hi;obtain⟨q1,q2,q3,q4,q5⟩:=hp i hi;have hl1:(p i).1.length=fs.length:=z7u q2;cases agg with
   | true=>exact⟨by simp[V,Value.cells],⟨_,rfl,q3⟩,by simp[E,AV.pure,q4]⟩
   | false =>
     have h1:=hagg rfl;rw[h1] at hl1
     match hc:(p i).1,(p i).2,q3,q4,q5,hl1 with
     | [c],[v],⟨v',r,hv,hr,hr2⟩,q4,q5,_ =>
       cases hv;have hno:c.one=true:=by simpa [D4] using q5
       have hcc:c.cells=[c]:=by cases c<;>first|rfl|(simp[AV.one] at hno)
       have hca:c.isAny=false:=by cases c<;>first|rfl|(simp[AV.one] at hno)
       have hcl:=VRel.cells hca hr;rw[hcc] at hcl;obtain⟨u,r2,hu,hu2,hu3⟩:=hcl;rw[show r2=[] from hu3] at hu
       have hv1:v.cells.toList=[v]:=by
         have:=one_cell hr hno;cases v<;>first|rfl|(simp[Value.oneCell'] at this)
       exact⟨by simpa [V] using hv1,by simpa [E,V] using hr,by simpa [E,Ap] using q4⟩
 have hxl:xs.length=len:=by simp[xs]
 have hvl:vs.length=len:=by simp[vs]
 have hxi:∀ i,i<len→xs[i]? = some (E (p i).1):=fun i hi=>by simp[xs,hi]
 have hvi:∀ i,i<len→vs[i]? = some (V (p i).2):=fun i hi=>by simp[vs,hi]
 have hvs:Ad (MS.start w) xs vs:=Ad.of_get (by rw[hxl,hvl]) fun i x v hx hv=>by
   have hi:i<len:=by rw[←hxl];exact (List.getElem?_eq_some_iff.1 hx).1
   rw[hxi i hi] at hx;rw[hvi i hi] at hv;cases hx;cases hv;exact (hone i hi).2.1
 have hpu:Ap xs=true:=Bu.2 fun x hx=>by
   obtain⟨i,hi,rfl⟩:=List.mem_map.1 hx;exact (hone i (List.mem_range.1 hi)).2.2
 refine⟨.lst fs.length xs,.inr ⟨xs,rfl,by rw[hxl];omega,fun y hy=>?_⟩,⟨hpu,hpos,some a,cap,vs,by rw[hxl],⟨by rw[hxl];exact hlc,fun hn=>by cases hn⟩,hvs,fun hne=>?_⟩,by simpa [AV.pure] using hpu,rfl⟩
 · obtain⟨i,hi,rfl⟩:=List.mem_map.1 hy
   exact⟨_,rfl,(hp i (List.mem_range.1 hi)).2.1⟩
 · have h0:0<len:=by rw[←hxl];exact List.length_pos_iff.2 hne
   obtain⟨b,o,spot⟩:=a
   have hcell:∀ i,i<len→∀ j,j<fs.length→w.cell? ((⟨b,o,spot⟩:Addr).add (i * fs.length+j))=(p i).2[j]? := fun i hi j hj=>by
     obtain⟨_,_,hat⟩:=World.cells?_some (hp i hi).1;rw[←hat j hj,←Go.Deep.add_add]
   have hlen2:∀ i,i<len→(p i).2.length=fs.length:=fun i hi=>(World.cells?_some (hp i hi).1).2.1;have hc0:=hcell 0 h0 0 hpos;rw[List.getElem?_eq_getElem (by rw[hlen2 0 h0];exact hpos)] at hc0;have hspot:spot=none:=by simpa [Addr.add] using World.cell?_spot hc0
   subst hspot;have hbk:∀ k:Nat,((⟨b,o,none⟩:Addr).add k).block=b:=fun k=>by unfold Addr.add;split<;>rfl
   refine⟨b,o,rfl,by have:=Xf hc0;rwa [hbk] at this,fun i v hv=>?_⟩;have hi:i<len:=by rw[←hvl];exact (List.getElem?_eq_some_iff.1 hv).1
   rw[hvi i hi] at hv;cases hv;obtain⟨e1,_,_⟩:=hone i hi;have e1':(V (p i).2).cells=(p i).2.toArray:=by simpa using congrArg List.toArray e1
   obtain⟨_,q2,q3,_,q5⟩:=hp i hi;refine⟨by rw[e1'];simp[hlen2 i hi],fun c hc=>?_,fun j hj=>?_⟩
   · rw[e1'] at hc
     exact Mw q3 q5 c (by simpa using hc)
   · rw[e1']
     have:=hcell i hi j hj
     have ea:(⟨b,o,none⟩:Addr).add (i * fs.length+j)=⟨b,o+i * fs.length+j,none⟩:=by
       unfold Addr.add;split
       · rename_i hz
         have:i * fs.length=0∧j=0:=by simpa using hz
         rw[this.1,this.2];rfl
       · simp[Nat.add_assoc]
     rw[ea] at this;refine this.trans ?_;simp
theorem Nj:∀ {fs:List Sh} {i:Nat} {fl:List Field},Pg P fs i fl=true→fl.length=fs.length
 | [],_,[],_=>rfl
 | [],_,_::_,h=>by simp[Pg] at h
 | _::_,_,[],h=>by simp[Pg] at h
 | s::fs,i,f::fl,h=>by
   simp only[Pg,Bool.and_eq_true] at h;simp[Nj h.2]
mutual
theorem ziz:∀ (s:Sh) {t:TypeId} {fuel:Nat} {v:Value} {d:DataW H × List MemPlace},Pf P s t=true→DataW.trod enc P w base spare held fuel t [v]=some d→Got w s v
 | .bool,t,fuel,v,d,hf,h=>by
   cases fuel with
   | zero=>simp[DataW.trod] at h
   | succ n =>
     simp only[Pf] at hf;split at hf
     · rename_i ht
       unfold DataW.trod at h;rw[ht] at h;cases v<;>simp at h;rename_i b;exact⟨.bool b,⟨b,rfl⟩,rfl,rfl,rfl⟩
     · cases hf
 | .int k,t,fuel,v,d,hf,h=>by
   cases fuel with
   | zero=>simp[DataW.trod] at h
   | succ n =>
     simp only[Pf] at hf;split at hf
     · rename_i k' ht
       obtain rfl:k'=k:=by simpa using hf
       unfold DataW.trod at h;rw[ht] at h;cases v<;>simp at h;rename_i k2 m;obtain⟨⟨rfl,hw⟩,_⟩:=h;exact⟨.int k2 m,⟨m,rfl,hw⟩,rfl,rfl,rfl⟩
     · cases hf
 | .str,t,fuel,v,d,hf,h=>by
   cases fuel with
   | zero=>simp[DataW.trod] at h
   | succ n =>
     simp only[Pf] at hf;split at hf
     · rename_i ht
       unfold DataW.trod at h;rw[ht] at h;cases v<;>simp at h;rename_i s;exact⟨.str s.data.toList,⟨_,rfl,by simpa using h.1⟩,rfl,rfl,rfl⟩
     · cases hf
 | .sl agg fs,t,fuel,v,d,hf,h=>by
   simp only[Pf] at hf;split at hf
   · rename_i e ht
     simp only[Bool.and_eq_true,beq_iff_eq,Bool.not_eq_true',List.isEmpty_eq_false_iff] at hf;obtain⟨⟨hsz,hne⟩,hfe⟩:=hf;have hpos:0<fs.length:=List.length_pos_iff.2 hne;rcases Go.Deep.open_slice ht h with⟨hv,_⟩|⟨a,len,cap,m,n,D,Pl,hv,hb,hl,hm,hmm,hx,hi⟩
     · cases hv
       exact⟨.nilS,.inl rfl,rfl,rfl,rfl⟩
     · cases hv
       have hlm:len≤m:=by rw[hmm];split<;>omega
       have hag:agg=false→fs.length=1:=fun ha=>by
         subst ha;simp only[Bool.and_eq_true,beq_iff_eq] at hfe;exact hfe.1
       refine ziy (base:=base) hsz hpos hag hl hm fun i hil=>?_;obtain⟨cs',hc,ht'⟩:=hi i (by omega);refine⟨cs',hc,?_⟩;have hcl:=(World.cells?_some hc).2.1;cases agg with
       | true =>
         split at hfe
         · rename_i fl _ he
           obtain⟨ys,n',_,_,_,hlen,hg⟩:=DataW.trod_struct he ht';have hfl:=Nj hfe
           exact zj0 fs (fl:=fl.toList) (i:=0) (cs:=cs') hfe (by rw[hcl,hsz];omega) fun j f hj=>by
             have:=hg j f (by simpa using hj);have hj2:j<ys.length:=by rw[hlen];have:=(List.getElem?_eq_some_iff.1 hj).1;simpa using this
             rw[List.getElem?_eq_getElem hj2] at this;exact⟨n',_,this,rfl⟩
         · rename_i n2 u _ he
           simp only[Bool.and_eq_true,beq_iff_eq] at hfe;obtain⟨⟨hn,hu⟩,hfa⟩:=hfe;obtain⟨ys,n',_,_,hlen,hyl,hg⟩:=DataW.trod_array he ht';refine zj1 fs (u:=u) (cs:=cs') (i:=0) hfa (by omega) fun j hj=>?_;have h1:=hg j (by omega);rw[hu,Nat.mul_one] at h1;have h2:ys[j]? = some (ys[j]'(by omega)):=List.getElem?_eq_getElem (by omega);rw[h2] at h1;exact⟨n',_,by rw[Nat.zero_add];exact h1⟩
         · rename_i hh;cases hh
         · cases hfe
       | false =>
         simp only[Bool.and_eq_true,beq_iff_eq] at hfe;refine zj1 fs (u:=e) (cs:=cs') (i:=0) hfe.2 (by omega) fun j hj=>?_;obtain rfl:j=0:=by omega
         exact⟨n,_,by rw[List.drop_zero,List.take_of_length_le (by omega)];exact ht'⟩
   · cases hf
theorem zj0:∀ (fs:List Sh) {fl:List Field} {i:Nat} {cs:List Value},Pg P fs i fl=true→cs.length=i+fs.length →
   (∀ (j:Nat) (f:Field),fl[j]? = some f→∃ n y,DataW.trod enc P w base spare held n f.type ((cs.drop f.offset).take (P.cellsOf f.type))=y∧y.isSome=true)→GotL w fs (cs.drop i)
 | [],fl,i,cs,hf,hl,h=>by
   rw[List.drop_of_length_le (by rw[hl];simp)];exact Zv
 | s::fs,fl,i,cs,hf,hl,h=>by
   cases fl with
   | nil=>simp[Pg] at hf
   | cons f fl =>
     simp only[Pg,Bool.and_eq_true,beq_iff_eq] at hf;obtain⟨⟨⟨ho,hc⟩,hs⟩,hr⟩:=hf;have hi:i<cs.length:=by rw[hl];simp
     rw[List.drop_eq_getElem_cons hi];obtain⟨n,y,h1,h2⟩:=h 0 f rfl;obtain⟨d,rfl⟩:=Option.isSome_iff_exists.1 h2;rw[ho,hc,List.drop_eq_getElem_cons hi,List.take_succ_cons,List.take_zero] at h1;refine Un (ziz s hs h1) (zj0 fs hr (by rw[hl];simp;omega) fun j g hj=>h (j+1) g (by simpa using hj))
theorem zj1:∀ (fs:List Sh) {u:TypeId} {i:Nat} {cs:List Value},z7v P fs u=true→cs.length=i+fs.length →
   (∀ j,j<fs.length→∃ n d,DataW.trod enc P w base spare held n u ((cs.drop (i+j)).take 1)=some d)→GotL w fs (cs.drop i)
 | [],u,i,cs,hf,hl,h=>by
   rw[List.drop_of_length_le (by rw[hl];simp)];exact Zv
 | s::fs,u,i,cs,hf,hl,h=>by
   simp only[z7v,Bool.and_eq_true] at hf;have hi:i<cs.length:=by rw[hl];simp
   rw[List.drop_eq_getElem_cons hi];obtain⟨n,d,h1⟩:=h 0 (by simp);rw[Nat.add_zero,List.drop_eq_getElem_cons hi,List.take_succ_cons,List.take_zero] at h1;refine Un (ziz s hf.1 h1) (zj1 fs hf.2 (by rw[hl];simp;omega) fun j hj=>?_);have:=h (j+1) (by simp;omega)
   rwa [show i+(j+1)=i+1+j by omega] at this
end
end
open Go.RowKit Go.ChangeShapes Go.WideShapes
inductive PSh where
 | cell (s:Sh)
 | rcd (fs:List Sh)
def IsP:PSh→AV→Prop
 | .cell s,x=>Is s x
 | .rcd fs,x=>∃ cs,x=.agg cs∧IsL fs cs
def IsPs:List PSh→List AV→Prop
 | [],xs=>xs=[]
 | p::ps,xs=>∃ x r,xs=x::r∧IsP p x∧IsPs ps r
def zj2 (P:Program):PSh→TypeId→Bool
 | .cell s,t=>Pf P s t
 | .rcd fs,t=>match P.underlying t with
   | some (.struct fl)=>P.cellsOf t == fs.length&&Pg P fs 0 fl.toList
   | _=>false
def Qg (P:Program):List PSh→List TypeId→Bool
 | [],[]=>true
 | p::ps,t::ts=>zj2 P p t&&Qg P ps ts
 | _,_=>false
section
variable {H:Type} {enc:TypeId × Value→H} {P:Program} {w:World} {spare:Nat→Bool} {held:Bool}
theorem Xg {s:Sh} {t:TypeId} {r:Reach} {b0:Nat} {v:Value} (hf:Pf P s t=true) (h:Value.okWide P w r b0 t v):v.cells.toList=[v]:=by
 cases s<;>simp only[Pf] at hf<;>split at hf<;>first|(cases hf;done)|skip
 · obtain⟨b,rfl⟩:=okWide_bool ‹_› h;rfl
 · obtain⟨b,rfl⟩:=okWide_int ‹_› h;rfl
 · obtain⟨b,rfl⟩:=okWide_string ‹_› h;rfl
 · obtain⟨a,l,c,rfl⟩:=okWide_slice ‹_› h;rfl
theorem zj3 {p:PSh} {t:TypeId} {r:Reach} {b0:Nat} {v:Value} {d:DataW H} {ps:List MemPlace} (hf:zj2 P p t=true) (hw:Value.okWide P w r b0 t v) (h:DataW.Trod enc P w 0 spare held t v d ps):∃ x,IsP p x∧VRel (MS.start w) x v:=by
 obtain⟨fuel,h⟩:=h;cases p with
 | cell s =>
   rw[Xg hf hw] at h;obtain⟨x,h1,h2,_⟩:=ziz s hf h;exact⟨x,h1,h2⟩
 | rcd fs =>
   simp only[zj2] at hf;split at hf
   · rename_i fl ht
     simp only[Bool.and_eq_true,beq_iff_eq] at hf;obtain⟨cs,rfl,hc⟩:=okWide_struct ht hw;obtain⟨ys,n',_,_,_,hlen,hg⟩:=DataW.trod_struct ht h;have hfl:=Nj hf.2
     obtain⟨xs,h1,h2,_⟩:=zj0 fs (fl:=fl.toList) (i:=0) (cs:=cs.toList) hf.2 (by simp;omega) fun j f hj=>by
       have:=hg j f (by simpa using hj);have hj2:j<ys.length:=by rw[hlen];have:=(List.getElem?_eq_some_iff.1 hj).1;simpa using this
       rw[List.getElem?_eq_getElem hj2] at this;exact⟨n',_,this,rfl⟩
     exact⟨.agg xs,⟨xs,rfl,h1⟩,cs.toList,by simp,by simpa using h2⟩
   · cases hf
theorem Zw:∀ {ps:List PSh} {ts:List TypeId} {vs:List Value} {ds:List (DataW H)} {q:List MemPlace} {r:Reach} {b0:Nat},Qg P ps ts=true→(∀ (j:Nat) t v,ts[j]? = some t→vs[j]? = some v→Value.okWide P w r b0 t v) →
   DataW.TrodAll enc P w 0 spare held ts vs ds q→∃ xs,IsPs ps xs∧Ad (MS.start w) xs vs
 | [],[],[],[],_,_,_,_,_,_=>⟨[],rfl,rfl⟩
 | p::ps,t::ts,v::vs,d::ds,_,_,_,hf,hw,⟨a,b,h1,h2,_⟩=>by
   simp only[Qg,Bool.and_eq_true] at hf;obtain⟨x,k1,k2⟩:=zj3 hf.1 (hw 0 t v rfl rfl) h1;obtain⟨xs,k3,k4⟩:=Zw hf.2 (fun j t v ht hv=>hw (j+1) t v (by simpa using ht) (by simpa using hv)) h2;exact⟨x::xs,⟨x,xs,rfl,k1,k3⟩,v,vs,rfl,k2,k4⟩
 | [],_::_,_,_,_,_,_,hf,_,_=>by simp[Qg] at hf
 | _::_,[],_,_,_,_,_,hf,_,_=>by simp[Qg] at hf
 | [],[],_::_,_,_,_,_,_,_,h=>h.elim
 | [],[],[],_::_,_,_,_,_,_,h=>h.elim
 | _::_,_::_,[],_,_,_,_,_,_,h=>by cases ‹List (DataW H)›<;>exact h.elim
 | _::_,_::_,_::_,[],_,_,_,_,_,h=>h.elim
def z7w (P:Program) (ts:List TypeId):Bool:=ts.all fun t=>P.readableRec t&&decide (t<P.types.size)
theorem Uo {W W':World} (hl:laidOutB P=true) (hb:Below W.heap.size W W'):∀ {ts:List TypeId} {vs:List Value} {ds:List (DataW H)} {ps:List MemPlace},z7w P ts=true→(∀ x∈ps,x.block<W.heap.size) →
   DataW.TrodAll enc P W 0 (fun _=>true) true ts vs ds ps→DataW.TrodAll enc P W' 0 (fun b=>decide (b<W.heap.size)) true ts vs ds ps
 | [],[],[],_,_,_,h=>h
 | t::ts,v::vs,d::ds,_,hr,hlt,⟨a,b,h1,h2,e⟩=>by
   subst e;simp only[z7w,List.all_cons,Bool.and_eq_true,decide_eq_true_eq] at hr;exact⟨a,b,Below.trod hl hr.1.1 hr.1.2 h1 hb (fun x hx=>hlt x (List.mem_append_left _ hx)),Uo hl hb (by simpa [z7w] using hr.2) (fun x hx=>hlt x (List.mem_append_right _ hx)) h2,rfl⟩
 | [],[],_::_,_,_,_,h=>h.elim
 | [],_::_,_,_,_,_,h=>by cases ‹List (DataW H)›<;>exact h.elim
 | _::_,[],_,_,_,_,h=>by cases ‹List (DataW H)›<;>exact h.elim
 | _::_,_::_,[],_,_,_,h=>h.elim
theorem z7x {f:Nat} {ps:List PSh} {ts:List TypeId} (hf:Qg P ps ts=true) (h:∀ xs,IsPs ps xs→PC P f xs (.bool true)) {args:Array Value} {ds:List (DataW H)} {q:List MemPlace} {r:Reach} {b0:Nat}
   (hw:∀ (j:Nat) t v,ts[j]? = some t→args.toList[j]? = some v→Value.okWide P w r b0 t v) (hA:DataW.TrodAll enc P w 0 spare held ts args.toList ds q) :
   Calls P f args w fun e w'=>e=.returned (.bool true)∧Below w.heap.size w w':=by
 obtain⟨xs,h1,h2⟩:=Zw hf hw hA;have:=(h xs h1).below h2;simpa using this
end
end Go.Proofs.Ytbcjoeadpjfcfaa.Abs
set_option maxRecDepth 100000
namespace Go.Proofs.Ytbcjoeadpjfcfaa
open Abs
abbrev s_ (n:Nat):AArg:=.slot n
abbrev k_ (x:AV):AArg:=.const x
abbrev h_ (a:List AArg) (k:AK):AOp:=⟨none,a,none,k⟩
abbrev m_ (d:Nat) (a:List AArg) (k:AK):AOp:=⟨some d,a,none,k⟩
abbrev g_ (d g:Nat) (w:Bool) (a:List AArg) (k:AK):AOp:=⟨some d,a,some (g,w),k⟩
abbrev ld:AK:=.load false 1
abbrev ln:AK:=.len false
abbrev l6:AK:=.load true 6
abbrev nt:AK:=.un .not
abbrev st:AK:=.store 1
abbrev f0_:AK:=.faddr false 0 1
abbrev f1_:AK:=.faddr false 1 1
abbrev f2_:AK:=.faddr false 2 1
abbrev f3_:AK:=.faddr false 3 1
abbrev f4_:AK:=.faddr false 4 1
abbrev f5_:AK:=.faddr false 5 1
abbrev bad_:AK:=.bin .add
abbrev bls_:AK:=.bin .lss
abbrev beq_:AK:=.bin .eql
abbrev bgt_:AK:=.bin .gtr
abbrev bsu_:AK:=.bin .sub
abbrev ble_:AK:=.bin .leq
abbrev bne_:AK:=.bin .neq
abbrev bge_:AK:=.bin .geq
abbrev a1_:AK:=.iaddr 1
abbrev a2_:AK:=.iaddr 2
abbrev a3_:AK:=.iaddr 3
abbrev a4_:AK:=.iaddr 4
abbrev a5_:AK:=.iaddr 5
abbrev a6_:AK:=.iaddr 6
abbrev v_ (d a:Nat):AOp:=⟨some d,[.slot a],none,.mv⟩
abbrev z_ (d:Nat):AOp:=⟨some d,[.const (.int .i64 0)],none,.mv⟩
abbrev i1_ (d a:Nat):AOp:=⟨some d,[.slot a,.const (.int .i64 1)],none,.bin .add⟩
abbrev bf_ (d:Nat):AOp:=⟨some d,[.const (.bool false)],none,.mv⟩
abbrev bt_ (d:Nat):AOp:=⟨some d,[.const (.bool true)],none,.mv⟩
abbrev ns_ (d:Nat):AOp:=⟨some d,[.const .nilS],none,.mv⟩
abbrev ex_ (s e:Nat):AC:=.cond (.slot s) .skip (.exit e)
abbrev i_ (s:Nat) (a b:AC):AC:=.cond (.slot s) a b
abbrev sr_ (l:List AOp) (c:AC):AC:=.seq (.reg l) c
def Ez:AC:=(sr_ [o1 1 0 .box,bf_ 2] (.seq (sr_ [o1 9 1 l6,k1 10 4 9,o1 11 10 nt] (i_ 11 (sr_ [k0 12 5,v_ 2 12] .ret) .skip)) (sr_ [o1 14 1 l6,k1 15 6 14,v_ 13 15,o1 16 13 (.extract 0),o1 17 13 (.extract 1),o0 3 (.alloc (.agg [(.int .i64 0),(.int .i64 0),(.int .i64 0),(.int .i64 0),.nilS,.nilS]) 6),n2 3 16 (.store 6),v_ 4 17] (.seq (sr_ [v_ 18 4,c2 19 18 (.int .i64 0) bne_] (i_ 19 (sr_ [k0 20 5,v_ 2 20] .ret) .skip)) (sr_ [o1 22 3 l6,k1 23 6 22,v_ 21 23,o1 24 21 (.extract 0),o1 25 21 (.extract 1),o0 5 (.alloc (.agg [(.int .i64 0),(.int .i64 0),(.int .i64 0),(.int .i64 0),.nilS,.nilS]) 6),n2 5 24 (.store 6),v_ 6 25] (sr_ [o1 27 3 l6,k1 28 7 27,v_ 26 28,o1 29 26 (.extract 0),o1 30 26 (.extract 1),v_ 7 29,v_ 8 30] (sr_ [v_ 31 6,c2 32 31 (.int .i64 0) beq_,v_ 33 32,g1 34 33 5 l6,g1 35 33 3 l6,g_ 36 33 true [k_ (.fn 8 []),s_ 34,s_ 35] .call,m_ 37 [s_ 33,s_ 36,k_ (.bool false)] .pick,v_ 38 37,g1 39 38 8 .mv,g_ 40 38 true [s_ 39,k_ (.int .i64 0)] beq_,m_ 41 [s_ 38,s_ 40,k_ (.bool false)] .pick,v_ 42 41,g1 43 42 7 .mv,g1 44 42 3 f2_,g1 45 42 44 ld,g2 46 42 43 45 beq_,m_ 47 [s_ 42,s_ 46,k_ (.bool false)] .pick,v_ 48 47,g_ 49 48 true [k_ (.fn 5 [])] .call,m_ 50 [s_ 48,s_ 49,k_ (.bool false)] .pick,v_ 2 50] .ret)))))))
theorem I4:Ax Try.prog 3 1=some ⟨51,1,[(.slot 2)],Ez⟩:=by kernel_rfl
def J5:AC:=(sr_ [o1 1 0 .box,bf_ 2] (sr_ [z_ 3] (.seq (sr_ [o1 6 1 f4_,o1 7 6 ld,o1 8 7 ln,c2 9 8 (.int .i64 80) bgt_,v_ 10 9,g_ 11 10 false [s_ 1] f5_,g_ 12 10 false [s_ 11] ld,g_ 13 10 false [s_ 12] ln,g_ 14 10 false [s_ 13,k_ (.int .i64 80)] bgt_,m_ 15 [s_ 10,k_ (.bool true),s_ 14] .pick] (i_ 15 (sr_ [bf_ 2] .ret) .skip)) (.seq (sr_ [z_ 4] (.block 0 (.loop (.seq (sr_ [v_ 16 4,o1 17 1 f4_,o1 18 17 ld,o1 19 18 ln,o2 20 16 19 bls_] (ex_ 20 0)) (.seq (.block 1 (.dreg [v_ 23 3,o1 24 1 f4_,o1 25 24 ld,v_ 26 4,o2 27 25 26 a5_,o1 28 27 f2_,o1 29 28 ld,o1 30 1 f4_,o1 31 30 ld,v_ 32 4,o2 33 31 32 a5_,o1 34 33 f4_,o1 35 34 ld,k2 36 9 29 35,o2 37 23 36 bad_,v_ 3 37])) (.reg [v_ 21 4,i1_ 22 21,v_ 4 22])))))) (.seq (sr_ [z_ 5] (.block 2 (.loop (.seq (sr_ [v_ 38 5,o1 39 1 f5_,o1 40 39 ld,o1 41 40 ln,o2 42 38 41 bls_] (ex_ 42 2)) (.seq (.block 3 (.dreg [v_ 45 3,o1 46 1 f5_,o1 47 46 ld,v_ 48 5,o2 49 47 48 a3_,o1 50 49 f1_,o1 51 50 ld,o1 52 1 f5_,o1 53 52 ld,v_ 54 5,o2 55 53 54 a3_,o1 56 55 f2_,o1 57 56 ld,k2 58 9 51 57,o2 59 45 58 bad_,v_ 3 59])) (.reg [v_ 43 5,i1_ 44 43,v_ 5 44])))))) (sr_ [v_ 60 3,c2 61 60 (.int .i64 1500) ble_,v_ 2 61] .ret))))))
theorem R7:Ax Try.prog 4 1=some ⟨62,1,[(.slot 2)],J5⟩:=by kernel_rfl
def J6:AC:=(sr_ [bf_ 0] (sr_ [m_ 7 [k_ (.int .i64 97),k_ (.int .i64 97)] (.build [(.int .i64 0),(.int .i64 0)] [(0,1),(1,1)] [0,1]),o1 8 7 (.bslice 2 1 (.agg [(.int .i64 0),(.int .i64 0)]) [0]),o1 9 8 (.bslice 1 1 .nilS [0]),v_ 1 9] (sr_ [c1 10 (.int .i64 1) (.build [(.int .i64 0),.nilS,.nilS] [(0,1),(1,1),(2,1)] [0]),o1 11 10 (.bslice 3 1 (.agg [(.int .i64 0),.nilS,.nilS]) [0]),m_ 12 [k_ (.int .i64 21),k_ (.int .i64 120)] (.build [(.int .i64 0),(.int .i64 0),(.int .i64 0),(.int .i64 0),(.int .i64 0),.nilS] [(0,1),(1,1),(2,1),(3,1),(4,1),(5,1)] [2,4]),o1 13 12 (.bslice 6 1 (.agg [(.int .i64 0),(.int .i64 0),(.int .i64 0),(.int .i64 0),(.int .i64 0),.nilS]) [0]),m_ 14 [k_ (.int .i64 1),s_ 13] (.build [(.int .i64 0),(.int .i64 0),.nilS,(.int .i64 0),.nilS] [(0,1),(1,1),(2,1),(3,1),(4,1)] [1,4]),v_ 15 1,m_ 16 [k_ (.int .i64 21),k_ (.int .i64 121)] (.build [(.int .i64 0),(.int .i64 0),(.int .i64 0),(.int .i64 0),(.int .i64 0),.nilS] [(0,1),(1,1),(2,1),(3,1),(4,1),(5,1)] [2,4]),o1 17 16 (.bslice 6 1 (.agg [(.int .i64 0),(.int .i64 0),(.int .i64 0),(.int .i64 0),(.int .i64 0),.nilS]) [0]),m_ 18 [k_ (.int .i64 1),k_ (.int .i64 1),s_ 15,k_ (.int .i64 1),s_ 17] (.build [(.int .i64 0),(.int .i64 0),.nilS,(.int .i64 0),.nilS] [(0,1),(1,1),(2,1),(3,1),(4,1)] [0,1,2,3,4]),o2 19 14 18 (.bslice 5 2 (.agg [(.int .i64 0),(.int .i64 0),.nilS,(.int .i64 0),.nilS]) [0,1]),m_ 20 [k_ (.int .i64 1),k_ (.int .i64 1),k_ (.int .i64 2),s_ 11,s_ 19] (.build [(.int .i64 0),(.int .i64 0),(.int .i64 0),(.int .i64 0),.nilS,.nilS] [(0,1),(1,1),(2,1),(3,1),(4,1),(5,1)] [0,1,2,5,4]),o0 2 (.alloc (.agg [(.int .i64 0),(.int .i64 0),(.int .i64 0),(.int .i64 0),.nilS,.nilS]) 6),n2 2 20 (.store 6)] (sr_ [o1 22 2 l6,k1 23 6 22,v_ 21 23,o1 24 21 (.extract 0),o1 25 21 (.extract 1),o0 3 (.alloc (.agg [(.int .i64 0),(.int .i64 0),(.int .i64 0),(.int .i64 0),.nilS,.nilS]) 6),n2 3 24 (.store 6),v_ 4 25] (sr_ [o1 27 2 l6,k1 28 7 27,v_ 26 28,o1 29 26 (.extract 0),o1 30 26 (.extract 1),v_ 5 29,v_ 6 30] (sr_ [v_ 31 4,c2 32 31 (.int .i64 0) beq_,v_ 33 32,g1 34 33 6 .mv,g_ 35 33 true [s_ 34,k_ (.int .i64 0)] beq_,m_ 36 [s_ 33,s_ 35,k_ (.bool false)] .pick,v_ 37 36,g1 38 37 5 .mv,g_ 39 37 true [s_ 38,k_ (.int .i64 3)] beq_,m_ 40 [s_ 37,s_ 39,k_ (.bool false)] .pick,v_ 41 40,g1 42 41 3 f4_,g1 43 41 42 ld,g1 44 41 43 ln,g_ 45 41 true [s_ 44,k_ (.int .i64 2)] beq_,m_ 46 [s_ 41,s_ 45,k_ (.bool false)] .pick,v_ 47 46,g1 48 47 3 f4_,g1 49 47 48 ld,g_ 50 47 true [s_ 49,k_ (.int .i64 0)] a5_,g1 51 47 50 f4_,g1 52 47 51 ld,g1 53 47 52 ln,g_ 54 47 true [s_ 53,k_ (.int .i64 2)] beq_,m_ 55 [s_ 47,s_ 54,k_ (.bool false)] .pick,v_ 56 55,g1 57 56 3 f4_,g1 58 56 57 ld,g_ 59 56 true [s_ 58,k_ (.int .i64 0)] a5_,g1 60 56 59 f4_,g1 61 56 60 ld,g_ 62 56 true [s_ 61,k_ (.int .i64 1)] a6_,g1 63 56 62 f4_,g1 64 56 63 ld,g_ 65 56 true [s_ 64,k_ (.int .i64 121)] beq_,m_ 66 [s_ 56,s_ 65,k_ (.bool false)] .pick,v_ 67 66,g1 68 67 3 f5_,g1 69 67 68 ld,g1 70 67 69 ln,g_ 71 67 true [s_ 70,k_ (.int .i64 2)] beq_,m_ 72 [s_ 67,s_ 71,k_ (.bool false)] .pick,v_ 0 72] .ret))))))
theorem R8:Ax Try.prog 5 0=some ⟨73,0,[(.slot 0)],J6⟩:=by kernel_rfl
def Em:AC:=(sr_ [o1 1 0 .box,o0 2 (.alloc (.agg [(.int .i64 0),(.int .i64 0),(.int .i64 0),(.int .i64 0),.nilS,.nilS]) 6),z_ 3] (sr_ [o1 18 1 l6,k1 19 10 18,v_ 17 19,o1 20 17 (.extract 0),o1 21 17 (.extract 1),v_ 4 20,v_ 5 21] (.seq (sr_ [v_ 22 5,c2 23 22 (.int .i64 0) bne_] (i_ 23 (sr_ [o0 24 (.build [(.int .i64 0),(.int .i64 0),(.int .i64 0),(.int .i64 0),.nilS,.nilS] [(0,1),(1,1),(2,1),(3,1),(4,1),(5,1)] []),v_ 25 5,n2 2 24 (.store 6),v_ 3 25] .ret) .skip)) (sr_ [o1 26 1 f2_,o1 27 26 ld,o1 28 1 f4_,o1 29 28 ld,m_ 30 [k_ (.fn 11 []),s_ 27,s_ 29,k_ (.fn 12 [])] .call,v_ 6 30] (sr_ [o1 31 1 f2_,o1 32 31 ld,o1 33 1 f5_,o1 34 33 ld,m_ 35 [k_ (.fn 13 []),s_ 32,s_ 34,k_ (.fn 14 [])] .call,v_ 7 35] (sr_ [o1 36 1 f0_,o1 37 36 ld,o1 38 1 f1_,o1 39 38 ld,o1 40 1 f2_,o1 41 40 ld,o1 42 1 f3_,o1 43 42 ld,m_ 44 [s_ 37,s_ 39,s_ 41,s_ 43] (.build [(.int .i64 0),(.int .i64 0),(.int .i64 0),(.int .i64 0),.nilS,.nilS] [(0,1),(1,1),(2,1),(3,1),(4,1),(5,1)] [0,1,2,3]),o0 8 (.alloc (.agg [(.int .i64 0),(.int .i64 0),(.int .i64 0),(.int .i64 0),.nilS,.nilS]) 6),n2 8 44 (.store 6)] (.seq (sr_ [v_ 45 4,o1 46 45 ln,z_ 47] (.block 0 (.loop (sr_ [o2 48 47 46 bls_] (.seq (ex_ 48 0) (.seq (.block 1 (sr_ [v_ 49 47,o2 50 45 47 a1_,o1 51 50 ld,v_ 9 49,v_ 10 51] (sr_ [v_ 52 10,o1 53 52 ln,z_ 54] (.block 2 (.loop (sr_ [o2 55 54 53 bls_] (.seq (ex_ 55 2) (.seq (.block 3 (sr_ [o2 56 52 54 a2_,o1 57 56 (.load true 2),o0 12 (.alloc (.agg [(.int .i64 0),.nilS]) 2),n2 12 57 (.store 2)] (.seq (sr_ [v_ 58 6,o1 59 12 f0_,o1 60 59 ld,o2 61 58 60 a1_,o1 62 61 ld,o1 63 62 ln,z_ 64] (.block 4 (.loop (sr_ [o2 65 64 63 bls_] (.seq (ex_ 65 4) (.seq (.block 5 (sr_ [o2 66 62 64 a5_,o1 67 66 (.load true 5),o0 14 (.alloc (.agg [(.int .i64 0),(.int .i64 0),.nilS,(.int .i64 0),.nilS]) 5),n2 14 67 (.store 5)] (.dtl [o1 68 8 f4_,o1 69 68 ld,v_ 70 9,o1 71 14 f1_,o1 72 71 ld,o1 73 14 f2_,o1 74 73 ld,k1 75 15 74,o1 76 14 f3_,o1 77 76 ld,o1 78 12 (.load true 2),o1 79 14 f4_,o1 80 79 ld,k2 81 16 78 80,m_ 82 [s_ 70,s_ 72,s_ 75,s_ 77,s_ 81] (.build [(.int .i64 0),(.int .i64 0),.nilS,(.int .i64 0),.nilS] [(0,1),(1,1),(2,1),(3,1),(4,1)] [0,1,2,3,4]),o1 83 82 (.bslice 5 1 (.agg [(.int .i64 0),(.int .i64 0),.nilS,(.int .i64 0),.nilS]) [0])] [o2 84 69 83 (.app 5 72 (.agg [(.int .i64 0),(.int .i64 0),.nilS,(.int .i64 0),.nilS])),o1 85 8 f4_,n2 85 84 st]))) (.reg [i1_ 86 64,v_ 64 86]))))))) (.seq (sr_ [v_ 87 7,o1 88 12 f0_,o1 89 88 ld,o2 90 87 89 a1_,o1 91 90 ld,o1 92 91 ln,z_ 93] (.block 6 (.loop (sr_ [o2 94 93 92 bls_] (.seq (ex_ 94 6) (.seq (.block 7 (sr_ [o2 95 91 93 a3_,o1 96 95 (.load true 3),o0 16 (.alloc (.agg [(.int .i64 0),.nilS,.nilS]) 3),n2 16 96 (.store 3)] (.dtl [o1 97 8 f5_,o1 98 97 ld,v_ 99 9,o1 100 16 f1_,o1 101 100 ld,k1 102 15 101,o1 103 12 (.load true 2),o1 104 16 f2_,o1 105 104 ld,k2 106 16 103 105,o3 107 99 102 106 (.build [(.int .i64 0),.nilS,.nilS] [(0,1),(1,1),(2,1)] [0,1,2]),o1 108 107 (.bslice 3 1 (.agg [(.int .i64 0),.nilS,.nilS]) [0])] [o2 109 98 108 (.app 3 56 (.agg [(.int .i64 0),.nilS,.nilS])),o1 110 8 f5_,n2 110 109 st]))) (.reg [i1_ 111 93,v_ 93 111]))))))) (sr_ [o1 112 8 f4_,o1 113 112 ld,o1 114 113 ln,c2 115 114 (.int .i64 4096) bgt_,v_ 116 115,g_ 117 116 false [s_ 8] f5_,g_ 118 116 false [s_ 117] ld,g_ 119 116 false [s_ 118] ln,g_ 120 116 false [s_ 119,k_ (.int .i64 4096)] bgt_,m_ 121 [s_ 116,k_ (.bool true),s_ 120] .pick] (i_ 121 (sr_ [o0 122 (.build [(.int .i64 0),(.int .i64 0),(.int .i64 0),(.int .i64 0),.nilS,.nilS] [(0,1),(1,1),(2,1),(3,1),(4,1),(5,1)] []),n2 2 122 (.store 6),c1 3 (.int .i64 4) .mv] .ret) .skip)))))) (.reg [i1_ 123 54,v_ 54 123]))))))))) (.reg [i1_ 124 47,v_ 47 124]))))))) (.seq (sr_ [o1 125 8 l6,k1 126 17 125,c2 127 126 (.int .i64 64) bgt_] (i_ 127 (sr_ [o0 128 (.build [(.int .i64 0),(.int .i64 0),(.int .i64 0),(.int .i64 0),.nilS,.nilS] [(0,1),(1,1),(2,1),(3,1),(4,1),(5,1)] []),n2 2 128 (.store 6),c1 3 (.int .i64 4) .mv] .ret) .skip)) (sr_ [o1 129 8 l6,n2 2 129 (.store 6),z_ 3] .ret)))))))))
theorem F2:Ax Try.prog 6 1=some ⟨130,1,[(.cell 2 true 6),(.slot 3)],Em⟩:=by kernel_rfl
def I6:AC:=(sr_ [o1 1 0 .box,z_ 2,z_ 3] (sr_ [o1 10 1 l6,k1 11 10 10,v_ 9 11,o1 12 9 (.extract 0),o1 13 9 (.extract 1),v_ 4 12,v_ 5 13] (sr_ [z_ 6] (.seq (sr_ [v_ 14 4,o1 15 14 ln,z_ 16] (.block 0 (.loop (sr_ [o2 17 16 15 bls_] (.seq (ex_ 17 0) (.seq (.block 1 (sr_ [o2 18 14 16 a1_,o1 19 18 ld,v_ 8 19] (.reg [v_ 20 6,v_ 21 8,o1 22 21 ln,o2 23 20 22 bad_,v_ 6 23]))) (.reg [i1_ 24 16,v_ 16 24]))))))) (sr_ [v_ 25 6,v_ 26 5,v_ 2 25,v_ 3 26] .ret)))))
theorem Ph:Ax Try.prog 7 1=some ⟨27,1,[(.slot 2),(.slot 3)],I6⟩:=by kernel_rfl
def Lf:AC:=(sr_ [o1 2 0 .box,o1 3 1 .box,bf_ 4] (.seq (sr_ [o1 9 2 f0_,o1 10 9 ld,o1 11 3 f0_,o1 12 11 ld,o2 13 10 12 bne_,v_ 14 13,g_ 15 14 false [s_ 2] f1_,g_ 16 14 false [s_ 15] ld,g_ 17 14 false [s_ 3] f1_,g_ 18 14 false [s_ 17] ld,g_ 19 14 false [s_ 16,s_ 18] bne_,m_ 20 [s_ 14,k_ (.bool true),s_ 19] .pick,v_ 21 20,g_ 22 21 false [s_ 2] f2_,g_ 23 21 false [s_ 22] ld,g_ 24 21 false [s_ 3] f2_,g_ 25 21 false [s_ 24] ld,g_ 26 21 false [s_ 23,s_ 25] bne_,m_ 27 [s_ 21,k_ (.bool true),s_ 26] .pick,v_ 28 27,g_ 29 28 false [s_ 2] f3_,g_ 30 28 false [s_ 29] ld,g_ 31 28 false [s_ 3] f3_,g_ 32 28 false [s_ 31] ld,g_ 33 28 false [s_ 30,s_ 32] bne_,m_ 34 [s_ 28,k_ (.bool true),s_ 33] .pick,v_ 35 34,g_ 36 35 false [s_ 2] f4_,g_ 37 35 false [s_ 36] ld,g_ 38 35 false [s_ 37] ln,g_ 39 35 false [s_ 3] f4_,g_ 40 35 false [s_ 39] ld,g_ 41 35 false [s_ 40] ln,g_ 42 35 false [s_ 38,s_ 41] bne_,m_ 43 [s_ 35,k_ (.bool true),s_ 42] .pick,v_ 44 43,g_ 45 44 false [s_ 2] f5_,g_ 46 44 false [s_ 45] ld,g_ 47 44 false [s_ 46] ln,g_ 48 44 false [s_ 3] f5_,g_ 49 44 false [s_ 48] ld,g_ 50 44 false [s_ 49] ln,g_ 51 44 false [s_ 47,s_ 50] bne_,m_ 52 [s_ 44,k_ (.bool true),s_ 51] .pick] (i_ 52 (sr_ [bf_ 4] .ret) .skip)) (.seq (sr_ [z_ 5] (.block 0 (.loop (.seq (sr_ [v_ 53 5,o1 54 2 f4_,o1 55 54 ld,o1 56 55 ln,o2 57 53 56 bls_] (ex_ 57 0)) (.seq (.block 1 (.seq (.dtl [o1 60 2 f4_,o1 61 60 ld,v_ 62 5,o2 63 61 62 a5_,o1 64 63 (.load true 5),o1 65 3 f4_,o1 66 65 ld,v_ 67 5,o2 68 66 67 a5_,o1 69 68 (.load true 5)] [k2 70 18 64 69,o1 71 70 nt]) (i_ 71 (sr_ [bf_ 4] .ret) .skip))) (.reg [v_ 58 5,i1_ 59 58,v_ 5 59])))))) (.seq (sr_ [z_ 6] (.block 2 (.loop (.seq (sr_ [v_ 72 6,o1 73 2 f5_,o1 74 73 ld,o1 75 74 ln,o2 76 72 75 bls_] (ex_ 76 2)) (.seq (.block 3 (.seq (.gry [true,true,true,true,true,true,true,true,true,true,false,false,false,false] [m_ 79 [s_ 2] f5_,m_ 80 [s_ 79] ld,m_ 81 [s_ 6] .mv,m_ 82 [s_ 80,s_ 81] a3_,m_ 83 [s_ 82] (.load true 3),m_ 84 [s_ 3] f5_,m_ 85 [s_ 84] ld,m_ 86 [s_ 6] .mv,m_ 87 [s_ 85,s_ 86] a3_,m_ 88 [s_ 87] (.load true 3),m_ 7 [] (.alloc (.agg [(.int .i64 0),.nilS,.nilS]) 3),m_ 8 [] (.alloc (.agg [(.int .i64 0),.nilS,.nilS]) 3),h_ [s_ 7,s_ 83] (.store 3),h_ [s_ 8,s_ 88] (.store 3)]) (sr_ [o1 89 7 f0_,o1 90 89 ld,o1 91 8 f0_,o1 92 91 ld,o2 93 90 92 bne_,v_ 94 93,g_ 95 94 false [s_ 7] f1_,g_ 96 94 false [s_ 95] ld,g_ 97 94 false [s_ 8] f1_,g_ 98 94 false [s_ 97] ld,g_ 99 94 false [k_ (.fn 19 []),s_ 96,s_ 98] .call,g_ 100 94 false [s_ 99] nt,m_ 101 [s_ 94,k_ (.bool true),s_ 100] .pick,v_ 102 101,g_ 103 102 false [s_ 7] f2_,g_ 104 102 false [s_ 103] ld,g_ 105 102 false [s_ 8] f2_,g_ 106 102 false [s_ 105] ld,g_ 107 102 false [k_ (.fn 20 []),s_ 104,s_ 106] .call,g_ 108 102 false [s_ 107] nt,m_ 109 [s_ 102,k_ (.bool true),s_ 108] .pick] (i_ 109 (sr_ [bf_ 4] .ret) .skip)))) (.reg [v_ 77 6,i1_ 78 77,v_ 6 78])))))) (sr_ [bt_ 4] .ret)))))
theorem Up:Ax Try.prog 8 2=some ⟨110,2,[(.slot 4)],Lf⟩:=by kernel_rfl
def Lg:AC:=(sr_ [z_ 4] (.seq (sr_ [v_ 8 0,o1 9 8 ln,c2 10 9 (.int .i64 100) bgt_,v_ 11 10,g_ 12 11 false [s_ 1] .mv,g_ 13 11 false [s_ 12] ln,g_ 14 11 false [s_ 13,k_ (.int .i64 200)] bgt_,m_ 15 [s_ 11,k_ (.bool true),s_ 14] .pick] (i_ 15 (sr_ [c1 4 (.int .i64 4000) .mv] .ret) .skip)) (sr_ [c1 5 (.int .i64 1) .mv] (.seq (sr_ [z_ 6] (.block 0 (.loop (.seq (sr_ [v_ 16 6,v_ 17 0,o1 18 17 ln,o2 19 16 18 bls_] (ex_ 19 0)) (.seq (.block 1 (.reg [v_ 22 5,v_ 23 0,v_ 24 6,o2 25 23 24 a1_,o1 26 25 ld,o1 27 26 ln,c2 28 27 (.int .i64 4000) .min,o2 29 22 28 bad_,v_ 5 29])) (.reg [v_ 20 6,i1_ 21 20,v_ 6 21])))))) (.seq (sr_ [z_ 7] (.block 2 (.loop (.seq (sr_ [v_ 30 7,v_ 31 1,o1 32 31 ln,o2 33 30 32 bls_] (ex_ 33 2)) (.seq (.block 3 (.reg [v_ 36 5,i1_ 37 36,v_ 38 1,v_ 39 7,o2 40 38 39 a6_,o1 41 40 f5_,o1 42 41 ld,o1 43 42 ln,c2 44 43 (.int .i64 4000) .min,o2 45 37 44 bad_,v_ 5 45])) (.reg [v_ 34 7,i1_ 35 34,v_ 7 35])))))) (sr_ [v_ 46 5,v_ 4 46] .ret))))))
theorem Uq:Ax Try.prog 9 2=some ⟨47,2,[(.slot 4)],Lg⟩:=by kernel_rfl
def F3:AC:=(sr_ [o1 1 0 .box,ns_ 2,z_ 3] (.seq (sr_ [o1 8 1 l6,k1 9 21 8,c2 10 9 (.int .i64 0) bne_] (i_ 10 (sr_ [ns_ 2,c1 3 (.int .i64 2) .mv] .ret) .skip)) (.seq (.gry [true,true,true,false,true,true,false,false,false,false] [m_ 11 [s_ 1] l6,m_ 12 [s_ 1] f2_,m_ 13 [s_ 12] ld,m_ 14 [s_ 13,s_ 13] (.mkSlice 1 24 .nilS),m_ 15 [s_ 1] f2_,m_ 16 [s_ 15] ld,m_ 17 [s_ 16,s_ 16] (.mkSlice 1 24 .nilS),m_ 18 [s_ 11,s_ 14,s_ 17,k_ (.int .i64 4096)] (.build [(.int .i64 0),(.int .i64 0),(.int .i64 0),(.int .i64 0),.nilS,.nilS,.nilS,.nilS,(.int .i64 0)] [(0,6),(6,1),(7,1),(8,1)] [0,1,2,3]),m_ 19 [s_ 18] .box,m_ 4 [s_ 19] .mv]) (.seq (sr_ [o1 20 1 f4_,o1 21 20 ld,o1 22 21 ln,z_ 23] (.block 0 (.loop (sr_ [o2 24 23 22 bls_] (.seq (ex_ 24 0) (.seq (.block 1 (sr_ [v_ 25 23,o2 26 21 23 a5_,o1 27 26 (.load true 5),o0 6 (.alloc (.agg [(.int .i64 0),(.int .i64 0),.nilS,(.int .i64 0),.nilS]) 5),v_ 5 25,n2 6 27 (.store 5)] (sr_ [o1 28 6 f2_,o1 29 28 ld,o1 30 29 ln,c2 31 30 (.int .i64 0) beq_] (i_ 31 (.grx [false,false,true,true,true,true,false,false,true,true,true,true,true,false,false,false,false,false,false] [m_ 32 [s_ 4] .mv,m_ 33 [s_ 32] .nilCheck,m_ 34 [s_ 33] (.faddr false 6 1),m_ 35 [s_ 34] ld,m_ 36 [s_ 6] f0_,m_ 37 [s_ 36] ld,m_ 38 [s_ 4] .mv,m_ 39 [s_ 38] .nilCheck,m_ 40 [s_ 39] (.faddr false 6 1),m_ 41 [s_ 40] ld,m_ 42 [s_ 6] f0_,m_ 43 [s_ 42] ld,m_ 44 [s_ 41,s_ 43] a1_,m_ 45 [s_ 44] ld,m_ 46 [s_ 5] .mv,m_ 47 [s_ 46] (.bslice 1 1 (.int .i64 0) [0]),m_ 48 [s_ 45,s_ 47] (.app 1 8 (.int .i64 0)),m_ 49 [s_ 35,s_ 37] a1_,h_ [s_ 49,s_ 48] st]) .skip)))) (.reg [i1_ 50 23,v_ 23 50]))))))) (.seq (sr_ [o1 51 1 f2_,o1 52 51 ld,z_ 53] (.block 2 (.loop (sr_ [o2 54 53 52 bls_] (.seq (ex_ 54 2) (.seq (.block 3 (sr_ [v_ 55 53,v_ 7 55] (sr_ [v_ 56 4,v_ 57 7,v_ 58 7,m_ 59 [k_ (.fn 22 []),s_ 56,s_ 57,s_ 58,k_ .nilS] .call,o1 60 59 nt] (i_ 60 (sr_ [ns_ 2,c1 3 (.int .i64 4) .mv] .ret) .skip)))) (.reg [i1_ 61 53,v_ 53 61]))))))) (sr_ [v_ 62 4,o1 63 62 .nilCheck,o1 64 63 (.faddr false 7 1),o1 65 64 ld,v_ 2 65,z_ 3] .ret))))))
theorem I7:Ax Try.prog 10 1=some ⟨66,1,[(.slot 2),(.slot 3)],F3⟩:=by kernel_rfl
def Dw:AC:=(sr_ [ns_ 6] (sr_ [v_ 12 0,o2 13 12 12 (.mkSlice 1 24 .nilS),v_ 7 13] (.seq (sr_ [v_ 14 1,o1 15 14 ln,z_ 16] (.block 0 (.loop (sr_ [o2 17 16 15 bls_] (.seq (ex_ 17 0) (.seq (.block 1 (sr_ [o2 18 14 16 a5_,o1 19 18 (.load true 5),o0 9 (.alloc (.agg [(.int .i64 0),(.int .i64 0),.nilS,(.int .i64 0),.nilS]) 5),n2 9 19 (.store 5)] (sr_ [v_ 21 2,o1 22 9 (.load true 5),o2 23 21 22 .call,v_ 20 23,o1 24 20 (.extract 0),o1 25 20 (.extract 1),v_ 10 24,v_ 11 25] (sr_ [v_ 26 11] (i_ 26 (.grx [false,false,false,false,true,false,true,false,false,false,false] [m_ 27 [s_ 7] .mv,m_ 28 [s_ 10] .mv,m_ 29 [s_ 7] .mv,m_ 30 [s_ 10] .mv,m_ 31 [s_ 29,s_ 30] a1_,m_ 32 [s_ 31] ld,m_ 33 [s_ 9] (.load true 5),m_ 34 [s_ 33] (.bslice 5 1 (.agg [(.int .i64 0),(.int .i64 0),.nilS,(.int .i64 0),.nilS]) [0]),m_ 35 [s_ 32,s_ 34] (.app 5 72 (.agg [(.int .i64 0),(.int .i64 0),.nilS,(.int .i64 0),.nilS])),m_ 36 [s_ 27,s_ 28] a1_,h_ [s_ 36,s_ 35] st]) .skip))))) (.reg [i1_ 37 16,v_ 16 37]))))))) (sr_ [v_ 38 7,v_ 6 38] .ret))))
theorem Fo:Ax Try.prog 11 3=some ⟨39,3,[(.slot 6)],Dw⟩:=by kernel_rfl
def G4:AC:=(sr_ [o1 1 0 .box,z_ 2,bf_ 3] (.seq (.dreg [o1 4 1 f0_,o1 5 4 ld,o1 6 1 f2_,o1 7 6 ld,o1 8 7 ln,c2 9 8 (.int .i64 0) bgt_,v_ 2 5,v_ 3 9]) .ret))
theorem L9:Ax Try.prog 12 1=some ⟨10,1,[(.slot 2),(.slot 3)],G4⟩:=by kernel_rfl
def Dl:AC:=(sr_ [ns_ 6] (sr_ [v_ 12 0,o2 13 12 12 (.mkSlice 1 24 .nilS),v_ 7 13] (.seq (sr_ [v_ 14 1,o1 15 14 ln,z_ 16] (.block 0 (.loop (sr_ [o2 17 16 15 bls_] (.seq (ex_ 17 0) (.seq (.block 1 (sr_ [o2 18 14 16 a3_,o1 19 18 (.load true 3),o0 9 (.alloc (.agg [(.int .i64 0),.nilS,.nilS]) 3),n2 9 19 (.store 3)] (sr_ [v_ 21 2,o1 22 9 (.load true 3),o2 23 21 22 .call,v_ 20 23,o1 24 20 (.extract 0),o1 25 20 (.extract 1),v_ 10 24,v_ 11 25] (sr_ [v_ 26 11] (i_ 26 (.grx [false,false,false,false,true,false,true,false,false,false,false] [m_ 27 [s_ 7] .mv,m_ 28 [s_ 10] .mv,m_ 29 [s_ 7] .mv,m_ 30 [s_ 10] .mv,m_ 31 [s_ 29,s_ 30] a1_,m_ 32 [s_ 31] ld,m_ 33 [s_ 9] (.load true 3),m_ 34 [s_ 33] (.bslice 3 1 (.agg [(.int .i64 0),.nilS,.nilS]) [0]),m_ 35 [s_ 32,s_ 34] (.app 3 56 (.agg [(.int .i64 0),.nilS,.nilS])),m_ 36 [s_ 27,s_ 28] a1_,h_ [s_ 36,s_ 35] st]) .skip))))) (.reg [i1_ 37 16,v_ 16 37]))))))) (sr_ [v_ 38 7,v_ 6 38] .ret))))
theorem Ff:Ax Try.prog 13 3=some ⟨39,3,[(.slot 6)],Dl⟩:=by kernel_rfl
def G5:AC:=(sr_ [o1 1 0 .box,z_ 2,bf_ 3] (sr_ [o1 4 1 f0_,o1 5 4 ld,v_ 2 5,bt_ 3] .ret))
theorem Ma:Ax Try.prog 14 1=some ⟨6,1,[(.slot 2),(.slot 3)],G5⟩:=by kernel_rfl
def G6:AC:=(sr_ [ns_ 2] (sr_ [ns_ 3] (.seq (sr_ [v_ 6 0,o1 7 6 ln,z_ 8] (.block 0 (.loop (sr_ [o2 9 8 7 bls_] (.seq (ex_ 9 0) (.seq (.block 1 (sr_ [o2 10 6 8 a1_,o1 11 10 ld,v_ 5 11] (.reg [v_ 12 3,v_ 13 5,k1 14 23 13,o1 15 14 (.bslice 1 1 .nilS [0]),o2 16 12 15 (.app 1 24 .nilS),v_ 3 16]))) (.reg [i1_ 17 8,v_ 8 17]))))))) (sr_ [v_ 18 3,v_ 2 18] .ret))))
theorem Mb:Ax Try.prog 15 1=some ⟨19,1,[(.slot 2)],G6⟩:=by kernel_rfl
def G7:AC:=(sr_ [o1 2 0 .box,ns_ 4] (sr_ [ns_ 5] (.seq (sr_ [o1 8 2 f1_,o1 9 8 ld,v_ 10 1,o2 11 9 10 (.bslice 1 2 .nilS [0,1]),k1 12 24 11,o1 13 12 ln,z_ 14] (.block 0 (.loop (sr_ [o2 15 14 13 bls_] (.seq (ex_ 15 0) (.seq (.block 1 (sr_ [o2 16 12 14 a6_,o1 17 16 l6,o0 7 (.alloc (.agg [(.int .i64 0),(.int .i64 0),(.int .i64 0),(.int .i64 0),(.int .i64 0),.nilS]) 6),n2 7 17 (.store 6)] (sr_ [o1 18 7 f5_,o1 19 18 ld,k1 20 25 19,o1 21 7 f5_,n2 21 20 st] (.reg [v_ 22 5,o1 23 7 l6,o1 24 23 (.bslice 6 1 (.agg [(.int .i64 0),(.int .i64 0),(.int .i64 0),(.int .i64 0),(.int .i64 0),.nilS]) [0]),o2 25 22 24 (.app 6 64 (.agg [(.int .i64 0),(.int .i64 0),(.int .i64 0),(.int .i64 0),(.int .i64 0),.nilS])),v_ 5 25])))) (.reg [i1_ 26 14,v_ 14 26]))))))) (sr_ [v_ 27 5,v_ 4 27] .ret))))
theorem Mc:Ax Try.prog 16 2=some ⟨28,2,[(.slot 4)],G7⟩:=by kernel_rfl
def I8:AC:=(sr_ [o1 1 0 .box,z_ 2] (sr_ [z_ 3] (.seq (sr_ [o1 8 1 f4_,o1 9 8 ld,o1 10 9 ln,z_ 11] (.block 0 (.loop (sr_ [o2 12 11 10 bls_] (.seq (ex_ 12 0) (.seq (.block 1 (sr_ [o2 13 9 11 a5_,o1 14 13 (.load true 5),o0 5 (.alloc (.agg [(.int .i64 0),(.int .i64 0),.nilS,(.int .i64 0),.nilS]) 5),n2 5 14 (.store 5)] (.reg [v_ 15 3,o1 16 5 f4_,o1 17 16 ld,o1 18 17 ln,o2 19 15 18 .max,v_ 3 19]))) (.reg [i1_ 20 11,v_ 11 20]))))))) (.seq (sr_ [o1 21 1 f5_,o1 22 21 ld,o1 23 22 ln,z_ 24] (.block 2 (.loop (sr_ [o2 25 24 23 bls_] (.seq (ex_ 25 2) (.seq (.block 3 (sr_ [o2 26 22 24 a3_,o1 27 26 (.load true 3),o0 7 (.alloc (.agg [(.int .i64 0),.nilS,.nilS]) 3),n2 7 27 (.store 3)] (.reg [v_ 28 3,o1 29 7 f2_,o1 30 29 ld,o1 31 30 ln,o2 32 28 31 .max,v_ 3 32]))) (.reg [i1_ 33 24,v_ 24 33]))))))) (sr_ [v_ 34 3,v_ 2 34] .ret)))))
theorem Pi:Ax Try.prog 17 1=some ⟨35,1,[(.slot 2)],I8⟩:=by kernel_rfl
def G8:AC:=(sr_ [o1 2 0 .box,o1 3 1 .box,bf_ 4] (sr_ [o1 5 2 f0_,o1 6 5 ld,o1 7 3 f0_,o1 8 7 ld,o2 9 6 8 beq_,v_ 10 9,g1 11 10 2 f1_,g1 12 10 11 ld,g1 13 10 3 f1_,g1 14 10 13 ld,g2 15 10 12 14 beq_,m_ 16 [s_ 10,s_ 15,k_ (.bool false)] .pick,v_ 17 16,g1 18 17 2 f3_,g1 19 17 18 ld,g1 20 17 3 f3_,g1 21 17 20 ld,g2 22 17 19 21 beq_,m_ 23 [s_ 17,s_ 22,k_ (.bool false)] .pick,v_ 24 23,g1 25 24 2 f2_,g1 26 24 25 ld,g1 27 24 3 f2_,g1 28 24 27 ld,g_ 29 24 true [k_ (.fn 19 []),s_ 26,s_ 28] .call,m_ 30 [s_ 24,s_ 29,k_ (.bool false)] .pick,v_ 31 30,g1 32 31 2 f4_,g1 33 31 32 ld,g1 34 31 3 f4_,g1 35 31 34 ld,g_ 36 31 true [k_ (.fn 20 []),s_ 33,s_ 35] .call,m_ 37 [s_ 31,s_ 36,k_ (.bool false)] .pick,v_ 4 37] .ret))
theorem Md:Ax Try.prog 18 2=some ⟨38,2,[(.slot 4)],G8⟩:=by kernel_rfl
def G9:AC:=(sr_ [bf_ 4] (.seq (sr_ [v_ 6 0,o1 7 6 ln,v_ 8 1,o1 9 8 ln,o2 10 7 9 bne_] (i_ 10 (sr_ [bf_ 4] .ret) .skip)) (.seq (sr_ [z_ 5] (.block 0 (.loop (.seq (sr_ [v_ 11 5,v_ 12 0,o1 13 12 ln,o2 14 11 13 bls_] (ex_ 14 0)) (.seq (.block 1 (.seq (.dtl [v_ 17 0,v_ 18 5,o2 19 17 18 a1_,o1 20 19 ld,v_ 21 1,v_ 22 5,o2 23 21 22 a1_,o1 24 23 ld] [k2 25 26 20 24,o1 26 25 nt]) (i_ 26 (sr_ [bf_ 4] .ret) .skip))) (.reg [v_ 15 5,i1_ 16 15,v_ 5 16])))))) (sr_ [bt_ 4] .ret))))
theorem Me:Ax Try.prog 19 2=some ⟨27,2,[(.slot 4)],G9⟩:=by kernel_rfl
def F9:AC:=(sr_ [bf_ 4] (.seq (sr_ [v_ 6 0,o1 7 6 ln,v_ 8 1,o1 9 8 ln,o2 10 7 9 bne_] (i_ 10 (sr_ [bf_ 4] .ret) .skip)) (.seq (sr_ [z_ 5] (.block 0 (.loop (.seq (sr_ [v_ 11 5,v_ 12 0,o1 13 12 ln,o2 14 11 13 bls_] (ex_ 14 0)) (.seq (.block 1 (.seq (.dtl [v_ 17 0,v_ 18 5,o2 19 17 18 a6_,o1 20 19 l6,v_ 21 1,v_ 22 5,o2 23 21 22 a6_,o1 24 23 l6] [k2 25 27 20 24,o1 26 25 nt]) (i_ 26 (sr_ [bf_ 4] .ret) .skip))) (.reg [v_ 15 5,i1_ 16 15,v_ 5 16])))))) (sr_ [bt_ 4] .ret))))
theorem Kv:Ax Try.prog 20 2=some ⟨27,2,[(.slot 4)],F9⟩:=by kernel_rfl
def Lh:AC:=(sr_ [o1 1 0 .box,z_ 2] (.seq (sr_ [o1 6 1 l6,k1 7 28 6,v_ 5 7,o1 8 5 (.extract 0),o1 9 5 (.extract 1),v_ 3 8,v_ 4 9] (sr_ [v_ 10 3,c2 11 10 (.int .i64 0) bne_] (i_ 11 (sr_ [c1 2 (.int .i64 2) .mv] .ret) .skip))) (sr_ [z_ 2] .ret)))
theorem Ur:Ax Try.prog 21 1=some ⟨12,1,[(.slot 2)],Lh⟩:=by kernel_rfl
def Eq:AC:=(sr_ [bf_ 8] (.seq (sr_ [v_ 12 0,o1 13 12 .nilCheck,o1 14 13 (.faddr false 8 1),o1 15 14 ld,c2 16 15 (.int .i64 0) beq_] (i_ 16 (sr_ [bf_ 8] .ret) .skip)) (sr_ [v_ 17 0,o1 18 17 .nilCheck,o1 19 18 (.faddr false 8 1),o1 20 19 ld,c2 21 20 (.int .i64 1) bsu_,o1 22 17 .nilCheck,o1 23 22 (.faddr false 8 1),n2 23 21 st] (.seq (.grx [false,false,true,true,false,false,false,true,true,false,true,false,false,false,false,false,false,false,false] [m_ 24 [s_ 0] .mv,m_ 25 [s_ 24] .nilCheck,m_ 26 [s_ 25] (.faddr false 7 1),m_ 27 [s_ 26] ld,m_ 28 [s_ 1] .mv,m_ 29 [s_ 0] .mv,m_ 30 [s_ 29] .nilCheck,m_ 31 [s_ 30] (.faddr false 7 1),m_ 32 [s_ 31] ld,m_ 33 [s_ 1] .mv,m_ 34 [s_ 32,s_ 33] a1_,m_ 35 [s_ 34] ld,m_ 36 [s_ 2] .mv,m_ 37 [s_ 3] .mv,m_ 38 [s_ 36,s_ 37] (.build [(.int .i64 0),.nilS] [(0,1),(1,1)] [0,1]),m_ 39 [s_ 38] (.bslice 2 1 (.agg [(.int .i64 0),.nilS]) [0]),m_ 40 [s_ 35,s_ 39] (.app 2 32 (.agg [(.int .i64 0),.nilS])),m_ 41 [s_ 27,s_ 28] a1_,h_ [s_ 41,s_ 40] st]) (.seq (sr_ [v_ 42 0,o1 43 42 .nilCheck,o1 44 43 (.faddr false 6 1),o1 45 44 ld,v_ 46 2,o2 47 45 46 a1_,o1 48 47 ld,o1 49 48 ln,z_ 50] (.block 0 (.loop (sr_ [o2 51 50 49 bls_] (.seq (ex_ 51 0) (.seq (.block 1 (sr_ [o2 52 48 50 a1_,o1 53 52 ld,v_ 10 53] (sr_ [v_ 54 0,o1 55 54 .nilCheck,o1 56 55 (.faddr true 0 6),o1 57 56 f4_,o1 58 57 ld,v_ 59 10,o2 60 58 59 a5_,o1 61 60 (.load true 5),o0 11 (.alloc (.agg [(.int .i64 0),(.int .i64 0),.nilS,(.int .i64 0),.nilS]) 5),n2 11 61 (.store 5)] (.seq (.dtl [v_ 62 0,v_ 63 1,o1 64 11 f1_,o1 65 64 ld,v_ 66 3,o1 67 11 f4_,o1 68 67 ld,o2 69 66 68 (.bslice 1 2 .nilS [0,1]),k1 70 24 69] [m_ 71 [k_ (.fn 22 []),s_ 62,s_ 63,s_ 65,s_ 70] .call,o1 72 71 nt]) (i_ 72 (sr_ [bf_ 8] .ret) .skip))))) (.reg [i1_ 73 50,v_ 50 73]))))))) (sr_ [bt_ 8] .ret))))))
theorem Hk:Ax Try.prog 22 4=some ⟨74,4,[(.slot 8)],Eq⟩:=by kernel_rfl
def Bs:AC:=(sr_ [ns_ 2] (.seq (sr_ [v_ 3 0,c2 4 3 .nilS (.eqn false)] (i_ 4 (sr_ [ns_ 2] .ret) .skip)) (sr_ [o0 5 (.bslice 2 0 (.agg [(.int .i64 0),(.int .i64 0)]) []),v_ 6 0,o2 7 5 6 (.app 2 16 (.agg [(.int .i64 0),(.int .i64 0)])),v_ 2 7] .ret)))
theorem Cb:Ax Try.prog 23 1=some ⟨8,1,[(.slot 2)],Bs⟩:=by kernel_rfl
def B7:AC:=(sr_ [ns_ 2] (sr_ [z_ 3] (.seq (sr_ [v_ 9 0,o1 10 9 ln,z_ 11] (.block 0 (.loop (sr_ [o2 12 11 10 bls_] (.seq (ex_ 12 0) (.seq (.block 1 (sr_ [o2 13 9 11 a1_,o1 14 13 ld,v_ 5 14] (sr_ [v_ 15 3,v_ 16 5,o1 17 16 ln,o2 18 15 17 bad_,v_ 3 18] (sr_ [v_ 19 3,c2 20 19 (.int .i64 0) bls_] (i_ 20 (.reg [c1 21 (.str [108,101,110,32,111,117,116,32,111,102,32,114,97,110,103,101]) .no,h_ [s_ 21] .no]) .skip))))) (.reg [i1_ 22 11,v_ 11 22]))))))) (sr_ [v_ 23 3,m_ 24 [k_ (.fn 29 []),k_ .nilS,s_ 23] .call,v_ 6 24] (.seq (sr_ [v_ 25 0,o1 26 25 ln,z_ 27] (.block 2 (.loop (sr_ [o2 28 27 26 bls_] (.seq (ex_ 28 2) (.seq (.block 3 (sr_ [o2 29 25 27 a1_,o1 30 29 ld,v_ 8 30] (.reg [v_ 31 6,v_ 32 8,o2 33 31 32 (.app 6 64 (.agg [(.int .i64 0),(.int .i64 0),(.int .i64 0),(.int .i64 0),(.int .i64 0),.nilS])),v_ 6 33]))) (.reg [i1_ 34 27,v_ 27 34]))))))) (sr_ [v_ 35 6,v_ 2 35] .ret))))))
theorem Cx:Ax Try.prog 24 1=some ⟨36,1,[(.slot 2)],B7⟩:=by kernel_rfl
def Bt:AC:=(sr_ [ns_ 2] (.seq (sr_ [v_ 3 0,c2 4 3 .nilS (.eqn false)] (i_ 4 (sr_ [ns_ 2] .ret) .skip)) (sr_ [o0 5 (.bslice 4 0 (.agg [(.int .i64 0),(.int .i64 0),(.int .i64 0),(.int .i64 0)]) []),v_ 6 0,o2 7 5 6 (.app 4 32 (.agg [(.int .i64 0),(.int .i64 0),(.int .i64 0),(.int .i64 0)])),v_ 2 7] .ret)))
theorem Cc:Ax Try.prog 25 1=some ⟨8,1,[(.slot 2)],Bt⟩:=by kernel_rfl
def Li:AC:=(sr_ [bf_ 4] (.seq (sr_ [v_ 6 0,o1 7 6 ln,v_ 8 1,o1 9 8 ln,o2 10 7 9 bne_] (i_ 10 (sr_ [bf_ 4] .ret) .skip)) (.seq (sr_ [z_ 5] (.block 0 (.loop (.seq (sr_ [v_ 11 5,v_ 12 0,o1 13 12 ln,o2 14 11 13 bls_] (ex_ 14 0)) (.seq (.block 1 (.seq (.dreg [v_ 17 0,v_ 18 5,o2 19 17 18 a2_,o1 20 19 (.load true 2),v_ 21 1,v_ 22 5,o2 23 21 22 a2_,o1 24 23 (.load true 2),o2 25 20 24 (.eqs true [1,1])]) (i_ 25 (sr_ [bf_ 4] .ret) .skip))) (.reg [v_ 15 5,i1_ 16 15,v_ 5 16])))))) (sr_ [bt_ 4] .ret))))
theorem Us:Ax Try.prog 26 2=some ⟨26,2,[(.slot 4)],Li⟩:=by kernel_rfl
def Lj:AC:=(sr_ [o1 2 0 .box,o1 3 1 .box,bf_ 4] (.seq (sr_ [o1 6 2 f0_,o1 7 6 ld,o1 8 3 f0_,o1 9 8 ld,o2 10 7 9 bne_,v_ 11 10,g_ 12 11 false [s_ 2] f1_,g_ 13 11 false [s_ 12] ld,g_ 14 11 false [s_ 3] f1_,g_ 15 11 false [s_ 14] ld,g_ 16 11 false [s_ 13,s_ 15] bne_,m_ 17 [s_ 11,k_ (.bool true),s_ 16] .pick,v_ 18 17,g_ 19 18 false [s_ 2] f2_,g_ 20 18 false [s_ 19] ld,g_ 21 18 false [s_ 3] f2_,g_ 22 18 false [s_ 21] ld,g_ 23 18 false [s_ 20,s_ 22] bne_,m_ 24 [s_ 18,k_ (.bool true),s_ 23] .pick,v_ 25 24,g_ 26 25 false [s_ 2] f3_,g_ 27 25 false [s_ 26] ld,g_ 28 25 false [s_ 3] f3_,g_ 29 25 false [s_ 28] ld,g_ 30 25 false [s_ 27,s_ 29] bne_,m_ 31 [s_ 25,k_ (.bool true),s_ 30] .pick,v_ 32 31,g_ 33 32 false [s_ 2] f4_,g_ 34 32 false [s_ 33] ld,g_ 35 32 false [s_ 3] f4_,g_ 36 32 false [s_ 35] ld,g_ 37 32 false [s_ 34,s_ 36] bne_,m_ 38 [s_ 32,k_ (.bool true),s_ 37] .pick,v_ 39 38,g_ 40 39 false [s_ 2] f5_,g_ 41 39 false [s_ 40] ld,g_ 42 39 false [s_ 41] ln,g_ 43 39 false [s_ 3] f5_,g_ 44 39 false [s_ 43] ld,g_ 45 39 false [s_ 44] ln,g_ 46 39 false [s_ 42,s_ 45] bne_,m_ 47 [s_ 39,k_ (.bool true),s_ 46] .pick] (i_ 47 (sr_ [bf_ 4] .ret) .skip)) (.seq (sr_ [z_ 5] (.block 0 (.loop (.seq (sr_ [v_ 48 5,o1 49 2 f5_,o1 50 49 ld,o1 51 50 ln,o2 52 48 51 bls_] (ex_ 52 0)) (.seq (.block 1 (.seq (.dreg [o1 55 2 f5_,o1 56 55 ld,v_ 57 5,o2 58 56 57 a4_,o1 59 58 (.load true 4),o1 60 3 f5_,o1 61 60 ld,v_ 62 5,o2 63 61 62 a4_,o1 64 63 (.load true 4),o2 65 59 64 (.eqs true [1,1,1,1])]) (i_ 65 (sr_ [bf_ 4] .ret) .skip))) (.reg [v_ 53 5,i1_ 54 53,v_ 5 54])))))) (sr_ [bt_ 4] .ret))))
theorem Ut:Ax Try.prog 27 2=some ⟨66,2,[(.slot 4)],Lj⟩:=by kernel_rfl
def Lk:AC:=(sr_ [o1 1 0 .box,z_ 2,z_ 3] (.seq (sr_ [o1 8 1 l6,k1 9 30 8,o1 10 9 nt] (i_ 10 (sr_ [c1 2 (.int .i64 1) .mv,z_ 3] .ret) .skip)) (.seq (sr_ [o1 11 1 f4_,o1 12 11 ld,o1 13 12 ln,z_ 14] (.block 0 (.loop (sr_ [o2 15 14 13 bls_] (.seq (ex_ 15 0) (.seq (.block 1 (sr_ [v_ 16 14,o2 17 12 14 a5_,o1 18 17 (.load true 5),o0 5 (.alloc (.agg [(.int .i64 0),(.int .i64 0),.nilS,(.int .i64 0),.nilS]) 5),v_ 4 16,n2 5 18 (.store 5)] (sr_ [o1 19 1 l6,o1 20 5 (.load true 5),k2 21 31 19 20,o1 22 21 nt] (i_ 22 (sr_ [v_ 23 4,c1 2 (.int .i64 2) .mv,v_ 3 23] .ret) .skip)))) (.reg [i1_ 24 14,v_ 14 24]))))))) (.seq (sr_ [o1 25 1 f5_,o1 26 25 ld,o1 27 26 ln,z_ 28] (.block 2 (.loop (sr_ [o2 29 28 27 bls_] (.seq (ex_ 29 2) (.seq (.block 3 (sr_ [v_ 30 28,o2 31 26 28 a3_,o1 32 31 (.load true 3),o0 7 (.alloc (.agg [(.int .i64 0),.nilS,.nilS]) 3),v_ 6 30,n2 7 32 (.store 3)] (sr_ [o1 33 1 l6,o1 34 7 f0_,o1 35 34 ld,k2 36 32 33 35,o1 37 36 nt,v_ 38 37,g_ 39 38 false [s_ 1] f0_,g_ 40 38 false [s_ 39] ld,g_ 41 38 false [s_ 7] f1_,g_ 42 38 false [s_ 41] ld,g_ 43 38 false [k_ (.fn 33 []),s_ 40,s_ 42] .call,g_ 44 38 false [s_ 43] nt,m_ 45 [s_ 38,k_ (.bool true),s_ 44] .pick,v_ 46 45,g_ 47 46 false [s_ 1] l6,g_ 48 46 false [s_ 7] f2_,g_ 49 46 false [s_ 48] ld,g_ 50 46 false [s_ 7] f1_,g_ 51 46 false [s_ 50] ld,g_ 52 46 false [k_ (.fn 34 []),s_ 47,s_ 49,s_ 51] .call,g_ 53 46 false [s_ 52] nt,m_ 54 [s_ 46,k_ (.bool true),s_ 53] .pick] (i_ 54 (sr_ [v_ 55 6,c1 2 (.int .i64 3) .mv,v_ 3 55] .ret) .skip)))) (.reg [i1_ 56 28,v_ 28 56]))))))) (.seq (sr_ [o1 57 1 l6,k1 58 35 57] (i_ 58 (sr_ [c1 2 (.int .i64 4) .mv,z_ 3] .ret) .skip)) (sr_ [z_ 2,z_ 3] .ret))))))
theorem Uu:Ax Try.prog 28 1=some ⟨59,1,[(.slot 2),(.slot 3)],Lk⟩:=by kernel_rfl
def Ce:AC:=(sr_ [ns_ 4] (.seq (sr_ [v_ 5 1,c2 6 5 (.int .i64 0) bls_] (i_ 6 (.reg [c1 7 (.str [99,97,110,110,111,116,32,98,101,32,110,101,103,97,116,105,118,101]) .no,h_ [s_ 7] .no]) .skip)) (.seq (sr_ [v_ 8 1,v_ 9 0,o1 10 9 .cap,v_ 11 0,o1 12 11 ln,o2 13 10 12 bsu_,o2 14 8 13 bsu_,v_ 1 14] (sr_ [v_ 15 1,c2 16 15 (.int .i64 0) bgt_] (i_ 16 (.reg [v_ 17 0,v_ 18 0,o1 19 18 .cap,o2 20 17 19 (.slice 6 false true false),v_ 21 1,o2 22 20 21 (.appZ 6 64 (.agg [(.int .i64 0),(.int .i64 0),(.int .i64 0),(.int .i64 0),(.int .i64 0),.nilS])),v_ 23 0,o1 24 23 ln,o2 25 22 24 (.slice 6 false true false),v_ 0 25]) .skip))) (sr_ [v_ 26 0,v_ 4 26] .ret))))
theorem C5:Ax Try.prog 29 2=some ⟨27,2,[(.slot 4)],Ce⟩:=by kernel_rfl
def Nk:AC:=(sr_ [o1 1 0 .box,bf_ 2] (sr_ [o1 3 1 f0_,o1 4 3 ld,k1 5 36 4,o1 6 5 ln,c2 7 6 (.int .i64 0) bgt_,v_ 8 7,g1 9 8 1 f1_,g1 10 8 9 ld,g_ 11 8 true [k_ (.fn 36 []),s_ 10] .call,g1 12 8 11 ln,g_ 13 8 true [s_ 12,k_ (.int .i64 0)] bgt_,m_ 14 [s_ 8,s_ 13,k_ (.bool false)] .pick,v_ 15 14,g1 16 15 1 f2_,g1 17 15 16 ld,g_ 18 15 true [s_ 17,k_ (.int .i64 1)] bge_,m_ 19 [s_ 15,s_ 18,k_ (.bool false)] .pick,v_ 20 19,g1 21 20 1 f2_,g1 22 20 21 ld,g_ 23 20 true [s_ 22,k_ (.int .i64 1024)] ble_,m_ 24 [s_ 20,s_ 23,k_ (.bool false)] .pick,v_ 25 24,g1 26 25 1 l6,g1 27 25 1 f3_,g1 28 25 27 ld,g_ 29 25 true [k_ (.fn 32 []),s_ 26,s_ 28] .call,m_ 30 [s_ 25,s_ 29,k_ (.bool false)] .pick,v_ 31 30,g1 32 31 1 f4_,g1 33 31 32 ld,g1 34 31 33 ln,g_ 35 31 true [s_ 34,k_ (.int .i64 4096)] ble_,m_ 36 [s_ 31,s_ 35,k_ (.bool false)] .pick,v_ 37 36,g1 38 37 1 f5_,g1 39 37 38 ld,g1 40 37 39 ln,g_ 41 37 true [s_ 40,k_ (.int .i64 4096)] ble_,m_ 42 [s_ 37,s_ 41,k_ (.bool false)] .pick,v_ 2 42] .ret))
theorem Xh:Ax Try.prog 30 1=some ⟨43,1,[(.slot 2)],Nk⟩:=by kernel_rfl
def Nl:AC:=(sr_ [o1 2 0 .box,o1 3 1 .box,bf_ 4] (sr_ [o1 6 3 f2_,o1 7 6 ld,o1 8 7 ln,v_ 5 8] (.seq (sr_ [o1 9 2 l6,o1 10 3 f0_,o1 11 10 ld,k2 12 32 9 11,o1 13 12 nt,v_ 14 13,g_ 15 14 false [s_ 2] l6,g_ 16 14 false [s_ 3] f1_,g_ 17 14 false [s_ 16] ld,g_ 18 14 false [k_ (.fn 32 []),s_ 15,s_ 17] .call,g_ 19 14 false [s_ 18] nt,m_ 20 [s_ 14,k_ (.bool true),s_ 19] .pick,v_ 21 20,g_ 22 21 false [s_ 2] f0_,g_ 23 21 false [s_ 22] ld,g_ 24 21 false [s_ 3] f2_,g_ 25 21 false [s_ 24] ld,g_ 26 21 false [k_ (.fn 33 []),s_ 23,s_ 25] .call,g_ 27 21 false [s_ 26] nt,m_ 28 [s_ 21,k_ (.bool true),s_ 27] .pick,v_ 29 28,g_ 30 29 false [s_ 3] f3_,g_ 31 29 false [s_ 30] ld,g_ 32 29 false [s_ 5] .mv,g_ 33 29 false [s_ 32,k_ (.int .i64 1)] .min,g_ 34 29 false [s_ 31,s_ 33] bls_,m_ 35 [s_ 29,k_ (.bool true),s_ 34] .pick,v_ 36 35,g_ 37 36 false [s_ 3] f3_,g_ 38 36 false [s_ 37] ld,g_ 39 36 false [s_ 5] .mv,g_ 40 36 false [s_ 38,s_ 39] bgt_,m_ 41 [s_ 36,k_ (.bool true),s_ 40] .pick] (i_ 41 (sr_ [bf_ 4] .ret) .skip)) (sr_ [o1 42 2 l6,o1 43 3 f4_,o1 44 43 ld,o1 45 3 f2_,o1 46 45 ld,k3 47 34 42 44 46,v_ 4 47] .ret))))
theorem Xi:Ax Try.prog 31 2=some ⟨48,2,[(.slot 4)],Nl⟩:=by kernel_rfl
def Ll:AC:=(sr_ [o1 2 0 .box,bf_ 4] (sr_ [v_ 5 1,c2 6 5 (.int .i64 0) bge_,v_ 7 6,g1 8 7 1 .mv,g1 9 7 2 f2_,g1 10 7 9 ld,g2 11 7 8 10 bls_,m_ 12 [s_ 7,s_ 11,k_ (.bool false)] .pick,v_ 4 12] .ret))
theorem Uv:Ax Try.prog 32 2=some ⟨13,2,[(.slot 4)],Ll⟩:=by kernel_rfl
def J7:AC:=(sr_ [bf_ 4] (.seq (sr_ [v_ 8 1,o1 9 8 ln,c2 10 9 (.int .i64 4) bgt_] (i_ 10 (sr_ [bf_ 4] .ret) .skip)) (sr_ [v_ 11 0,k1 12 36 11,v_ 5 12] (.seq (sr_ [v_ 13 1,o1 14 13 ln,z_ 15] (.block 0 (.loop (sr_ [o2 16 15 14 bls_] (.seq (ex_ 16 0) (.seq (.block 1 (sr_ [o2 17 13 15 a1_,o1 18 17 ld,v_ 7 18] (sr_ [v_ 19 7,o1 20 19 ln,c2 21 20 (.int .i64 0) beq_,v_ 22 21,g_ 23 22 false [s_ 7] .mv,g_ 24 22 false [s_ 23] ln,g_ 25 22 false [s_ 24,k_ (.int .i64 64)] bgt_,m_ 26 [s_ 22,k_ (.bool true),s_ 25] .pick,v_ 27 26,g_ 28 27 false [s_ 7] .mv,g_ 29 27 false [k_ (.fn 37 []),s_ 28] .call,g_ 30 27 false [s_ 29] nt,m_ 31 [s_ 27,k_ (.bool true),s_ 30] .pick,v_ 32 31,g_ 33 32 false [s_ 7] .mv,g_ 34 32 false [s_ 5] .mv,g_ 35 32 false [k_ (.fn 38 []),s_ 33,s_ 34] .call,g_ 36 32 false [s_ 35] nt,m_ 37 [s_ 32,k_ (.bool true),s_ 36] .pick] (i_ 37 (sr_ [bf_ 4] .ret) .skip)))) (.reg [i1_ 38 15,v_ 15 38]))))))) (sr_ [bt_ 4] .ret)))))
theorem R9:Ax Try.prog 33 2=some ⟨39,2,[(.slot 4)],J7⟩:=by kernel_rfl
def J8:AC:=(sr_ [o1 3 0 .box,bf_ 6] (.seq (sr_ [v_ 9 1,o1 10 9 ln,c2 11 10 (.int .i64 64) bgt_] (i_ 11 (sr_ [bf_ 6] .ret) .skip)) (.seq (sr_ [v_ 12 1,o1 13 12 ln,z_ 14] (.block 0 (.loop (sr_ [o2 15 14 13 bls_] (.seq (ex_ 15 0) (.seq (.block 1 (sr_ [o2 16 12 14 a6_,o1 17 16 l6,o0 8 (.alloc (.agg [(.int .i64 0),(.int .i64 0),(.int .i64 0),(.int .i64 0),(.int .i64 0),.nilS]) 6),n2 8 17 (.store 6)] (sr_ [o1 18 8 l6,o1 19 3 f0_,o1 20 19 ld,o1 21 3 f1_,o1 22 21 ld,v_ 23 2,m_ 24 [k_ (.fn 39 []),s_ 18,s_ 20,s_ 22,s_ 23] .call,o1 25 24 nt] (i_ 25 (sr_ [bf_ 6] .ret) .skip)))) (.reg [i1_ 26 14,v_ 14 26]))))))) (sr_ [bt_ 6] .ret))))
theorem Sa:Ax Try.prog 34 3=some ⟨27,3,[(.slot 6)],J8⟩:=by kernel_rfl
def Lm:AC:=(sr_ [o1 1 0 .box,bf_ 2] (sr_ [o1 14 1 f2_,o1 15 14 ld,o2 16 15 15 (.mkSlice 1 24 .nilS),v_ 3 16] (sr_ [o1 17 1 f2_,o1 18 17 ld,o2 19 18 18 (.mkSlice 1 8 (.int .i64 0)),v_ 4 19] (.seq (sr_ [o1 20 1 f4_,o1 21 20 ld,o1 22 21 ln,z_ 23] (.block 0 (.loop (sr_ [o2 24 23 22 bls_] (.seq (ex_ 24 0) (.seq (.block 1 (sr_ [o2 25 21 23 a5_,o1 26 25 (.load true 5),o0 6 (.alloc (.agg [(.int .i64 0),(.int .i64 0),.nilS,(.int .i64 0),.nilS]) 5),n2 6 26 (.store 5)] (sr_ [o1 27 6 f2_,o1 28 27 ld,o1 29 28 ln,c2 30 29 (.int .i64 0) beq_] (i_ 30 (.seq (.grx [false,true,true,false,true,true,true,false,true,true,false,false,false,false] [m_ 31 [s_ 3] .mv,m_ 32 [s_ 6] f0_,m_ 33 [s_ 32] ld,m_ 34 [s_ 3] .mv,m_ 35 [s_ 6] f0_,m_ 36 [s_ 35] ld,m_ 37 [s_ 34,s_ 36] a1_,m_ 38 [s_ 37] ld,m_ 39 [s_ 6] f1_,m_ 40 [s_ 39] ld,m_ 41 [s_ 40] (.bslice 1 1 (.int .i64 0) [0]),m_ 42 [s_ 38,s_ 41] (.app 1 8 (.int .i64 0)),m_ 43 [s_ 31,s_ 33] a1_,h_ [s_ 43,s_ 42] st]) (.reg [v_ 44 4,o1 45 6 f1_,o1 46 45 ld,o2 47 44 46 a1_,o1 48 47 ld,i1_ 49 48,o2 50 44 46 a1_,n2 50 49 st])) .skip)))) (.reg [i1_ 51 23,v_ 23 51]))))))) (sr_ [ns_ 7] (.seq (sr_ [v_ 52 4,o1 53 52 ln,z_ 54] (.block 2 (.loop (sr_ [o2 55 54 53 bls_] (.seq (ex_ 55 2) (.seq (.block 3 (sr_ [v_ 56 54,o2 57 52 54 a1_,o1 58 57 ld,v_ 8 56,v_ 9 58] (sr_ [v_ 59 9,c2 60 59 (.int .i64 0) beq_] (i_ 60 (.reg [v_ 61 7,v_ 62 8,o1 63 62 (.bslice 1 1 (.int .i64 0) [0]),o2 64 61 63 (.app 1 8 (.int .i64 0)),v_ 7 64]) .skip)))) (.reg [i1_ 65 54,v_ 54 65]))))))) (sr_ [z_ 10] (.seq (.block 4 (.loop (.seq (sr_ [v_ 66 7,o1 67 66 ln,c2 68 67 (.int .i64 0) bgt_] (ex_ 68 4)) (.seq (.block 5 (sr_ [v_ 71 7,c2 72 71 (.int .i64 0) a1_,o1 73 72 ld,v_ 11 73] (sr_ [v_ 74 7,c2 75 74 (.int .i64 1) (.slice 1 true false false),v_ 7 75] (sr_ [v_ 76 3,v_ 77 11,o2 78 76 77 a1_,o1 79 78 ld,o1 80 79 ln,z_ 81] (.block 6 (.loop (sr_ [o2 82 81 80 bls_] (.seq (ex_ 82 6) (.seq (.block 7 (sr_ [o2 83 79 81 a1_,o1 84 83 ld,v_ 13 84] (sr_ [v_ 85 4,v_ 86 13,o2 87 85 86 a1_,o1 88 87 ld,c2 89 88 (.int .i64 1) bsu_,o2 90 85 86 a1_,n2 90 89 st] (sr_ [v_ 91 4,v_ 92 13,o2 93 91 92 a1_,o1 94 93 ld,c2 95 94 (.int .i64 0) beq_] (i_ 95 (.reg [v_ 96 7,v_ 97 13,o1 98 97 (.bslice 1 1 (.int .i64 0) [0]),o2 99 96 98 (.app 1 8 (.int .i64 0)),v_ 7 99]) .skip))))) (.reg [i1_ 100 81,v_ 81 100])))))))))) (.reg [v_ 69 10,i1_ 70 69,v_ 10 70]))))) (sr_ [v_ 101 10,o1 102 1 f2_,o1 103 102 ld,o2 104 101 103 bls_,v_ 2 104] .ret)))))))))
theorem Uw:Ax Try.prog 35 1=some ⟨105,1,[(.slot 2)],Lm⟩:=by kernel_rfl
def J9:AC:=(sr_ [ns_ 2] (.seq (sr_ [v_ 3 0] (.block 0 (sr_ [c2 5 3 (.int .i64 1) beq_,v_ 4 5] (i_ 4 (sr_ [m_ 6 [k_ (.int .i64 0),k_ (.int .i64 255)] (.build [(.int .i64 0),(.int .i64 0)] [(0,1),(1,1)] [0,1]),o1 7 6 (.bslice 2 1 (.agg [(.int .i64 0),(.int .i64 0)]) [0]),v_ 2 7] .ret) (sr_ [c2 9 3 (.int .i64 2) beq_,v_ 8 9] (i_ 8 (sr_ [m_ 10 [k_ (.int .i64 0),k_ (.int .i64 55295)] (.build [(.int .i64 0),(.int .i64 0)] [(0,1),(1,1)] [0,1]),m_ 11 [k_ (.int .i64 57344),k_ (.int .i64 1114111)] (.build [(.int .i64 0),(.int .i64 0)] [(0,1),(1,1)] [0,1]),o2 12 10 11 (.bslice 2 2 (.agg [(.int .i64 0),(.int .i64 0)]) [0,1]),v_ 2 12] .ret) .skip)))))) (sr_ [ns_ 2] .ret)))
theorem Sb:Ax Try.prog 36 1=some ⟨13,1,[(.slot 2)],J9⟩:=by kernel_rfl
def Ln:AC:=(sr_ [bf_ 2] (sr_ [c1 3 (.int .i64 (-1073741826)) .mv] (.seq (sr_ [v_ 6 0,o1 7 6 ln,z_ 8] (.block 0 (.loop (sr_ [o2 9 8 7 bls_] (.seq (ex_ 9 0) (.seq (.block 1 (sr_ [o2 10 6 8 a2_,o1 11 10 (.load true 2),o0 5 (.alloc (.agg [(.int .i64 0),(.int .i64 0)]) 2),n2 5 11 (.store 2)] (.seq (sr_ [o1 12 5 f0_,o1 13 12 ld,o1 14 5 f1_,o1 15 14 ld,o2 16 13 15 bgt_,v_ 17 16,g_ 18 17 false [s_ 5] f0_,g_ 19 17 false [s_ 18] ld,g_ 20 17 false [s_ 19,k_ (.int .i64 (-1073741824))] bls_,m_ 21 [s_ 17,k_ (.bool true),s_ 20] .pick,v_ 22 21,g_ 23 22 false [s_ 5] f1_,g_ 24 22 false [s_ 23] ld,g_ 25 22 false [s_ 24,k_ (.int .i64 1073741824)] bgt_,m_ 26 [s_ 22,k_ (.bool true),s_ 25] .pick,v_ 27 26,g_ 28 27 false [s_ 5] f0_,g_ 29 27 false [s_ 28] ld,g_ 30 27 false [s_ 3] .mv,g_ 31 27 false [s_ 30,k_ (.int .i64 1)] bad_,g_ 32 27 false [s_ 29,s_ 31] ble_,m_ 33 [s_ 27,k_ (.bool true),s_ 32] .pick] (i_ 33 (sr_ [bf_ 2] .ret) .skip)) (.reg [o1 34 5 f1_,o1 35 34 ld,v_ 3 35])))) (.reg [i1_ 36 8,v_ 8 36]))))))) (sr_ [bt_ 2] .ret))))
theorem Ux:Ax Try.prog 37 1=some ⟨37,1,[(.slot 2)],Ln⟩:=by kernel_rfl
def Ka:AC:=(sr_ [bf_ 4] (sr_ [v_ 5 0,v_ 6 1,k2 7 40 5 6,o1 8 7 ln,c2 9 8 (.int .i64 0) beq_,v_ 4 9] .ret))
theorem Sc:Ax Try.prog 38 2=some ⟨10,2,[(.slot 4)],Ka⟩:=by kernel_rfl
def Nm:AC:=(sr_ [o1 4 0 .box,bf_ 8] (.seq (sr_ [o1 11 4 l6,v_ 12 1,v_ 13 2,v_ 14 3,o1 15 14 ln,m_ 16 [k_ (.fn 41 []),s_ 11,s_ 12,s_ 13,s_ 15] .call,o1 17 16 nt] (i_ 17 (sr_ [bf_ 8] .ret) .skip)) (sr_ [o1 19 4 l6,v_ 20 3,k2 21 42 19 20,v_ 18 21,o1 22 18 (.extract 0),o1 23 18 (.extract 1),v_ 9 22,v_ 10 23] (sr_ [v_ 24 10,v_ 25 24,g1 26 25 9 .mv,g1 27 25 2 .mv,g_ 28 25 true [k_ (.fn 36 []),s_ 27] .call,g_ 29 25 true [k_ (.fn 38 []),s_ 26,s_ 28] .call,m_ 30 [s_ 25,s_ 29,k_ (.bool false)] .pick,v_ 8 30] .ret))))
theorem Xj:Ax Try.prog 39 4=some ⟨31,4,[(.slot 8)],Nm⟩:=by kernel_rfl
def Lp:AC:=(sr_ [ns_ 4] (sr_ [ns_ 5] (sr_ [c1 6 (.int .i64 (-1073741824)) .mv] (.seq (sr_ [v_ 9 1,k1 10 43 9,o1 11 10 ln,z_ 12] (.block 0 (.loop (sr_ [o2 13 12 11 bls_] (.seq (ex_ 13 0) (.seq (.block 1 (sr_ [o2 14 10 12 a2_,o1 15 14 (.load true 2),o0 8 (.alloc (.agg [(.int .i64 0),(.int .i64 0)]) 2),n2 8 15 (.store 2)] (sr_ [v_ 16 5,v_ 17 6,o1 18 8 f0_,o1 19 18 ld,c2 20 19 (.int .i64 1) bsu_,o2 21 17 20 (.build [(.int .i64 0),(.int .i64 0)] [(0,1),(1,1)] [0,1]),o1 22 21 (.bslice 2 1 (.agg [(.int .i64 0),(.int .i64 0)]) [0]),o2 23 16 22 (.app 2 16 (.agg [(.int .i64 0),(.int .i64 0)])),v_ 5 23] (.reg [o1 24 8 f1_,o1 25 24 ld,i1_ 26 25,v_ 6 26])))) (.reg [i1_ 27 12,v_ 12 27]))))))) (sr_ [v_ 28 5,v_ 29 6,c2 30 29 (.int .i64 1073741824) (.build [(.int .i64 0),(.int .i64 0)] [(0,1),(1,1)] [0,1]),o1 31 30 (.bslice 2 1 (.agg [(.int .i64 0),(.int .i64 0)]) [0]),o2 32 28 31 (.app 2 16 (.agg [(.int .i64 0),(.int .i64 0)])),v_ 5 32] (sr_ [v_ 33 0,v_ 34 5,k2 35 44 33 34,v_ 4 35] .ret))))))
theorem Uy:Ax Try.prog 40 2=some ⟨36,2,[(.slot 4)],Lp⟩:=by kernel_rfl
def Lq:AC:=(sr_ [o1 4 0 .box,bf_ 8] (.seq (sr_ [v_ 11 1,k1 12 36 11,o1 13 12 ln,c2 14 13 (.int .i64 0) beq_,v_ 15 14,g_ 16 15 false [s_ 2] .mv,g_ 17 15 false [k_ (.fn 36 []),s_ 16] .call,g_ 18 15 false [s_ 17] ln,g_ 19 15 false [s_ 18,k_ (.int .i64 0)] beq_,m_ 20 [s_ 15,k_ (.bool true),s_ 19] .pick,v_ 21 20,g_ 22 21 false [s_ 4] l6,g_ 23 21 false [k_ (.fn 45 []),s_ 22] .call,g_ 24 21 false [s_ 23] nt,m_ 25 [s_ 21,k_ (.bool true),s_ 24] .pick] (i_ 25 (sr_ [bf_ 8] .ret) .skip)) (.seq (sr_ [o1 26 4 f5_,o1 27 26 ld,o1 28 27 ln,z_ 29] (.block 0 (.loop (sr_ [o2 30 29 28 bls_] (.seq (ex_ 30 0) (.seq (.block 1 (sr_ [o2 31 27 29 a4_,o1 32 31 (.load true 4),o0 10 (.alloc (.agg [(.int .i64 0),(.int .i64 0),(.int .i64 0),(.int .i64 0)]) 4),n2 10 32 (.store 4)] (.seq (.dreg [o1 33 10 (.load true 4),v_ 34 3,k2 35 46 33 34,o1 36 35 nt,v_ 37 36,g_ 38 37 false [s_ 1] .mv,g_ 39 37 false [s_ 38,k_ (.int .i64 2)] beq_,g_ 40 37 false [s_ 39] .mv,g1 41 40 10 (.load true 4),g1 42 40 10 f0_,g1 43 40 42 ld,g_ 44 40 true [k_ (.fn 47 []),s_ 43] .call,g2 45 40 41 44 (.eqs true [1,1,1,1]),g_ 46 37 false [s_ 40,s_ 45,k_ (.bool false)] .pick,m_ 47 [s_ 37,k_ (.bool true),s_ 46] .pick]) (i_ 47 (sr_ [bf_ 8] .ret) .skip)))) (.reg [i1_ 48 29,v_ 29 48]))))))) (sr_ [v_ 49 1,c2 50 49 (.int .i64 2) bne_,v_ 51 50,g_ 52 51 false [s_ 4] f5_,g_ 53 51 false [s_ 52] ld,g_ 54 51 false [s_ 53] ln,g_ 55 51 false [s_ 54,k_ (.int .i64 1)] ble_,m_ 56 [s_ 51,k_ (.bool true),s_ 55] .pick,v_ 57 56,g1 58 57 2 .mv,g_ 59 57 true [s_ 58,k_ (.int .i64 2)] bne_,g1 60 57 59 .mv,g_ 61 60 false [s_ 4] l6,g_ 62 60 false [k_ (.fn 48 []),s_ 61] .call,g_ 63 57 true [s_ 60,k_ (.bool true),s_ 62] .pick,m_ 64 [s_ 57,s_ 63,k_ (.bool false)] .pick,v_ 8 64] .ret))))
theorem Uz:Ax Try.prog 41 4=some ⟨65,4,[(.slot 8)],Lq⟩:=by kernel_rfl
def Lr:AC:=(sr_ [o1 2 0 .box,ns_ 4,bf_ 5] (sr_ [o1 9 2 l6,v_ 10 1,k2 11 49 9 10,v_ 8 11,o1 12 8 (.extract 0),o1 13 8 (.extract 1),v_ 6 12,v_ 7 13] (.seq (sr_ [v_ 14 7,o1 15 14 nt] (i_ 15 (sr_ [ns_ 4,bf_ 5] .ret) .skip)) (.seq (sr_ [v_ 16 6,o1 17 16 ln,c2 18 17 (.int .i64 0) beq_] (i_ 18 (sr_ [ns_ 4,bt_ 5] .ret) .skip)) (.seq (.dtl [o1 19 2 l6,k1 20 52 19,v_ 21 6,k2 22 51 20 21,o1 23 2 f0_,o1 24 23 ld] [k2 25 50 22 24,v_ 4 25,bt_ 5]) .ret)))))
theorem U0:Ax Try.prog 42 2=some ⟨26,2,[(.slot 4),(.slot 5)],Lr⟩:=by kernel_rfl
def Nn:AC:=(sr_ [ns_ 2] (sr_ [v_ 10 0,o1 11 10 ln,m_ 12 [k_ (.int .i64 0),s_ 11] (.mkSlice 2 16 (.agg [(.int .i64 0),(.int .i64 0)])),v_ 3 12] (.seq (sr_ [v_ 13 0,o1 14 13 ln,z_ 15] (.block 0 (.loop (sr_ [o2 16 15 14 bls_] (.seq (ex_ 16 0) (.seq (.block 1 (sr_ [o2 17 13 15 a2_,o1 18 17 (.load true 2),o0 5 (.alloc (.agg [(.int .i64 0),(.int .i64 0)]) 2),n2 5 18 (.store 2)] (sr_ [o1 19 5 f0_,o1 20 19 ld,c2 21 20 (.int .i64 (-1073741824)) .max,o1 22 5 f1_,o1 23 22 ld,c2 24 23 (.int .i64 1073741824) .min,o1 25 5 f0_,n2 25 21 st,o1 26 5 f1_,n2 26 24 st] (sr_ [o1 27 5 f0_,o1 28 27 ld,o1 29 5 f1_,o1 30 29 ld,o2 31 28 30 ble_] (i_ 31 (.reg [v_ 32 3,o1 33 5 (.load true 2),o1 34 33 (.bslice 2 1 (.agg [(.int .i64 0),(.int .i64 0)]) [0]),o2 35 32 34 (.app 2 16 (.agg [(.int .i64 0),(.int .i64 0)])),v_ 3 35]) .skip))))) (.reg [i1_ 36 15,v_ 15 36]))))))) (sr_ [v_ 37 3,m_ 38 [k_ (.fn 53 []),s_ 37,k_ (.fn 54 [])] .call] (sr_ [v_ 39 3,c2 40 39 (.int .i64 0) (.slice 2 false true false),v_ 6 40] (.seq (sr_ [v_ 41 3,o1 42 41 ln,z_ 43] (.block 2 (.loop (sr_ [o2 44 43 42 bls_] (.seq (ex_ 44 2) (.seq (.block 3 (sr_ [o2 45 41 43 a2_,o1 46 45 (.load true 2),o0 8 (.alloc (.agg [(.int .i64 0),(.int .i64 0)]) 2),n2 8 46 (.store 2)] (.seq (sr_ [v_ 47 6,o1 48 47 ln,v_ 9 48] (.seq (.dreg [v_ 49 9,c2 50 49 (.int .i64 0) bgt_,v_ 51 50,g1 52 51 8 f0_,g1 53 51 52 ld,g1 54 51 6 .mv,g1 55 51 9 .mv,g_ 56 51 true [s_ 55,k_ (.int .i64 1)] bsu_,g2 57 51 54 56 a2_,g1 58 51 57 f1_,g1 59 51 58 ld,g_ 60 51 true [s_ 59,k_ (.int .i64 1)] bad_,g2 61 51 53 60 ble_,m_ 62 [s_ 51,s_ 61,k_ (.bool false)] .pick]) (i_ 62 (.seq (.dtl [v_ 63 6,v_ 64 9,c2 65 64 (.int .i64 1) bsu_,v_ 66 6,v_ 67 9,c2 68 67 (.int .i64 1) bsu_,o2 69 66 68 a2_,o1 70 69 f1_,o1 71 70 ld,o1 72 8 f1_,o1 73 72 ld,o2 74 71 73 .max,o2 75 63 65 a2_,o1 76 75 f1_] [n2 76 74 st]) (.exit 3)) .skip))) (.reg [v_ 77 6,o1 78 8 (.load true 2),o1 79 78 (.bslice 2 1 (.agg [(.int .i64 0),(.int .i64 0)]) [0]),o2 80 77 79 (.app 2 16 (.agg [(.int .i64 0),(.int .i64 0)])),v_ 6 80])))) (.reg [i1_ 81 43,v_ 43 81]))))))) (sr_ [v_ 82 6,v_ 2 82] .ret)))))))
theorem Xk:Ax Try.prog 43 1=some ⟨83,1,[(.slot 2)],Nn⟩:=by kernel_rfl
def No:AC:=(sr_ [ns_ 4] (sr_ [v_ 7 0,k1 8 43 7,v_ 9 1,k1 10 43 9,v_ 0 8,v_ 1 10] (sr_ [ns_ 5] (.seq (.block 0 (.loop (.seq (sr_ [v_ 11 0,o1 12 11 ln,c2 13 12 (.int .i64 0) bgt_,v_ 14 13,g1 15 14 1 .mv,g1 16 14 15 ln,g_ 17 14 true [s_ 16,k_ (.int .i64 0)] bgt_,m_ 18 [s_ 14,s_ 17,k_ (.bool false)] .pick] (ex_ 18 0)) (.block 1 (.seq (.greg [v_ 19 0,c2 20 19 (.int .i64 0) a2_,o1 21 20 f0_,o1 22 21 ld,v_ 23 1,c2 24 23 (.int .i64 0) a2_,o1 25 24 f0_,o1 26 25 ld,o2 27 22 26 .max,v_ 28 0,c2 29 28 (.int .i64 0) a2_,o1 30 29 f1_,o1 31 30 ld,v_ 32 1,c2 33 32 (.int .i64 0) a2_,o1 34 33 f1_,o1 35 34 ld,o2 36 31 35 .min,o2 37 27 36 (.build [(.int .i64 0),(.int .i64 0)] [(0,1),(1,1)] [0,1]),o0 6 (.alloc (.agg [(.int .i64 0),(.int .i64 0)]) 2),n2 6 37 (.store 2)]) (.seq (sr_ [o1 38 6 f0_,o1 39 38 ld,o1 40 6 f1_,o1 41 40 ld,o2 42 39 41 ble_] (i_ 42 (.reg [v_ 43 5,o1 44 6 (.load true 2),o1 45 44 (.bslice 2 1 (.agg [(.int .i64 0),(.int .i64 0)]) [0]),o2 46 43 45 (.app 2 16 (.agg [(.int .i64 0),(.int .i64 0)])),v_ 5 46]) .skip)) (.seq (.dreg [v_ 47 0,c2 48 47 (.int .i64 0) a2_,o1 49 48 f1_,o1 50 49 ld,v_ 51 1,c2 52 51 (.int .i64 0) a2_,o1 53 52 f1_,o1 54 53 ld,o2 55 50 54 bls_]) (i_ 55 (.reg [v_ 56 0,c2 57 56 (.int .i64 1) (.slice 2 true false false),v_ 0 57]) (.reg [v_ 58 1,c2 59 58 (.int .i64 1) (.slice 2 true false false),v_ 1 59]))))))))) (sr_ [v_ 60 5,v_ 4 60] .ret)))))
theorem Xl:Ax Try.prog 44 2=some ⟨61,2,[(.slot 4)],No⟩:=by kernel_rfl
def I9:AC:=(sr_ [o1 1 0 .box,bf_ 2] (sr_ [o1 3 1 f0_,o1 4 3 ld,k1 5 56 4,v_ 6 5,g1 7 6 1 f4_,g1 8 6 7 ld,g_ 9 6 true [k_ (.fn 56 []),s_ 8] .call,m_ 10 [s_ 6,s_ 9,k_ (.bool false)] .pick,v_ 11 10,g1 12 11 1 l6,g_ 13 11 true [k_ (.fn 52 []),s_ 12] .call,g_ 14 11 true [k_ (.fn 46 []),s_ 13,k_ (.int .i64 1)] .call,m_ 15 [s_ 11,s_ 14,k_ (.bool false)] .pick,v_ 16 15,g1 17 16 1 f5_,g1 18 16 17 ld,g_ 19 16 true [k_ (.fn 57 []),s_ 18] .call,m_ 20 [s_ 16,s_ 19,k_ (.bool false)] .pick,v_ 2 20] .ret))
theorem Pj:Ax Try.prog 45 1=some ⟨21,1,[(.slot 2)],I9⟩:=by kernel_rfl
def Ls:AC:=(sr_ [o1 2 0 .box,bf_ 4] (sr_ [o1 5 2 f0_,o1 6 5 ld,c2 7 6 (.int .i64 0) bge_,v_ 8 7,g1 9 8 2 f0_,g1 10 8 9 ld,g1 11 8 1 .mv,g2 12 8 10 11 bls_,m_ 13 [s_ 8,s_ 12,k_ (.bool false)] .pick,v_ 14 13,g1 15 14 2 (.load true 4),g_ 16 14 true [k_ (.fn 58 []),s_ 15] .call,m_ 17 [s_ 14,s_ 16,k_ (.bool false)] .pick,v_ 4 17] .ret))
theorem U1:Ax Try.prog 46 2=some ⟨18,2,[(.slot 4)],Ls⟩:=by kernel_rfl
def Lt:AC:=(sr_ [o0 2 (.alloc (.agg [(.int .i64 0),(.int .i64 0),(.int .i64 0),(.int .i64 0)]) 4)] (sr_ [v_ 3 0,c2 4 3 (.int .i64 21) (.build [(.int .i64 0),(.int .i64 0),(.int .i64 0),(.int .i64 0)] [(0,1),(1,1),(2,1),(3,1)] [0,2]),n2 2 4 (.store 4)] .ret))
theorem U2:Ax Try.prog 47 1=some ⟨5,1,[(.cell 2 true 4)],Lt⟩:=by kernel_rfl
def Lu:AC:=(sr_ [o1 1 0 .box,bf_ 2] (sr_ [o1 3 1 f0_,o1 4 3 ld,c2 5 4 (.int .i64 0) beq_,v_ 6 5,g1 7 6 1 l6,g_ 8 6 true [k_ (.fn 52 []),s_ 7] .call,g_ 9 6 true [k_ (.fn 47 []),k_ (.int .i64 0)] .call,g2 10 6 8 9 (.eqs false [1,1,1,1]),m_ 11 [s_ 6,s_ 10,k_ (.bool false)] .pick,v_ 2 11] .ret))
theorem U3:Ax Try.prog 48 1=some ⟨12,1,[(.slot 2)],Lu⟩:=by kernel_rfl
def Lv:AC:=(sr_ [o1 2 0 .box,ns_ 4,bf_ 5] (.seq (sr_ [v_ 12 1,o1 13 12 ln,c2 14 13 (.int .i64 4) bgt_,v_ 15 14,g_ 16 15 false [s_ 2] l6,g_ 17 15 false [k_ (.fn 45 []),s_ 16] .call,g_ 18 15 false [s_ 17] nt,m_ 19 [s_ 15,k_ (.bool true),s_ 18] .pick] (i_ 19 (sr_ [ns_ 4,bf_ 5] .ret) .skip)) (sr_ [bt_ 6] (sr_ [v_ 20 1,o1 21 20 ln,o2 22 21 21 (.mkSlice 1 24 .nilS),v_ 7 22] (.seq (sr_ [v_ 23 1,o1 24 23 ln,z_ 25] (.block 0 (.loop (sr_ [o2 26 25 24 bls_] (.seq (ex_ 26 0) (.seq (.block 1 (sr_ [v_ 27 25,o2 28 23 25 a1_,o1 29 28 ld,v_ 8 27,v_ 9 29] (sr_ [v_ 30 7,v_ 31 8,v_ 32 9,k0 33 59,k2 34 44 32 33,o2 35 30 31 a1_,n2 35 34 st] (.reg [v_ 36 6,v_ 37 36,g1 38 37 7 .mv,g1 39 37 8 .mv,g2 40 37 38 39 a1_,g1 41 37 40 ld,g1 42 37 41 ln,g_ 43 37 true [s_ 42,k_ (.int .i64 0)] bgt_,m_ 44 [s_ 37,s_ 43,k_ (.bool false)] .pick,v_ 6 44])))) (.reg [i1_ 45 25,v_ 25 45]))))))) (.seq (sr_ [o1 46 2 f5_,o1 47 46 ld,o1 48 47 ln,z_ 49] (.block 2 (.loop (sr_ [o2 50 49 48 bls_] (.seq (ex_ 50 2) (.seq (.block 3 (sr_ [o2 51 47 49 a4_,o1 52 51 (.load true 4),o0 11 (.alloc (.agg [(.int .i64 0),(.int .i64 0),(.int .i64 0),(.int .i64 0)]) 4),n2 11 52 (.store 4)] (sr_ [o1 53 11 (.load true 4),v_ 54 1,o1 55 54 ln,k2 56 46 53 55,o1 57 56 nt] (i_ 57 (sr_ [ns_ 4,bf_ 5] .ret) .skip)))) (.reg [i1_ 58 49,v_ 49 58]))))))) (.seq (sr_ [v_ 59 6,o1 60 59 nt] (i_ 60 (sr_ [ns_ 4,bt_ 5] .ret) .skip)) (sr_ [o1 61 2 l6,v_ 62 7,k2 63 60 61 62,o1 64 63 (.extract 0),o1 65 63 (.extract 1),v_ 4 64,v_ 5 65] .ret))))))))
theorem U4:Ax Try.prog 49 2=some ⟨66,2,[(.slot 4),(.slot 5)],Lv⟩:=by kernel_rfl
def Np:AC:=(sr_ [ns_ 4] (.seq (sr_ [v_ 7 1,c2 8 7 (.int .i64 (-2147483648)) bls_,v_ 9 8,g_ 10 9 false [s_ 1] .mv,g_ 11 9 false [s_ 10,k_ (.int .i64 2147483648)] bgt_,m_ 12 [s_ 9,k_ (.bool true),s_ 11] .pick] (i_ 12 (sr_ [ns_ 4] .ret) .skip)) (sr_ [v_ 13 0,k1 14 43 13,v_ 5 14] (.seq (sr_ [v_ 15 5,o1 16 15 ln,z_ 17] (.block 0 (.loop (sr_ [o2 18 17 16 bls_] (.seq (ex_ 18 0) (.seq (.block 1 (sr_ [v_ 19 17,v_ 6 19] (sr_ [v_ 20 5,v_ 21 6,o2 22 20 21 a2_,o1 23 22 f0_,o1 24 23 ld,v_ 25 1,o2 26 24 25 bad_,o2 27 20 21 a2_,o1 28 27 f0_,n2 28 26 st] (.reg [v_ 29 5,v_ 30 6,o2 31 29 30 a2_,o1 32 31 f1_,o1 33 32 ld,v_ 34 1,o2 35 33 34 bad_,o2 36 29 30 a2_,o1 37 36 f1_,n2 37 35 st])))) (.reg [i1_ 38 17,v_ 17 38]))))))) (sr_ [v_ 39 5,k1 40 43 39,v_ 4 40] .ret)))))
theorem Xm:Ax Try.prog 50 2=some ⟨41,2,[(.slot 4)],Np⟩:=by kernel_rfl
def Hl:AC:=(sr_ [o1 2 0 .box,ns_ 4] (.seq (sr_ [o1 13 2 (.load true 4),k1 14 58 13,o1 15 14 nt] (i_ 15 (sr_ [ns_ 4] .ret) .skip)) (sr_ [o1 16 2 f2_,o1 17 16 ld,m_ 18 [k_ (.int .i64 1),s_ 17] (.bin .shl),c2 19 18 (.int .i64 1) bsu_,v_ 5 19] (sr_ [ns_ 6] (.seq (sr_ [v_ 20 1,m_ 21 [k_ (.int .i64 0),k_ (.int .i64 2097151)] (.build [(.int .i64 0),(.int .i64 0)] [(0,1),(1,1)] [0,1]),o1 22 21 (.bslice 2 1 (.agg [(.int .i64 0),(.int .i64 0)]) [0]),k2 23 44 20 22,o1 24 23 ln,z_ 25] (.block 0 (.loop (sr_ [o2 26 25 24 bls_] (.seq (ex_ 26 0) (.seq (.block 1 (sr_ [o2 27 23 25 a2_,o1 28 27 (.load true 2),o0 8 (.alloc (.agg [(.int .i64 0),(.int .i64 0)]) 2),n2 8 28 (.store 2)] (.seq (.dreg [o1 29 8 f0_,o1 30 29 ld,o1 31 2 f1_,o1 32 31 ld,o2 33 30 32 (.bin .shr),o1 34 8 f1_,o1 35 34 ld,o1 36 2 f1_,o1 37 36 ld,o2 38 35 37 (.bin .shr),v_ 9 33,v_ 10 38]) (.seq (sr_ [v_ 39 10,v_ 40 9,o2 41 39 40 bsu_,v_ 42 5,o2 43 41 42 bge_] (i_ 43 (sr_ [v_ 44 5,m_ 45 [k_ (.int .i64 0),s_ 44] (.build [(.int .i64 0),(.int .i64 0)] [(0,1),(1,1)] [0,1]),o1 46 45 (.bslice 2 1 (.agg [(.int .i64 0),(.int .i64 0)]) [0]),v_ 6 46] (.exit 0)) .skip)) (sr_ [v_ 47 9,v_ 48 5,o2 49 47 48 (.bin .and),v_ 50 10,v_ 51 5,o2 52 50 51 (.bin .and),o2 53 49 52 ble_] (i_ 53 (.reg [v_ 54 6,v_ 55 9,v_ 56 5,o2 57 55 56 (.bin .and),v_ 58 10,v_ 59 5,o2 60 58 59 (.bin .and),o2 61 57 60 (.build [(.int .i64 0),(.int .i64 0)] [(0,1),(1,1)] [0,1]),o1 62 61 (.bslice 2 1 (.agg [(.int .i64 0),(.int .i64 0)]) [0]),o2 63 54 62 (.app 2 16 (.agg [(.int .i64 0),(.int .i64 0)])),v_ 6 63]) (.reg [v_ 64 6,v_ 65 10,v_ 66 5,o2 67 65 66 (.bin .and),m_ 68 [k_ (.int .i64 0),s_ 67] (.build [(.int .i64 0),(.int .i64 0)] [(0,1),(1,1)] [0,1]),v_ 69 9,v_ 70 5,o2 71 69 70 (.bin .and),v_ 72 5,o2 73 71 72 (.build [(.int .i64 0),(.int .i64 0)] [(0,1),(1,1)] [0,1]),o2 74 68 73 (.bslice 2 2 (.agg [(.int .i64 0),(.int .i64 0)]) [0,1]),o2 75 64 74 (.app 2 16 (.agg [(.int .i64 0),(.int .i64 0)])),v_ 6 75]))))))) (.reg [i1_ 76 25,v_ 25 76]))))))) (sr_ [v_ 77 6,k1 78 43 77,v_ 6 78] (.seq (sr_ [o1 79 2 f3_,o1 80 79 ld,c2 81 80 (.int .i64 0) beq_] (i_ 81 (sr_ [v_ 82 6,v_ 4 82] .ret) .skip)) (sr_ [o0 11 (.alloc .nilS 1)] (.seq (sr_ [v_ 83 6,k1 84 61 83] (.block 2 (.rng (.slot 84) [85] (.reg [v_ 12 85]) (.block 3 (.dtl [o1 86 11 ld,v_ 87 12,o1 88 2 f3_,o1 89 88 ld,o2 90 87 89 (.bin .shl),v_ 91 12,o1 92 2 f3_,o1 93 92 ld,o2 94 91 93 (.bin .shl),o2 95 90 94 (.build [(.int .i64 0),(.int .i64 0)] [(0,1),(1,1)] [0,1]),o1 96 95 (.bslice 2 1 (.agg [(.int .i64 0),(.int .i64 0)]) [0])] [o2 97 86 96 (.app 2 16 (.agg [(.int .i64 0),(.int .i64 0)])),n2 11 97 st]))))) (sr_ [o1 98 11 ld,k1 99 43 98,v_ 4 99] .ret))))))))))
theorem Lw:Ax Try.prog 51 2=some ⟨100,2,[(.slot 4)],Hl⟩:=by kernel_rfl
def Lx:AC:=(sr_ [o1 1 0 .box,o0 2 (.alloc (.agg [(.int .i64 0),(.int .i64 0),(.int .i64 0),(.int .i64 0)]) 4)] (sr_ [o1 3 1 f1_,o1 4 3 ld,o1 5 1 f2_,o1 6 5 ld,o1 7 1 f3_,o1 8 7 ld,o3 9 4 6 8 (.build [(.int .i64 0),(.int .i64 0),(.int .i64 0),(.int .i64 0)] [(0,1),(1,1),(2,1),(3,1)] [1,2,3]),n2 2 9 (.store 4)] .ret))
theorem U5:Ax Try.prog 52 1=some ⟨10,1,[(.cell 2 true 4)],Lx⟩:=by kernel_rfl
def Cs:AC:=(sr_ [v_ 5 0,o1 6 5 ln,v_ 4 6] (.reg [v_ 7 0,v_ 8 4,v_ 9 4,o1 10 9 (.conv .u64),k1 11 63 10,v_ 12 1,m_ 13 [k_ (.fn 62 []),s_ 7,k_ (.int .i64 0),s_ 8,s_ 11,s_ 12] .call]))
theorem D7:Ax Try.prog 53 2=some ⟨14,2,[],Cs⟩:=by kernel_rfl
def Ly:AC:=(sr_ [bf_ 2] (sr_ [v_ 3 0,c2 4 3 (.int .i64 (-1114111)) bge_,v_ 5 4,g1 6 5 0 .mv,g_ 7 5 true [s_ 6,k_ (.int .i64 1114111)] ble_,m_ 8 [s_ 5,s_ 7,k_ (.bool false)] .pick,v_ 2 8] .ret))
theorem U6:Ax Try.prog 56 1=some ⟨9,1,[(.slot 2)],Ly⟩:=by kernel_rfl
def Kb:AC:=(sr_ [bf_ 2] (.seq (sr_ [v_ 5 0,o1 6 5 ln,z_ 7] (.block 0 (.loop (sr_ [o2 8 7 6 bls_] (.seq (ex_ 8 0) (.seq (.block 1 (sr_ [v_ 9 7,o2 10 5 7 a4_,o1 11 10 (.load true 4),o0 4 (.alloc (.agg [(.int .i64 0),(.int .i64 0),(.int .i64 0),(.int .i64 0)]) 4),v_ 3 9,n2 4 11 (.store 4)] (.seq (.dreg [v_ 12 3,c2 13 12 (.int .i64 0) bgt_,v_ 14 13,g1 15 14 4 f3_,g1 16 14 15 ld,g1 17 14 0 .mv,g1 18 14 3 .mv,g_ 19 14 true [s_ 18,k_ (.int .i64 1)] bsu_,g2 20 14 17 19 a4_,g1 21 14 20 f3_,g1 22 14 21 ld,g2 23 14 16 22 ble_,m_ 24 [s_ 14,s_ 23,k_ (.bool false)] .pick]) (i_ 24 (sr_ [bf_ 2] .ret) .skip)))) (.reg [i1_ 25 7,v_ 7 25]))))))) (sr_ [v_ 26 0,o1 27 26 ln,c2 28 27 (.int .i64 4) ble_,v_ 2 28] .ret)))
theorem Sd:Ax Try.prog 57 1=some ⟨29,1,[(.slot 2)],Kb⟩:=by kernel_rfl
def Nq:AC:=(sr_ [o1 1 0 .box,bf_ 2] (sr_ [o1 3 1 f1_,o1 4 3 ld,c2 5 4 (.int .i64 0) bge_,v_ 6 5,g1 7 6 1 f1_,g1 8 6 7 ld,g_ 9 6 true [s_ 8,k_ (.int .i64 21)] bls_,m_ 10 [s_ 6,s_ 9,k_ (.bool false)] .pick,v_ 11 10,g1 12 11 1 f2_,g1 13 11 12 ld,g_ 14 11 true [s_ 13,k_ (.int .i64 1)] bge_,m_ 15 [s_ 11,s_ 14,k_ (.bool false)] .pick,v_ 16 15,g1 17 16 1 f2_,g1 18 16 17 ld,g_ 19 16 true [s_ 18,k_ (.int .i64 21)] ble_,m_ 20 [s_ 16,s_ 19,k_ (.bool false)] .pick,v_ 21 20,g1 22 21 1 f3_,g1 23 21 22 ld,g_ 24 21 true [s_ 23,k_ (.int .i64 0)] bge_,m_ 25 [s_ 21,s_ 24,k_ (.bool false)] .pick,v_ 26 25,g1 27 26 1 f3_,g1 28 26 27 ld,g_ 29 26 true [s_ 28,k_ (.int .i64 21)] bls_,m_ 30 [s_ 26,s_ 29,k_ (.bool false)] .pick,v_ 31 30,g1 32 31 1 f3_,g1 33 31 32 ld,g_ 34 31 true [s_ 33,k_ (.int .i64 0)] beq_,g1 35 31 34 .mv,g_ 36 35 false [s_ 1] f2_,g_ 37 35 false [s_ 36] ld,g_ 38 35 false [s_ 37,k_ (.int .i64 6)] ble_,g_ 39 31 true [s_ 35,k_ (.bool true),s_ 38] .pick,m_ 40 [s_ 31,s_ 39,k_ (.bool false)] .pick,v_ 2 40] .ret))
theorem Xn:Ax Try.prog 58 1=some ⟨41,1,[(.slot 2)],Nq⟩:=by kernel_rfl
def Ja:AC:=(sr_ [ns_ 0] (sr_ [m_ 1 [k_ (.int .i64 0),k_ (.int .i64 1114111)] (.build [(.int .i64 0),(.int .i64 0)] [(0,1),(1,1)] [0,1]),o1 2 1 (.bslice 2 1 (.agg [(.int .i64 0),(.int .i64 0)]) [0]),v_ 0 2] .ret))
theorem Pk:Ax Try.prog 59 0=some ⟨3,0,[(.slot 0)],Ja⟩:=by kernel_rfl
def Au:AC:=(sr_ [o1 2 0 .box,ns_ 4,bf_ 5] (sr_ [o0 17 .mkMap,v_ 6 17] (sr_ [ns_ 7] (.seq (sr_ [o1 18 2 f5_,o1 19 18 ld,o1 20 19 ln,z_ 21] (.block 0 (.loop (sr_ [o2 22 21 20 bls_] (.seq (ex_ 22 0) (.seq (.block 1 (sr_ [o2 23 19 21 a4_,o1 24 23 (.load true 4),o0 9 (.alloc (.agg [(.int .i64 0),(.int .i64 0),(.int .i64 0),(.int .i64 0)]) 4),n2 9 24 (.store 4)] (.seq (sr_ [v_ 25 6,o1 26 9 f0_,o1 27 26 ld,o2 28 25 27 (.mapGet .nilS),o1 29 28 ln,c2 30 29 (.int .i64 0) beq_] (i_ 30 (.reg [v_ 31 7,o1 32 9 f0_,o1 33 32 ld,o1 34 33 (.bslice 1 1 (.int .i64 0) [0]),o2 35 31 34 (.app 1 8 (.int .i64 0)),v_ 7 35]) .skip)) (.grx [false,true,true,false,true,true,false,true,false,false,false] [m_ 36 [s_ 6] .mv,m_ 37 [s_ 9] f0_,m_ 38 [s_ 37] ld,m_ 39 [s_ 6] .mv,m_ 40 [s_ 9] f0_,m_ 41 [s_ 40] ld,m_ 42 [s_ 39,s_ 41] (.mapGet .nilS),m_ 43 [s_ 9] (.load true 4),m_ 44 [s_ 43] (.bslice 4 1 (.agg [(.int .i64 0),(.int .i64 0),(.int .i64 0),(.int .i64 0)]) [0]),m_ 45 [s_ 42,s_ 44] (.app 4 32 (.agg [(.int .i64 0),(.int .i64 0),(.int .i64 0),(.int .i64 0)])),h_ [s_ 36,s_ 38,s_ 45] .mapSet])))) (.reg [i1_ 46 21,v_ 21 46]))))))) (sr_ [o1 47 2 f4_,o1 48 47 ld,o1 49 2 f4_,o1 50 49 ld,o2 51 48 50 (.build [(.int .i64 0),(.int .i64 0)] [(0,1),(1,1)] [0,1]),o1 52 51 (.bslice 2 1 (.agg [(.int .i64 0),(.int .i64 0)]) [0]),v_ 10 52] (.seq (sr_ [v_ 53 7,o1 54 53 ln,z_ 55] (.block 2 (.loop (sr_ [o2 56 55 54 bls_] (.seq (ex_ 56 2) (.seq (.block 3 (sr_ [o2 57 53 55 a1_,o1 58 57 ld,v_ 12 58] (.dtl [v_ 59 10,v_ 60 6,v_ 61 12,o2 62 60 61 (.mapGet .nilS),v_ 63 1,v_ 64 12,o2 65 63 64 a1_,o1 66 65 ld,k2 67 66 62 66] [k2 68 65 59 67,v_ 10 68]))) (.reg [i1_ 69 55,v_ 55 69]))))))) (sr_ [v_ 71 10,k1 72 67 71,v_ 70 72,o1 73 70 (.extract 0),o1 74 70 (.extract 1),v_ 13 73,v_ 14 74] (sr_ [v_ 76 10,k1 77 68 76,v_ 75 77,o1 78 75 (.extract 0),o1 79 75 (.extract 1),v_ 15 78,v_ 16 79] (sr_ [v_ 80 10,v_ 81 10,o1 82 81 ln,c2 83 82 (.int .i64 0) bgt_,v_ 84 83,g1 85 84 13 .mv,g_ 86 84 true [s_ 85,k_ (.int .i64 0)] bge_,m_ 87 [s_ 84,s_ 86,k_ (.bool false)] .pick,v_ 88 87,g1 89 88 15 .mv,g_ 90 88 true [s_ 89,k_ (.int .i64 1114111)] ble_,m_ 91 [s_ 88,s_ 90,k_ (.bool false)] .pick,v_ 4 80,v_ 5 91] .ret)))))))))
theorem Av:Ax Try.prog 60 2=some ⟨92,2,[(.slot 4),(.slot 5)],Au⟩:=by kernel_rfl
def Nr:AC:=(sr_ [c1 2 .nilF .mv] (sr_ [v_ 4 0,k1 5 43 4,o0 3 (.alloc .nilS 1),n2 3 5 st] (sr_ [o1 6 3 (.mkFunc 69),v_ 2 6] .ret)))
theorem Xo:Ax Try.prog 61 1=some ⟨7,1,[(.slot 2)],Nr⟩:=by kernel_rfl
def C1:AC:=(sr_ [bt_ 10] (sr_ [bt_ 11] (.block 0 (.loop (.block 1 (sr_ [v_ 21 2,v_ 22 1,o2 23 21 22 bsu_,v_ 12 23] (.seq (sr_ [v_ 24 12,c2 25 24 (.int .i64 12) ble_] (i_ 25 (sr_ [v_ 26 0,v_ 27 1,v_ 28 2,v_ 29 4,m_ 30 [k_ (.fn 70 []),s_ 26,s_ 27,s_ 28,s_ 29] .call] .ret) .skip)) (.seq (sr_ [v_ 31 3,c2 32 31 (.int .i64 0) beq_] (i_ 32 (sr_ [v_ 33 0,v_ 34 1,v_ 35 2,v_ 36 4,m_ 37 [k_ (.fn 71 []),s_ 33,s_ 34,s_ 35,s_ 36] .call] .ret) .skip)) (.seq (sr_ [v_ 38 10,o1 39 38 nt] (i_ 39 (sr_ [v_ 40 0,v_ 41 1,v_ 42 2,v_ 43 4,m_ 44 [k_ (.fn 72 []),s_ 40,s_ 41,s_ 42,s_ 43] .call] (.reg [v_ 45 3,c2 46 45 (.int .i64 1) bsu_,v_ 3 46])) .skip)) (sr_ [v_ 48 0,v_ 49 1,v_ 50 2,v_ 51 4,m_ 52 [k_ (.fn 73 []),s_ 48,s_ 49,s_ 50,s_ 51] .call,v_ 47 52,o1 53 47 (.extract 0),o1 54 47 (.extract 1),v_ 13 53,v_ 14 54] (.seq (sr_ [v_ 55 14,c2 56 55 (.int .i64 2) beq_] (i_ 56 (sr_ [v_ 57 0,v_ 58 1,v_ 59 2,v_ 60 4,m_ 61 [k_ (.fn 74 []),s_ 57,s_ 58,s_ 59,s_ 60] .call] (sr_ [v_ 62 2,c2 63 62 (.int .i64 1) bsu_,v_ 64 13,v_ 65 1,o2 66 64 65 bsu_,o2 67 63 66 bsu_,v_ 13 67] (.reg [c1 14 (.int .i64 1) .mv]))) .skip)) (.seq (sr_ [v_ 68 10,v_ 69 68,g1 70 69 11 .mv,m_ 71 [s_ 69,s_ 70,k_ (.bool false)] .pick,v_ 72 71,g1 73 72 14 .mv,g_ 74 72 true [s_ 73,k_ (.int .i64 1)] beq_,m_ 75 [s_ 72,s_ 74,k_ (.bool false)] .pick] (i_ 75 (sr_ [v_ 76 0,v_ 77 1,v_ 78 2,v_ 79 4,m_ 80 [k_ (.fn 75 []),s_ 76,s_ 77,s_ 78,s_ 79] .call] (i_ 80 .ret .skip)) .skip)) (.seq (.seq (.dtl [v_ 81 1,c2 82 81 (.int .i64 0) bgt_,v_ 83 82,g1 84 83 4 .mv,g1 85 83 0 .mv,g1 86 83 1 .mv,g_ 87 83 true [s_ 86,k_ (.int .i64 1)] bsu_,g2 88 83 85 87 a2_,g1 89 83 88 (.load true 2),g1 90 83 0 .mv,g1 91 83 13 .mv,g2 92 83 90 91 a2_,g1 93 83 92 (.load true 2)] [g_ 94 83 true [s_ 84,s_ 89,s_ 93] .call,g_ 95 83 true [s_ 94,k_ (.int .i64 0)] bls_,g1 96 83 95 nt,m_ 97 [s_ 83,s_ 96,k_ (.bool false)] .pick]) (i_ 97 (sr_ [v_ 98 0,v_ 99 1,v_ 100 2,v_ 101 13,v_ 102 4,m_ 103 [k_ (.fn 76 []),s_ 98,s_ 99,s_ 100,s_ 101,s_ 102] .call,v_ 15 103] (sr_ [v_ 104 15,v_ 1 104] (.exit 1))) .skip)) (sr_ [v_ 106 0,v_ 107 1,v_ 108 2,v_ 109 13,v_ 110 4,m_ 111 [k_ (.fn 77 []),s_ 106,s_ 107,s_ 108,s_ 109,s_ 110] .call,v_ 105 111,o1 112 105 (.extract 0),o1 113 105 (.extract 1),v_ 16 112,v_ 17 113] (sr_ [v_ 114 17,v_ 11 114] (sr_ [v_ 115 16,v_ 116 1,o2 117 115 116 bsu_,v_ 118 2,v_ 119 16,o2 120 118 119 bsu_,v_ 18 117,v_ 19 120] (sr_ [v_ 121 12,c2 122 121 (.int .i64 8) (.bin .quo),v_ 20 122] (sr_ [v_ 123 18,v_ 124 19,o2 125 123 124 bls_] (i_ 125 (sr_ [v_ 126 18,v_ 127 20,o2 128 126 127 bge_,v_ 10 128] (sr_ [v_ 129 0,v_ 130 1,v_ 131 16,v_ 132 3,v_ 133 4,m_ 134 [k_ (.fn 62 []),s_ 129,s_ 130,s_ 131,s_ 132,s_ 133] .call] (.reg [v_ 135 16,i1_ 136 135,v_ 1 136]))) (sr_ [v_ 137 19,v_ 138 20,o2 139 137 138 bge_,v_ 10 139] (sr_ [v_ 140 0,v_ 141 16,i1_ 142 141,v_ 143 2,v_ 144 3,v_ 145 4,m_ 146 [k_ (.fn 62 []),s_ 140,s_ 142,s_ 143,s_ 144,s_ 145] .call] (.reg [v_ 147 16,v_ 2 147]))))))))))))))))))))))
theorem Ef:Ax Try.prog 62 5=some ⟨148,5,[],C1⟩:=by kernel_rfl
def Hm:AC:=(sr_ [z_ 2] (.seq (.cond (.const (.bool false)) (sr_ [v_ 3 0,o1 4 3 (.conv .u32),k1 5 78 4,v_ 2 5] .ret) .skip) (sr_ [v_ 6 0,k1 7 79 6,v_ 2 7] .ret)))
theorem Ns:Ax Try.prog 63 1=some ⟨8,1,[(.slot 2)],Hm⟩:=by kernel_rfl
def Nt:AC:=(sr_ [ns_ 4] (sr_ [ns_ 5] (.seq (sr_ [v_ 10 0,o1 11 10 ln,z_ 12] (.block 0 (.loop (sr_ [o2 13 12 11 bls_] (.seq (ex_ 13 0) (.seq (.block 1 (sr_ [o2 14 10 12 a2_,o1 15 14 (.load true 2),o0 7 (.alloc (.agg [(.int .i64 0),(.int .i64 0)]) 2),n2 7 15 (.store 2)] (.seq (sr_ [v_ 16 1,o1 17 16 ln,z_ 18] (.block 2 (.loop (sr_ [o2 19 18 17 bls_] (.seq (ex_ 19 2) (.seq (.block 3 (sr_ [o2 20 16 18 a2_,o1 21 20 (.load true 2),o0 9 (.alloc (.agg [(.int .i64 0),(.int .i64 0)]) 2),n2 9 21 (.store 2)] (.reg [v_ 22 5,o1 23 7 f0_,o1 24 23 ld,o1 25 9 f0_,o1 26 25 ld,o2 27 24 26 bad_,o1 28 7 f1_,o1 29 28 ld,o1 30 9 f1_,o1 31 30 ld,o2 32 29 31 bad_,o2 33 27 32 (.build [(.int .i64 0),(.int .i64 0)] [(0,1),(1,1)] [0,1]),o1 34 33 (.bslice 2 1 (.agg [(.int .i64 0),(.int .i64 0)]) [0]),o2 35 22 34 (.app 2 16 (.agg [(.int .i64 0),(.int .i64 0)])),v_ 5 35]))) (.reg [i1_ 36 18,v_ 18 36]))))))) (sr_ [v_ 37 5,o1 38 37 ln,c2 39 38 (.int .i64 65536) bgt_] (i_ 39 (.reg [v_ 40 5,k1 41 43 40,v_ 5 41]) .skip))))) (.reg [i1_ 42 12,v_ 12 42]))))))) (sr_ [v_ 43 5,k1 44 43 43,v_ 4 44] .ret))))
theorem Xp:Ax Try.prog 65 2=some ⟨45,2,[(.slot 4)],Nt⟩:=by kernel_rfl
def Hn:AC:=(sr_ [o1 2 0 .box,ns_ 4] (.seq (sr_ [o1 13 2 ld,o1 14 13 ln,c2 15 14 (.int .i64 1) beq_] (i_ 15 (sr_ [o1 16 2 ld,c2 17 16 (.int .i64 0) a4_,o1 18 17 (.load true 4),v_ 19 1,k2 20 51 18 19,v_ 4 20] .ret) .skip)) (sr_ [o0 5 (.alloc .nilS 1)] (.seq (sr_ [v_ 21 1,k1 22 61 21] (.block 0 (.rng (.slot 22) [23] (.reg [v_ 6 23]) (.block 1 (sr_ [z_ 7] (.seq (sr_ [o1 24 2 ld,o1 25 24 ln,z_ 26] (.block 2 (.loop (sr_ [o2 27 26 25 bls_] (.seq (ex_ 27 2) (.seq (.block 3 (sr_ [o2 28 24 26 a4_,o1 29 28 (.load true 4),o0 9 (.alloc (.agg [(.int .i64 0),(.int .i64 0),(.int .i64 0),(.int .i64 0)]) 4),n2 9 29 (.store 4)] (sr_ [o1 31 9 (.load true 4),v_ 32 6,k2 33 80 31 32,v_ 30 33,o1 34 30 (.extract 0),o1 35 30 (.extract 1),v_ 10 34,v_ 11 35] (.reg [v_ 36 7,v_ 37 10,o2 38 36 37 bad_,v_ 7 38])))) (.reg [i1_ 39 26,v_ 26 39]))))))) (sr_ [o1 40 5 ld,o1 41 40 ln,v_ 12 41] (sr_ [v_ 42 12,c2 43 42 (.int .i64 0) bgt_,v_ 44 43,g1 45 44 5 ld,g1 46 44 12 .mv,g_ 47 44 true [s_ 46,k_ (.int .i64 1)] bsu_,g2 48 44 45 47 a2_,g1 49 44 48 f1_,g1 50 44 49 ld,g1 51 44 7 .mv,g_ 52 44 true [s_ 51,k_ (.int .i64 1)] bsu_,g2 53 44 50 52 beq_,m_ 54 [s_ 44,s_ 53,k_ (.bool false)] .pick] (i_ 54 (.reg [o1 55 5 ld,v_ 56 12,c2 57 56 (.int .i64 1) bsu_,v_ 58 7,o2 59 55 57 a2_,o1 60 59 f1_,n2 60 58 st]) (.reg [o1 61 5 ld,v_ 62 7,v_ 63 7,o2 64 62 63 (.build [(.int .i64 0),(.int .i64 0)] [(0,1),(1,1)] [0,1]),o1 65 64 (.bslice 2 1 (.agg [(.int .i64 0),(.int .i64 0)]) [0]),o2 66 61 65 (.app 2 16 (.agg [(.int .i64 0),(.int .i64 0)])),n2 5 66 st])))))))))) (sr_ [o1 67 5 ld,k1 68 43 67,v_ 4 68] .ret)))))
theorem Nu:Ax Try.prog 66 2=some ⟨69,2,[(.slot 4)],Hn⟩:=by kernel_rfl
def Lz:AC:=(sr_ [z_ 2,bf_ 3] (sr_ [v_ 5 0,k1 6 43 5,v_ 4 6] (.seq (sr_ [v_ 7 4,o1 8 7 ln,c2 9 8 (.int .i64 0) beq_] (i_ 9 (sr_ [z_ 2,bf_ 3] .ret) .skip)) (sr_ [v_ 10 4,c2 11 10 (.int .i64 0) a2_,o1 12 11 f0_,o1 13 12 ld,v_ 2 13,bt_ 3] .ret))))
theorem U7:Ax Try.prog 67 1=some ⟨14,1,[(.slot 2),(.slot 3)],Lz⟩:=by kernel_rfl
def Nv:AC:=(sr_ [z_ 2,bf_ 3] (sr_ [v_ 5 0,k1 6 43 5,v_ 4 6] (.seq (sr_ [v_ 7 4,o1 8 7 ln,c2 9 8 (.int .i64 0) beq_] (i_ 9 (sr_ [z_ 2,bf_ 3] .ret) .skip)) (sr_ [v_ 10 4,v_ 11 4,o1 12 11 ln,c2 13 12 (.int .i64 1) bsu_,o2 14 10 13 a2_,o1 15 14 f1_,o1 16 15 ld,v_ 2 16,bt_ 3] .ret))))
theorem Xq:Ax Try.prog 68 1=some ⟨17,1,[(.slot 2),(.slot 3)],Nv⟩:=by kernel_rfl
def Gp:AC:=(sr_ [o1 6 1 ld,o1 7 6 ln,z_ 8] (.block 0 (.loop (sr_ [o2 9 8 7 bls_] (.seq (ex_ 9 0) (.seq (.block 1 (sr_ [o2 10 6 8 a2_,o1 11 10 (.load true 2),o0 4 (.alloc (.agg [(.int .i64 0),(.int .i64 0)]) 2),n2 4 11 (.store 2)] (sr_ [o1 12 4 f0_,o1 13 12 ld,v_ 5 13] (.block 2 (.loop (.seq (sr_ [v_ 14 5,o1 15 4 f1_,o1 16 15 ld,o2 17 14 16 ble_] (ex_ 17 2)) (.seq (.block 3 (sr_ [v_ 20 0,v_ 21 5,o2 22 20 21 .call,o1 23 22 nt] (i_ 23 .ret .skip))) (.reg [v_ 18 5,i1_ 19 18,v_ 5 19])))))))) (.reg [i1_ 24 8,v_ 8 24])))))))
theorem Se:Ax Try.prog 69 2=some ⟨25,2,[],Gp⟩:=by kernel_rfl
def Ck:AC:=(sr_ [v_ 10 1,i1_ 11 10,v_ 8 11] (.block 0 (.loop (.seq (sr_ [v_ 12 8,v_ 13 2,o2 14 12 13 bls_] (ex_ 14 0)) (.seq (.block 1 (sr_ [v_ 17 8,v_ 9 17] (.block 2 (.loop (.seq (.seq (.dtl [v_ 18 9,v_ 19 1,o2 20 18 19 bgt_,v_ 21 20,g1 22 21 3 .mv,g1 23 21 0 .mv,g1 24 21 9 .mv,g2 25 21 23 24 a2_,g1 26 21 25 (.load true 2),g1 27 21 0 .mv,g1 28 21 9 .mv,g_ 29 21 true [s_ 28,k_ (.int .i64 1)] bsu_,g2 30 21 27 29 a2_,g1 31 21 30 (.load true 2)] [g_ 32 21 true [s_ 22,s_ 26,s_ 31] .call,g_ 33 21 true [s_ 32,k_ (.int .i64 0)] bls_,m_ 34 [s_ 21,s_ 33,k_ (.bool false)] .pick]) (ex_ 34 2)) (.seq (.block 3 (.greg [v_ 37 0,v_ 38 9,v_ 39 0,v_ 40 9,c2 41 40 (.int .i64 1) bsu_,v_ 42 0,v_ 43 9,c2 44 43 (.int .i64 1) bsu_,o2 45 42 44 a2_,o1 46 45 (.load true 2),v_ 47 0,v_ 48 9,o2 49 47 48 a2_,o1 50 49 (.load true 2),o2 51 37 38 a2_,n2 51 46 (.store 2),o2 52 39 41 a2_,n2 52 50 (.store 2)])) (.reg [v_ 35 9,c2 36 35 (.int .i64 1) bsu_,v_ 9 36]))))))) (.reg [v_ 15 8,i1_ 16 15,v_ 8 16]))))))
theorem Dr:Ax Try.prog 70 4=some ⟨53,4,[],Ck⟩:=by kernel_rfl
def Ga:AC:=(sr_ [z_ 2] (.seq (sr_ [v_ 3 0,c2 4 3 (.int .u64 4294967296) bge_] (i_ 4 (sr_ [v_ 5 0,c2 6 5 (.int .u64 32) (.bin .shr),v_ 0 6] (.reg [c1 2 (.int .i64 32) .mv])) .skip)) (.seq (sr_ [v_ 7 0,c2 8 7 (.int .u64 65536) bge_] (i_ 8 (sr_ [v_ 9 0,c2 10 9 (.int .u64 16) (.bin .shr),v_ 0 10] (.reg [v_ 11 2,c2 12 11 (.int .i64 16) bad_,v_ 2 12])) .skip)) (.seq (sr_ [v_ 13 0,c2 14 13 (.int .u64 256) bge_] (i_ 14 (sr_ [v_ 15 0,c2 16 15 (.int .u64 8) (.bin .shr),v_ 0 16] (.reg [v_ 17 2,c2 18 17 (.int .i64 8) bad_,v_ 2 18])) .skip)) (sr_ [v_ 19 2,v_ 20 0,o1 21 20 (.conv .u8),m_ 22 [k_ (.str [0,1,2,2,3,3,3,3,4,4,4,4,4,4,4,4,5,5,5,5,5,5,5,5,5,5,5,5,5,5,5,5,6,6,6,6,6,6,6,6,6,6,6,6,6,6,6,6,6,6,6,6,6,6,6,6,6,6,6,6,6,6,6,6,7,7,7,7,7,7,7,7,7,7,7,7,7,7,7,7,7,7,7,7,7,7,7,7,7,7,7,7,7,7,7,7,7,7,7,7,7,7,7,7,7,7,7,7,7,7,7,7,7,7,7,7,7,7,7,7,7,7,7,7,7,7,7,7,8,8,8,8,8,8,8,8,8,8,8,8,8,8,8,8,8,8,8,8,8,8,8,8,8,8,8,8,8,8,8,8,8,8,8,8,8,8,8,8,8,8,8,8,8,8,8,8,8,8,8,8,8,8,8,8,8,8,8,8,8,8,8,8,8,8,8,8,8,8,8,8,8,8,8,8,8,8,8,8,8,8,8,8,8,8,8,8,8,8,8,8,8,8,8,8,8,8,8,8,8,8,8,8,8,8,8,8,8,8,8,8,8,8,8,8,8,8,8,8,8,8,8,8,8,8,8,8]),s_ 21] .indexStr,o1 23 22 (.conv .i64),o2 24 19 23 bad_,v_ 2 24] .ret)))))
theorem Kw:Ax Try.prog 79 1=some ⟨25,1,[(.slot 2)],Ga⟩:=by kernel_rfl
def L1:AC:=(sr_ [o1 2 0 .box,z_ 4,bf_ 5] (.seq (sr_ [o1 6 2 (.load true 4),k1 7 58 6,o1 8 7 nt,v_ 9 8,g_ 10 9 false [s_ 1] .mv,g_ 11 9 false [s_ 10,k_ (.int .i64 0)] bls_,m_ 12 [s_ 9,k_ (.bool true),s_ 11] .pick,v_ 13 12,g_ 14 13 false [s_ 1] .mv,g_ 15 13 false [s_ 14,k_ (.int .i64 2097151)] bgt_,m_ 16 [s_ 13,k_ (.bool true),s_ 15] .pick] (i_ 16 (sr_ [z_ 4,bf_ 5] .ret) .skip)) (.seq (.dreg [v_ 17 1,o1 18 2 f1_,o1 19 18 ld,o2 20 17 19 (.bin .shr),o1 21 2 f2_,o1 22 21 ld,m_ 23 [k_ (.int .i64 1),s_ 22] (.bin .shl),c2 24 23 (.int .i64 1) bsu_,o2 25 20 24 (.bin .and),o1 26 2 f3_,o1 27 26 ld,o2 28 25 27 (.bin .shl),v_ 4 28,bt_ 5]) .ret)))
theorem U8:Ax Try.prog 80 2=some ⟨29,2,[(.slot 4),(.slot 5)],L1⟩:=by kernel_rfl
end Go.Proofs.Ytbcjoeadpjfcfaa

namespace Go.Proofs.Ytbcjoeadpjfcfaa
open Abs
theorem Mt {P:Program} {f m np b:Nat} {xs:List AV} {l:List Grp} {K:AV→Ac→Prop} {res:List ARes} {B:AC} (hf:Ax P f xs.length=some ⟨m,np,res,B⟩) (hb:b=l.length) (h:W P m b B (entry xs) (Abs.hl l) (Ret P res K)):Bj P f xs (Abs.hl l) K:=by
 subst hb;exact Zl hf (W_T h)
theorem zj4 (l:List Span):Bj Try.prog 70 [.ref 0 1 0 0,.int .i64 0,.int .i64 0,.fn 54 []] (Abs.hl [⟨2,1,true,l.map Bz⟩]) fun y H'=>y=.tup []∧H'=Abs.hl [⟨2,1,true,l.map Bz⟩]:=by
 refine Mt (b:=1) Dr rfl ?_;unfold Ck;(with_reducible repeat' (first|(simp(disch:=omega)only[push_cast,↓zz,seval])|refine And.intro ?_ ?_|(first|refine Ab ?_ ?_|refine Aa ?_ ?_)<;>intro hc<;>(try simp only[push_cast] at hc)|omega|intro _))
 refine A5 (Be (fun (_:Unit)=>True) (fun _=>0) (fun _=>[(0,.ref 0 1 0 0),(1,.int .i64 0),(2,.int .i64 0),(3,.fn 54 []),(8,.int .i64 1)])
   (fun _=>[⟨2,1,true,l.map Bz⟩]) (fun _ _=>[]) () trivial ?_ ?_)
 · (with_reducible repeat' (first|(simp(disch:=omega)only[push_cast,↓zz,seval])|refine And.intro ?_ ?_|(first|refine Ab ?_ ?_|refine Aa ?_ ?_)<;>intro hc<;>(try simp only[push_cast] at hc)|omega|intro _))
 rintro _ _;refine W_T ?_;(with_reducible repeat' (first|(simp(disch:=omega)only[push_cast,↓zz,seval])|refine And.intro ?_ ?_|(first|refine Ab ?_ ?_|refine Aa ?_ ?_)<;>intro hc<;>(try simp only[push_cast] at hc)|omega|intro _))
 all_goals trace_state
set_option maxRecDepth 100000 in
theorem len0:PC Try.prog 79 [.int .u64 0] (.int .i64 0):=by
 refine Bf Kw ?_;unfold Ga;(with_reducible repeat' (first|(simp(disch:=omega)only[push_cast,↓zz,seval])|refine And.intro ?_ ?_|(first|refine Ab ?_ ?_|refine Aa ?_ ?_)<;>intro hc<;>(try simp only[push_cast] at hc)|omega|intro _))
 all_goals decide
theorem z40:PC Try.prog 63 [.int .u64 0] (.int .i64 0):=by
 refine Bf Ns ?_;unfold Hm;(with_reducible repeat' (first|(simp(disch:=omega)only[push_cast,↓zz,seval])|refine And.intro ?_ ?_|(first|refine Ab ?_ ?_|refine Aa ?_ ?_)<;>intro hc<;>(try simp only[push_cast] at hc)|refine eK len0 ?_|refine eQ len0 ?_|refine eG len0 ?_|((first|refine cK len0 ?_|refine cQ len0 ?_|refine cG len0 ?_);(simp(disch:=omega)only[push_cast,↓zz,seval]);(fail_if_success change False))|omega|intro _))
theorem pdq0 (l:List Span):Bj Try.prog 62 [.ref 0 1 0 0,.int .i64 0,.int .i64 0,.int .i64 0,.fn 54 []] (Abs.hl [⟨2,1,true,l.map Bz⟩]) fun y H'=>y=.tup []∧H'=Abs.hl [⟨2,1,true,l.map Bz⟩]:=by
 refine Mt (b:=1) Ef rfl ?_;unfold C1;(with_reducible repeat' (first|(simp(disch:=omega)only[push_cast,↓zz,seval])|refine And.intro ?_ ?_|(first|refine Ab ?_ ?_|refine Aa ?_ ?_)<;>intro hc<;>(try simp only[push_cast] at hc)|omega|intro _))
 refine A5 (Be (fun (_:Unit)=>True) (fun _=>0) (fun _=>[(0,.ref 0 1 0 0),(1,.int .i64 0),(2,.int .i64 0),(3,.int .i64 0),(4,.fn 54 []),(10,.bool true),(11,.bool true)])
   (fun _=>[⟨2,1,true,l.map Bz⟩]) (fun _ _=>[]) () trivial ?_ ?_)
 · (with_reducible repeat' (first|(simp(disch:=omega)only[push_cast,↓zz,seval])|refine And.intro ?_ ?_|(first|refine Ab ?_ ?_|refine Aa ?_ ?_)<;>intro hc<;>(try simp only[push_cast] at hc)|omega|intro _))
 rintro _ _;refine W_T ?_;(with_reducible repeat' (first|(simp(disch:=omega)only[push_cast,↓zz,seval])|refine And.intro ?_ ?_|(first|refine Ab ?_ ?_|refine Aa ?_ ?_)<;>intro hc<;>(try simp only[push_cast] at hc)|omega|intro _));refine Bj.mono (zj4 l) ?_;rintro y H' ⟨rfl,rfl⟩;(with_reducible repeat' (first|(simp(disch:=omega)only[push_cast,↓zz,seval])|refine And.intro ?_ ?_|(first|refine Ab ?_ ?_|refine Aa ?_ ?_)<;>intro hc<;>(try simp only[push_cast] at hc)|omega|intro _))
 all_goals trace_state
theorem sort0 (l:List Span):Bj Try.prog 53 [.ref 0 1 0 0,.fn 54 []] (Abs.hl [⟨2,1,true,l.map Bz⟩]) fun y H'=>y=.tup []∧H'=Abs.hl [⟨2,1,true,l.map Bz⟩]:=by
 refine Mt (b:=1) D7 rfl ?_;unfold Cs;(with_reducible repeat' (first|(simp(disch:=omega)only[push_cast,↓zz,seval])|refine And.intro ?_ ?_|(first|refine Ab ?_ ?_|refine Aa ?_ ?_)<;>intro hc<;>(try simp only[push_cast] at hc)|refine eK z40 ?_|refine eQ z40 ?_|refine eG z40 ?_|((first|refine cK z40 ?_|refine cQ z40 ?_|refine cG z40 ?_);(simp(disch:=omega)only[push_cast,↓zz,seval]);(fail_if_success change False))|omega|intro _));refine Bj.mono (pdq0 l) ?_;rintro y H' ⟨rfl,rfl⟩;(with_reducible repeat' (first|(simp(disch:=omega)only[push_cast,↓zz,seval])|refine And.intro ?_ ?_|(first|refine Ab ?_ ?_|refine Aa ?_ ?_)<;>intro hc<;>(try simp only[push_cast] at hc)|omega|intro _))
 all_goals trace_state
end Go.Proofs.Ytbcjoeadpjfcfaa
