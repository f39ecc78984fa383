/-
  Parts of the proof that the law holds whatever the input; without conditions.
-/
import Derived.Below
import Derived.Deep.Slices
import Derived.OpenShut
import Derived.Carry
import Derived.WideShapes
import Derived.ProofKit
import Derived.ChangeOld
import Derived.Test.YtbcjoeadpjfcfaaGreatRA2
set_option linter.unusedSimpArgs false
set_option linter.unusedVariables false
namespace Go.Proofs.YtbcjoeadpjfcfaaGreat.Abs
def Grp.dead (G:Grp):Grp:=⟨0,G.ver+1,false,[]⟩
def Ac.kill (H:Ac) (ks:List Nat):Ac:=⟨H.n,fun g=>if g∈ks then (H.at_ g).dead else H.at_ g⟩
def Ac.only (H:Ac) (ks:List Nat):Ac:=⟨H.n,fun g=>if g∈ks then H.at_ g else (H.at_ g).dead⟩
def MS.only (S:MS) (ks:List Nat):MS:={ S with cur:=fun g=>if g∈ks then S.cur g else S.cur g+1,wid:=fun g=>if g∈ks then S.wid g else 0 }
def MS.kill (S:MS) (H:Ac) (ks:List Nat):MS:={ S with
 im:=fun b=>S.im b∨∃ g,g<H.n∧g∈ks∧0<(H.at_ g).w∧0<S.cap g∧b=S.place g
 cur:=fun g=>if g∈ks then S.cur g+1 else S.cur g
 wid:=fun g=>if g∈ks then 0 else S.wid g }
section
variable {S:MS} {H:Ac} (ks:List Nat)
theorem Va:Evo S (S.only ks):=by
 refine⟨rfl,rfl,⟨rfl,Nat.le_refl _⟩,rfl,Nat.le_refl _,fun _ _=>rfl,fun _ h=>h,fun _ h=>h,fun _ h=>.inl h,Nat.le_refl _,fun g _=>?_,fun g _ hc=>?_⟩
 · show S.cur g≤if g∈ks then S.cur g else S.cur g+1
   split<;>omega
 · have hc':(if g∈ks then S.cur g else S.cur g+1)=S.cur g:=hc
   refine⟨rfl,rfl,?_⟩;show (if g∈ks then S.wid g else 0)=S.wid g;by_cases h:g∈ks
   · rw[if_pos h]
   · rw[if_neg h] at hc';omega
theorem z4e {S':MS} {G:Grp} {g:Nat} (h1:S'.cur g=G.ver+1) (h2:S'.wid g=0):GRel S' G.dead g:=⟨h1,h2,fun h=>absurd h (Nat.lt_irrefl _),fun h=>absurd h (Nat.lt_irrefl _),fun h=>absurd h (Nat.lt_irrefl _),fun _ h=>by cases h⟩
theorem z4f {G:Grp} {c:Nat}:¬G.dead.has c:=by
 rintro (⟨h,_⟩|⟨_,h⟩)
 · exact absurd h (Nat.lt_irrefl _)
 · cases h
theorem zge (h:SRel S H):SRel (S.only ks) (H.only ks) where
 n:=h.n
 grp g hg:=by
   have hG:=h.grp g hg;by_cases hk:g∈ks
   · have e1:(H.only ks).at_ g=H.at_ g:=by show (if g∈ks then _ else _)=_;rw[if_pos hk]
     have e2:(S.only ks).cur g=S.cur g:=by show (if g∈ks then _ else _)=_;rw[if_pos hk]
     have e3:(S.only ks).wid g=S.wid g:=by show (if g∈ks then _ else _)=_;rw[if_pos hk]
     rw[e1];refine⟨e2.trans hG.ver,e3.trans hG.wid,fun hw hc=>?_,hG.len,hG.full,fun hw he=>?_⟩
     · obtain⟨⟨cells,T,vs,a1,a2,a3,a4⟩,b⟩:=hG.live hw hc
       exact⟨⟨cells,T,vs,a1,a2,Ad.mono (Va ks) _ a3,a4⟩,b⟩
     · obtain⟨⟨es,clock,a1,a2⟩,b⟩:=hG.mlive hw he
       exact⟨⟨es,clock,a1,Ad.mono (Va ks) _ a2⟩,b⟩
   · have e1:(H.only ks).at_ g=(H.at_ g).dead:=by show (if g∈ks then _ else _)=_;rw[if_neg hk]
     have e2:(S.only ks).cur g=S.cur g+1:=by show (if g∈ks then _ else _)=_;rw[if_neg hk]
     have e3:(S.only ks).wid g=0:=by show (if g∈ks then _ else _)=_;rw[if_neg hk]
     rw[e1];exact z4e (by rw[e2,hG.ver]) e3
 apart g g' hg hg' hne hw hw':=by
   have key:∀ g,((H.only ks).at_ g).has (S.cap g)→(H.at_ g).has (S.cap g):=fun g hw=>by
     have:(if g∈ks then H.at_ g else (H.at_ g).dead).has (S.cap g):=hw;split at this
     · exact this
     · exact absurd this z4f
   exact h.apart g g' hg hg' hne (key g hw) (key g' hw')
 im:=h.im
theorem G4 (h:SRel S H):Evo S (S.kill H ks):=by
 refine⟨rfl,rfl,⟨rfl,Nat.le_refl _⟩,rfl,Nat.le_refl _,fun _ _=>rfl,fun _ h=>.inl h,fun _ h=>h,fun b hb=>?_,Nat.le_refl _,fun g _=>?_,fun g _ hc=>?_⟩
 · rcases hb with hb|⟨g,hg,_,hw,hc,rfl⟩
   · exact .inl hb
   · exact .inr fun hk=>((h.grp g hg).live hw hc).2 (.inr hk)
 · show S.cur g≤if g∈ks then S.cur g+1 else S.cur g
   split<;>omega
 · have hc':(if g∈ks then S.cur g+1 else S.cur g)=S.cur g:=hc
   refine⟨rfl,rfl,?_⟩;show (if g∈ks then 0 else S.wid g)=S.wid g;by_cases h:g∈ks
   · rw[if_pos h] at hc';omega
   · rw[if_neg h]
theorem Ov (h:SRel S H):SRel (S.kill H ks) (H.kill ks) where
 n:=h.n
 grp g hg:=by
   have hG:=h.grp g hg;by_cases hk:g∈ks
   · have e1:(H.kill ks).at_ g=(H.at_ g).dead:=by show (if g∈ks then _ else _)=_;rw[if_pos hk]
     have e2:(S.kill H ks).cur g=S.cur g+1:=by show (if g∈ks then _ else _)=_;rw[if_pos hk]
     have e3:(S.kill H ks).wid g=0:=by show (if g∈ks then _ else _)=_;rw[if_pos hk]
     rw[e1];exact z4e (by rw[e2,hG.ver]) e3
   · have e1:(H.kill ks).at_ g=H.at_ g:=by show (if g∈ks then _ else _)=_;rw[if_neg hk]
     have e2:(S.kill H ks).cur g=S.cur g:=by show (if g∈ks then _ else _)=_;rw[if_neg hk]
     have e3:(S.kill H ks).wid g=S.wid g:=by show (if g∈ks then _ else _)=_;rw[if_neg hk]
     rw[e1]
     have hni:(H.at_ g).has (S.cap g)→¬((S.kill H ks).im (S.place g)∨(S.kill H ks).keep (S.place g)):=fun hq=>by
       have b3:=hG.has_ni hq;rintro ((hi|⟨g',hg',hk',hw',hc',he⟩)|hi)
       · exact b3 (.inl hi)
       · exact h.apart g g' hg hg' (fun hgg=>hk (hgg ▸ hk')) hq (.inl ⟨hw',hc'⟩) he
       · exact b3 (.inr hi)
     refine⟨e2.trans hG.ver,e3.trans hG.wid,fun hw hc=>?_,hG.len,hG.full,fun hw he=>?_⟩
     · obtain⟨⟨cells,T,vs,a1,a2,a3,a4⟩,b3⟩:=hG.live hw hc
       exact⟨⟨cells,T,vs,a1,a2,Ad.mono (G4 ks h) _ a3,a4⟩,hni (.inl ⟨hw,hc⟩)⟩
     · obtain⟨⟨es,clock,a1,a2⟩,b3⟩:=hG.mlive hw he
       exact⟨⟨es,clock,a1,Ad.mono (G4 ks h) _ a2⟩,hni (.inr ⟨hw,he⟩)⟩
 apart g g' hg hg' hne hw hw':=by
   have key:∀ g,((H.kill ks).at_ g).has (S.cap g)→(H.at_ g).has (S.cap g):=fun g hw=>by
     have:(if g∈ks then (H.at_ g).dead else H.at_ g).has (S.cap g):=hw;split at this
     · exact absurd this z4f
     · exact this
   exact h.apart g g' hg hg' hne (key g hw) (key g' hw')
 im b hb:=by
   rcases hb with (hb|⟨g,hg,_,hw,hc,rfl⟩)|hb
   · exact h.im b (.inl hb)
   · exact (h.grp g hg).lt hw hc
   · exact h.im b (.inr hb)
theorem Ow (h:SRel S H) (d:Nat) {x:AV} {v:Value} (hok:Cp d (H.only ks) x) (hv:VRel S x v):VRel (S.kill H ks) (frzV d (H.only ks) x) v:=by
 obtain⟨k1,k2⟩:=Xw (zge ks h) d hok (VRel.mono (Va ks) _ hv);refine VRel.of_pure (S:=(S.only ks).shut (H.only ks)) (S':=S.kill H ks) rfl (fun b hb=>?_) k2 k1;rcases hb with hb|⟨g,hg,hw,hc,rfl⟩
 · exact .inl hb
 · have hw':0<(if g∈ks then H.at_ g else (H.at_ g).dead).w:=hw
   split at hw'
   · rename_i hk;exact .inr ⟨g,hg,hk,hw',hc,rfl⟩
   · exact absurd hw' (Nat.lt_irrefl _)
theorem Xx (h:SRel S H) (d:Nat):∀ {xs:List AV} {vs:List Value},(∀ y∈xs,Cp d (H.only ks) y)→Ad S xs vs→Ad (S.kill H ks) (xs.map (frzV d (H.only ks))) vs
 | [],_,_,hh=>hh
 | x::xs,vs,hc,hh=>by
   obtain⟨u,r,rfl,h1,h2⟩:=hh;exact⟨u,r,rfl,Ow ks h d (hc x (by simp)) h1,Xx h d (fun y hy=>hc y (by simp[hy])) h2⟩
end
theorem Vb {P:Program} {f:Nat} {xs:List AV} {H:Ac} {K:AV→Ac→Prop} (d:Nat) (ks:List Nat) (hok:∀ x∈xs,Cp d (H.only ks) x) (h:Be P f (xs.map (frzV d (H.only ks))) (H.kill ks) K):Be P f xs H K:=by
 refine⟨h.1,fun S cargs hS hx=>(h.2 (S.kill H ks) cargs (Ov ks hS) (Xx ks hS d hok hx)).mono fun e w' hh=>?_⟩;obtain⟨v,S',x,H',rfl,rfl,ev,hS',hv,hK⟩:=hh;exact⟨v,S',x,H',rfl,rfl,(G4 ks hS).trans ev,hS',hv,hK⟩
theorem zmh (G:Grp):G.dead=⟨0,G.ver+1,false,[]⟩:=(rfl)
theorem zr5 (H:Ac) (ks:List Nat):(H.kill ks).n=H.n:=(rfl)
theorem zr6 (H:Ac) (ks:List Nat):(H.only ks).n=H.n:=(rfl)
attribute [push_cast] zan z7h zgd zal zam z7f z7g z7i z7j zao z28 z29 z30 z31 z32 z33 zr5 zr6 zmh
attribute [push_cast] List.map_cons List.map_nil List.drop_zero List.drop_succ_cons List.take_succ_cons List.take_zero List.drop_nil List.take_nil List.length_cons List.length_nil List.getD_cons_zero List.getD_cons_succ List.set_cons_zero List.set_cons_succ Option.getD_some Option.getD_none List.length_set List.append_assoc List.nil_append List.append_nil List.cons_append List.getElem?_cons_zero List.getElem?_cons_succ List.forall_mem_cons List.not_mem_nil List.length_map Bool.false_eq_true Bool.true_eq_false false_implies true_implies forall_const true_and and_true false_and and_false cond_true cond_false Bool.not_true Bool.not_false decide_eq_true_eq decide_eq_false_iff_not not_false_eq_true not_true_eq_false imp_false Nat.lt_irrefl Nat.le_refl Nat.zero_add Nat.add_zero Nat.zero_lt_succ Nat.lt_add_one implies_true decide_true decide_false Bool.not_eq_true Bool.not_eq_false Bool.not_eq_true' Bool.not_eq_false' eq_self Bool.and_self Bool.and_true Bool.true_and Bool.and_false Bool.false_and Bool.or_true Bool.true_or Bool.or_false Bool.false_or ne_eq Int.natCast_nonneg Int.toNat_natCast or_self true_or or_true false_or or_false and_self Int.cast_ofNat_Int if_true if_false
open Go.RowKit
def MS.start (w:World):MS:=⟨w,fun b=>b<w.heap.size,fun _=>False,0,fun _=>0,fun _=>0,fun _=>0,fun _=>0,0⟩
theorem zar (w:World):SRel (MS.start w) Ac.nil :=
 ⟨rfl,fun g hg=>absurd hg (Nat.not_lt_zero _),fun g _ hg=>absurd hg (Nat.not_lt_zero _),fun b hb=>hb.elim id False.elim⟩
theorem PC.below {P:Program} {f:Nat} {xs:List AV} {b:Bool} (h:PC P f xs (.bool b)) {w:World} {cargs:List Value} (hx:Ad (MS.start w) xs cargs) :
   Calls P f cargs.toArray w fun e w'=>e=.returned (.bool b)∧Below w.heap.size w w':=by
 refine (h.2 (MS.start w) cargs (zar w) hx).mono fun e w' hh=>?_;obtain⟨v,S',x,H',rfl,rfl,ev,_,hv,rfl,_⟩:=hh;have hv':v=.bool b:=hv;subst hv';exact⟨rfl,ev.os,ev.tape.1,ev.output,ev.size,fun k hk=>ev.kept k (.inl hk)⟩
theorem z7k {w:World} {a:Addr} {v:Value} (h:w.cell? a=some v):a.block<w.heap.size:=by
 unfold World.cell? at h;split at h
 · rename_i hb;exact (Array.getElem?_eq_some_iff.1 hb).1
 · cases h
class HK where
 f:AV→Ac→Prop
class HQ where
 f:AV→Prop
class HP where
 p:Prop
class HY where
 y:AV
def Vd (P:Program) (f:Nat) (xs:List AV) (H:Ac) [K:HK]:Prop:=Be P f xs H K.f
def zgf (P:Program) (f:Nat) (xs:List AV) (H:Ac) [K:HQ]:Prop:=∃ y,Be P f xs H (fun z H'=>z=y∧H'=H)∧K.f y
def J6 [L:HP]:Prop:=L.p
def opK (P:Program):AK→Ac→List AV→[HK]→Prop
 | .call,H,.fn f caps::xs,K=>Vd P f (xs++caps) H
 | k,H,xs,K=>Ae P k H xs K.f
def opQ (P:Program):AK→Ac→List AV→[HQ]→Prop
 | .call,H,.fn f caps::xs,K=>zgf P f (xs++caps) H
 | .bslice w len z idx,H,xs,K=>Hf w len idx xs∧0<w∧Ak (D7 idx xs (List.replicate len z))=true∧K.f (.full w (D7 idx xs (List.replicate len z)))
 | k,H,xs,K=>k.still=true∧Ae P k H xs fun x _=>K.f x
def En (x:AV) (w:Bool) [p:HP] [q:HP] [r:HP]:Prop:=Gp x w p.p q.p r.p
def wk (P:Program):List AOp→Env→Ac→(Env→Ac→Prop)→Prop
 | [],env,H,K=>K env H
 | ⟨dst,args,none,k⟩::l,env,H,K=>@opK P k H (args.map (·.eval env)) ⟨fun x H'=>wk P l (env.put dst x) H' K⟩
 | ⟨dst,args,some (d,want),k⟩::l,env,H,K=>@En (env d) want
     ⟨@opK P k H (args.map (·.eval (env.put (some d) (.bool want)))) ⟨fun x H'=>wk P l ((env.put (some d) (.bool want)).put dst x) H' K⟩⟩
     ⟨wk P l ((env.put (some d) (.bool (!want))).put dst (.tup [])) H K⟩ ⟨wk P l (env.put dst (.tup [])) H K⟩
def qk (P:Program) (H:Ac):List AOp→Env→(Env→Prop)→Prop
 | [],env,K=>K env
 | ⟨dst,args,none,k⟩::l,env,K=>@opQ P k H (args.map (·.eval env)) ⟨fun x=>qk P H l (env.put dst x) K⟩
 | ⟨dst,args,some (d,want),k⟩::l,env,K=>@En (env d) want
     ⟨@opQ P k H (args.map (·.eval (env.put (some d) (.bool want)))) ⟨fun x=>qk P H l ((env.put (some d) (.bool want)).put dst x) K⟩⟩
     ⟨qk P H l ((env.put (some d) (.bool (!want))).put dst (.tup [])) K⟩ ⟨qk P H l (env.put dst (.tup [])) K⟩
class HG where
 f:AV→List Grp→Prop
def zgg (P:Program) (f:Nat) (xs:List AV) (l:List Grp) [K:HG]:Prop:=∃ y,(∀ H,Be P f xs H fun z H'=>z=y∧H'=H)∧K.f y l
def opG (P:Program):AK→List Grp→List AV→[HG]→Prop
 | .call,l,.fn f caps::xs,K=>zgg P f (xs++caps) l
 | .bslice w len z idx,l,xs,K=>Hf w len idx xs∧0<w∧Ak (D7 idx xs (List.replicate len z))=true∧K.f (.full w (D7 idx xs (List.replicate len z))) l
 | k,l,xs,K=>(k.still=true∧Bi (·<l.length) xs∧Ae P k (hl l) xs fun x _=>K.f x l)∨(k.still=false∧k.eff.isSome=true∧k.appOk=true∧Uy k xs∧Ae P k (hl l) xs fun x H'=>∀ l',H'=hl l'→K.f x l')
def gk (P:Program):List AOp→Env→List Grp→(Env→List Grp→Prop)→Prop
 | [],env,l,K=>K env l
 | ⟨dst,args,none,k⟩::r,env,l,K=>@opG P k l (args.map (·.eval env)) ⟨fun x l'=>gk P r (env.put dst x) l' K⟩
 | ⟨dst,args,some (d,want),k⟩::r,env,l,K=>@En (env d) want
     ⟨@opG P k l (args.map (·.eval (env.put (some d) (.bool want)))) ⟨fun x l'=>gk P r ((env.put (some d) (.bool want)).put dst x) l' K⟩⟩
     ⟨gk P r ((env.put (some d) (.bool (!want))).put dst (.tup [])) l K⟩ ⟨gk P r (env.put dst (.tup [])) l K⟩
def z0q (x:AV) [p:HP] [q:HP]:Prop:=z0p x p.p q.p
def W (P:Program) (n b:Nat):AC→Env→Ac→(Ex→Env→Ac→Prop)→Prop
 | .skip,env,H,Q=>Q .normal env H
 | .reg ops,env,H,Q=>wk P ops env H fun env' H'=>Q .normal env' H'
 | .dreg ops,env,H,Q=>qk P H ops env fun env'=>Q .normal env' H
 | .dtl pre post,env,H,Q=>qk P H pre env fun env'=>wk P post env' H fun env' H'=>Q .normal env' H'
 | .greg ops,env,H,Q=>∃ l,H=hl l∧gk P ops env l fun env' l'=>Q .normal env' (hl l')
 | .grx fl ops,env,H,Q=>@J6 ⟨T P n b (.grx fl ops) env H Q⟩
 | .gry fl ops,env,H,Q=>@J6 ⟨T P n b (.gry fl ops) env H Q⟩
 | .seq x y,env,H,Q=>W P n b x env H (Ex.then (fun env' H'=>W P n b y env' H' Q) Q)
 | .cond c x y,env,H,Q=>@z0q (c.eval env) ⟨W P n b x env H Q⟩ ⟨W P n b y env H Q⟩
 | .block id c,env,H,Q=>W P n b c env H (Ex.inBlock id Q)
 | .loop c,env,H,Q=>@J6 ⟨T P n b (.loop c) env H Q⟩
 | .rng f ps a c,env,H,Q=>@J6 ⟨T P n b (.rng f ps a c) env H Q⟩
 | .exit id,env,H,Q=>Q (.exit id) env H
 | .ret,env,H,Q=>Q .ret env H
section
variable {P:Program} {n b:Nat} {env:Env} {H:Ac} {Q:Ex→Env→Ac→Prop} {K:Env→Ac→Prop}
theorem z4g (P:Program) (k:AK) (H:Ac) (xs:List AV) (K:AV→Ac→Prop):@opK P k H xs ⟨K⟩=Ae P k H xs K:=by
 unfold opK;split<;>rfl
theorem zkv (P:Program) (k:AK) (H:Ac) (xs:List AV) (K:AV→Prop):@opQ P k H xs ⟨K⟩=Xh P k H xs K:=by
 unfold opQ Xh;split
 · rfl
 · rfl
 · rename_i h1 h2
   split
   · rename_i f caps ys;exact absurd rfl (h2 f caps ys rfl)
   · rename_i w len z idx;exact absurd rfl (h1 w len z idx)
   · rfl
theorem Ms (P:Program):∀ (l:List AOp) (env:Env) (H:Ac) (K:Env→Ac→Prop),wk P l env H K=runK P l env H K
 | [],_,_,_=>rfl
 | ⟨dst,args,none,k⟩::l,env,H,K=>by
   have h:(fun x H'=>wk P l (env.put dst x) H' K)=fun x H'=>runK P l (env.put dst x) H' K:=funext fun x=>funext fun H'=>Ms P l _ H' K;show @opK P k H (args.map (·.eval env)) ⟨_⟩=_
   rw[h,z4g];rfl
 | ⟨dst,args,some (d,want),k⟩::l,env,H,K=>by
   have h:∀ env:Env,(fun x H'=>wk P l (env.put dst x) H' K)=fun x H'=>runK P l (env.put dst x) H' K:=fun env=>funext fun x=>funext fun H'=>Ms P l _ H' K;show @En (env d) want ⟨@opK P k H _ ⟨_⟩⟩ ⟨_⟩ ⟨_⟩=_;rw[h,z4g,Ms,Ms];rfl
theorem z7l (P:Program) (H:Ac):∀ (l:List AOp) (env:Env) (K:Env→Prop),qk P H l env K=runQ P H l env K
 | [],_,_=>rfl
 | ⟨dst,args,none,k⟩::l,env,K=>by
   have h:(fun x=>qk P H l (env.put dst x) K)=fun x=>runQ P H l (env.put dst x) K:=funext fun x=>z7l P H l _ K;show @opQ P k H (args.map (·.eval env)) ⟨_⟩=_
   rw[h,zkv];rfl
 | ⟨dst,args,some (d,want),k⟩::l,env,K=>by
   have h:∀ env:Env,(fun x=>qk P H l (env.put dst x) K)=fun x=>runQ P H l (env.put dst x) K:=fun env=>funext fun x=>z7l P H l _ K;show @En (env d) want ⟨@opQ P k H _ ⟨_⟩⟩ ⟨_⟩ ⟨_⟩=_;rw[h,zkv,z7l,z7l];rfl
theorem zas {k:AK} (h:k.still=true):k.eff=none:=by
 cases k<;>first|rfl|(simp[AK.still] at h)
theorem Mt {k:AK} {l:List Grp} {xs:List AV} {K:AV→List Grp→Prop} (h:@opG P k l xs ⟨K⟩):if k.eff.isNone then ∃ x,QG P k l xs x∧K x l else ∃ x l',Ae P k (hl l) xs (fun y H'=>y=x∧H'=hl l')∧Comm P k l l'∧K x l':=by
 unfold opG at h;split at h
 · obtain⟨y,h1,h2⟩:=h
   exact⟨y,.inl ⟨_,_,_,rfl,rfl,h1⟩,h2⟩
 · exact⟨_,.inr (.inl ⟨_,_,_,_,rfl,h.1,h.2.1,h.2.2.1,rfl⟩),h.2.2.2⟩
 · rcases h with⟨h1,h2,h3⟩|⟨_,h2,ha,ho,h3⟩
   · rw[zas h1]
     obtain⟨x,h4,h5⟩:=Pd h1 h3;refine⟨x,.inr (.inr ⟨h1,h2,?_⟩),h5⟩;exact still_mono h1 (fun _ _ hh=>hh.1) h4
   · obtain⟨e,he⟩:=Option.isSome_iff_exists.1 h2
     rw[if_neg (by rw[he];simp)];obtain⟨x,l',b1,b2,b3⟩:=zme he ha ho h3;exact⟨x,l',b1,b3,b2 l' rfl⟩
theorem Kr {x:AV} {w:Bool} {p q r p' q' r':Prop} (hp:p→p') (hq:q→q') (hr:r→r') (h:Gp x w p q r):Gp x w p' q' r':=by
 unfold Gp at h ⊢;split at h<;>first|exact hp h|exact hq h|exact hr h|exact h.elim
theorem Ph (P:Program):∀ (L:List AOp) (env:Env) (l:List Grp) {K:Env→List Grp→Prop},gk P L env l K→runG P L env l K
 | [],_,_,_,h=>h
 | ⟨dst,args,none,k⟩::r,env,l,K,h=>by
   have h':@opG P k l (args.map (·.eval env)) ⟨fun x l'=>gk P r (env.put dst x) l' K⟩:=h
   have:=Mt h';simp only[runG,Gq,AOp.vals,if_true];split at this
   · rename_i he
     rw[if_pos he];obtain⟨x,h1,h2⟩:=this;exact⟨x,h1,Ph P r _ _ h2⟩
   · rename_i he
     rw[if_neg he];obtain⟨x,l',b1,b2,b3⟩:=this;exact⟨x,l',b1,b2,Ph P r _ _ b3⟩
 | ⟨dst,args,some (d,want),k⟩::r,env,l,K,h=>by
   have h':Gp (env d) want (@opG P k l (args.map (·.eval (env.put (some d) (.bool want)))) ⟨fun x l'=>gk P r ((env.put (some d) (.bool want)).put dst x) l' K⟩)
     (gk P r ((env.put (some d) (.bool (!want))).put dst (.tup [])) l K) (gk P r (env.put dst (.tup [])) l K):=h
   simp only[runG,Gq,AOp.vals,if_true,Bool.false_eq_true,if_false];refine Kr (fun h1=>?_) (fun h1=>Ph P r _ _ h1) (fun h1=>Ph P r _ _ h1) h';have:=Mt h1;split at this
   · rename_i he
     obtain⟨x,h1,h2⟩:=this;rw[if_pos he];exact⟨x,h1,Ph P r _ _ h2⟩
   · rename_i he
     rw[if_neg he];obtain⟨x,l',b1,b2,b3⟩:=this;exact⟨x,l',b1,b2,Ph P r _ _ b3⟩
theorem zkw {l l':List Grp} (h:hl l=hl l'):l=l':=by
 have h1:l.length=l'.length:=congrArg Ac.n h;refine List.ext_getElem h1 fun i hi hi'=>?_;have h2:(hl l).at_ i=(hl l').at_ i:=by rw[h]
 rw[Cy,Cy] at h2;simpa [List.getD,hi,hi'] using h2
theorem W_T:∀ {c:AC} {env:Env} {H:Ac} {Q:Ex→Env→Ac→Prop},W P n b c env H Q→T P n b c env H Q
 | .skip,_,_,_,h=>zqy h
 | .reg ops,env,H,Q,h=>T_reg (by have h':wk P ops env H _:=h;rwa [Ms] at h')
 | .dreg ops,env,H,Q,h=>zqz (by have h':qk P H ops env _:=h;rwa [z7l] at h')
 | .dtl pre post,env,H,Q,h=>T_dtl (by
   have h':qk P H pre env _:=h;rw[z7l] at h';have e:(fun env'=>wk P post env' H fun env' H'=>Q .normal env' H')=fun env'=>runK P post env' H fun env' H'=>Q .normal env' H':=funext fun env'=>Ms P post env' H _
   rwa [e] at h')
 | .greg ops,env,H,Q,h=>by
   obtain⟨l,rfl,h'⟩:=h;exact zr0 (Ph P ops env l h')
 | .grx ..,_,_,_,h=>h
 | .gry ..,_,_,_,h=>h
 | .seq x y,_,_,_,h=>zg9 (T.mono (W_T (c:=x) h) fun z env H hh=>by cases z<;>first|exact W_T (c:=y) hh|exact hh)
 | .cond c x y,env,H,Q,h=>by
   have h':z0p (c.eval env) (W P n b x env H Q) (W P n b y env H Q):=h;unfold z0p at h';split at h'
   · rename_i q hq;exact zr2 hq (fun hb=>W_T (h'.1 hb)) (fun hb=>W_T (h'.2 hb))
   · exact h'.elim
 | .block id c,_,_,_,h=>zmg (W_T (c:=c) h)
 | .loop c,_,_,_,h=>h
 | .rng ..,_,_,_,h=>h
 | .exit id,_,_,_,h=>zr3 h
 | .ret,_,_,_,h=>T_ret h
end
section
variable {P:Program} {n b:Nat} {env:Env} {H:Ac} {Q:Ex→Env→Ac→Prop} {K:Env→Ac→Prop}
theorem z1:W P n b .skip env H Q=Q .normal env H:=(rfl)
theorem z2 {ops:List AOp}:W P n b (.reg ops) env H Q=wk P ops env H fun env' H'=>Q .normal env' H':=(rfl)
theorem z3 {ops:List AOp}:W P n b (.dreg ops) env H Q=qk P H ops env fun env'=>Q .normal env' H:=(rfl)
theorem z4 {pre post:List AOp}:W P n b (.dtl pre post) env H Q=qk P H pre env fun env'=>wk P post env' H fun env' H'=>Q .normal env' H':=(rfl)
theorem z5 {ops:List AOp} {l:List Grp}:W P n b (.greg ops) env (hl l) Q=gk P ops env l fun env' l'=>Q .normal env' (hl l') :=
 propext ⟨fun⟨l',h1,h2⟩=>by rw[←zkw h1] at h2;exact h2,fun h=>⟨l,rfl,h⟩⟩
theorem z18 {l:List Grp} {K:Env→List Grp→Prop}:gk P [] env l K=K env l:=(rfl)
theorem z19 {l:List Grp} {K:Env→List Grp→Prop} {dst:Option Nat} {args:List AArg} {k:AK} {r:List AOp}:gk P (⟨dst,args,none,k⟩::r) env l K=@opG P k l (args.map (·.eval env)) ⟨fun x l'=>gk P r (env.put dst x) l' K⟩:=(rfl)
theorem z20 {l:List Grp} {K:Env→List Grp→Prop} {dst:Option Nat} {args:List AArg} {k:AK} {r:List AOp} {d:Nat} {want:Bool}:gk P (⟨dst,args,some (d,want),k⟩::r) env l K=@En (env d) want
     ⟨@opG P k l (args.map (·.eval (env.put (some d) (.bool want)))) ⟨fun x l'=>gk P r ((env.put (some d) (.bool want)).put dst x) l' K⟩⟩
     ⟨gk P r ((env.put (some d) (.bool (!want))).put dst (.tup [])) l K⟩ ⟨gk P r (env.put dst (.tup [])) l K⟩:=(rfl)
theorem z6 {x y:AC}:W P n b (.seq x y) env H Q=W P n b x env H (Ex.then (fun env' H'=>W P n b y env' H' Q) Q):=(rfl)
theorem z7 {c:AArg} {x y:AC}:W P n b (.cond c x y) env H Q=@z0q (c.eval env) ⟨W P n b x env H Q⟩ ⟨W P n b y env H Q⟩:=(rfl)
theorem z8 {id:Nat} {c:AC}:W P n b (.block id c) env H Q=W P n b c env H (Ex.inBlock id Q):=(rfl)
theorem z9 {c:AC}:W P n b (.loop c) env H Q=@J6 ⟨T P n b (.loop c) env H Q⟩:=(rfl)
theorem z34 {f:AArg} {ps:List Nat} {a c:AC}:W P n b (.rng f ps a c) env H Q=@J6 ⟨T P n b (.rng f ps a c) env H Q⟩:=(rfl)
theorem z35 {fl:List Bool} {ops:List AOp}:W P n b (.grx fl ops) env H Q=@J6 ⟨T P n b (.grx fl ops) env H Q⟩:=(rfl)
theorem z36 {fl:List Bool} {ops:List AOp}:W P n b (.gry fl ops) env H Q=@J6 ⟨T P n b (.gry fl ops) env H Q⟩:=(rfl)
theorem z10 {id:Nat}:W P n b (.exit id) env H Q=Q (.exit id) env H:=(rfl)
theorem z11:W P n b .ret env H Q=Q .ret env H:=(rfl)
theorem z12:wk P [] env H K=K env H:=(rfl)
theorem z13 {dst:Option Nat} {args:List AArg} {k:AK} {l:List AOp}:wk P (⟨dst,args,none,k⟩::l) env H K=@opK P k H (args.map (·.eval env)) ⟨fun x H'=>wk P l (env.put dst x) H' K⟩:=(rfl)
theorem z14 {dst:Option Nat} {args:List AArg} {k:AK} {l:List AOp} {d:Nat} {want:Bool}:wk P (⟨dst,args,some (d,want),k⟩::l) env H K=@En (env d) want
     ⟨@opK P k H (args.map (·.eval (env.put (some d) (.bool want)))) ⟨fun x H'=>wk P l ((env.put (some d) (.bool want)).put dst x) H' K⟩⟩
     ⟨wk P l ((env.put (some d) (.bool (!want))).put dst (.tup [])) H K⟩ ⟨wk P l (env.put dst (.tup [])) H K⟩:=(rfl)
theorem z15 {K:Env→Prop}:qk P H [] env K=K env:=(rfl)
theorem z16 {K:Env→Prop} {dst:Option Nat} {args:List AArg} {k:AK} {l:List AOp}:qk P H (⟨dst,args,none,k⟩::l) env K=@opQ P k H (args.map (·.eval env)) ⟨fun x=>qk P H l (env.put dst x) K⟩:=(rfl)
theorem z17 {K:Env→Prop} {dst:Option Nat} {args:List AArg} {k:AK} {l:List AOp} {d:Nat} {want:Bool}:qk P H (⟨dst,args,some (d,want),k⟩::l) env K=@En (env d) want
     ⟨@opQ P k H (args.map (·.eval (env.put (some d) (.bool want)))) ⟨fun x=>qk P H l ((env.put (some d) (.bool want)).put dst x) K⟩⟩
     ⟨qk P H l ((env.put (some d) (.bool (!want))).put dst (.tup [])) K⟩ ⟨qk P H l (env.put dst (.tup [])) K⟩:=(rfl)
theorem z21 {p q r:Prop}:@En (.bool true) true ⟨p⟩ ⟨q⟩ ⟨r⟩=p:=(rfl)
theorem z22 {p q r:Prop}:@En (.bool false) false ⟨p⟩ ⟨q⟩ ⟨r⟩=p:=(rfl)
theorem z23 {p q r:Prop}:@En (.bool true) false ⟨p⟩ ⟨q⟩ ⟨r⟩=q:=(rfl)
theorem z24 {p q r:Prop}:@En (.bool false) true ⟨p⟩ ⟨q⟩ ⟨r⟩=q:=(rfl)
theorem z25 {w:Bool} {p q r:Prop}:@En (.tup []) w ⟨p⟩ ⟨q⟩ ⟨r⟩=r:=by cases w<;>rfl
theorem Aa {b w:Bool} {p q r:Prop} (hp:b=w→p) (hq:b=(!w)→q):@En (.bool b) w ⟨p⟩ ⟨q⟩ ⟨r⟩:=Xg hp hq
theorem z26 {p q:Prop}:@z0q (.bool true) ⟨p⟩ ⟨q⟩=p:=by simp[z0q,z0p]
theorem z27 {p q:Prop}:@z0q (.bool false) ⟨p⟩ ⟨q⟩=q:=by simp[z0q,z0p]
theorem Ab {b:Bool} {p q:Prop} (hp:b=true→p) (hq:b=false→q):@z0q (.bool b) ⟨p⟩ ⟨q⟩:=⟨hp,hq⟩
end
theorem Pi {P:Program} {env:Env} {H:Ac}:∀ {res:List ARes} {K K':List AV→Prop},(∀ xs,K xs→K' xs)→resK P res env H K→resK P res env H K'
 | [],_,_,hk,h=>hk _ h
 | .slot t::l,_,_,hk,h=>Pi (res:=l) (fun xs hh=>hk _ hh) h
 | .cell t a s::l,_,_,hk,h=>still_mono (k:=.load a s) rfl (fun x _ hh=>Pi (res:=l) (fun xs hh=>hk _ hh) hh) h
theorem z4h {P:Program} {res:List ARes} {K K':AV→Ac→Prop} (hk:∀ z H,K z H→K' z H) {x:Ex} {env:Env} {H:Ac} (h:Ret P res K x env H):Ret P res K' x env H:=⟨h.1,Pi (fun xs hh=>hk _ _ hh) h.2⟩
def nx (x:AV) (H:Ac) [K:HK]:Prop:=K.f x H
theorem zmi (x:AV) (H:Ac) (f:AV→Ac→Prop):@nx x H ⟨f⟩=f x H:=(rfl)
class HF (α:Type) where
 f:α→Prop
def optN {α:Type} (o:Option α) [F:HF α]:Prop:=optK o F.f
theorem zat {α:Type} (x:α) (f:α→Prop):@optN α (some x) ⟨f⟩=f x:=(rfl)
def ifN (c:Bool) [p:HP] [q:HP]:Prop:=match c with
 | false=>p.p
 | true=>q.p
theorem zgh {p q:Prop}:@ifN true ⟨p⟩ ⟨q⟩=q:=(rfl)
theorem zau {p q:Prop}:@ifN false ⟨p⟩ ⟨q⟩=p:=(rfl)
def appN (w bytes:Nat) (s:AV) (news:List AV) (H:Ac) [K:HK]:Prop:=Kj w bytes s news H K.f
def slcN (w:Nat) (x:AV) (lo hi mx:Option Int) (H:Ac) [K:HK]:Prop:=F5 w x lo hi mx H fun y=>K.f y H
def nq (x:AV) [K:HQ]:Prop:=K.f x
theorem zmj (x:AV) (f:AV→Prop):@nq x ⟨f⟩=f x:=(rfl)
section
variable {P:Program} {H:Ac} {K:AV→Ac→Prop} {k:IntKind} {a b c:Int} {x y z:AV} {xs ys cs:List AV} {w s o i g v off len n:Nat} {p q r:Bool}
theorem K_mv:@opK P .mv H [x] ⟨K⟩=@nx x H ⟨K⟩:=(rfl)
theorem zr7:@opK P .pick H [.bool p,x,y] ⟨K⟩=@nx (bif p then x else y) H ⟨K⟩:=(rfl)
theorem zmk:@opK P (.alloc z w) H [] ⟨K⟩=@nx (.ptr H.n 1 0 0) (H.push ⟨w,1,true,[z]⟩) ⟨K⟩:=(rfl)
theorem K_box:@opK P .box H [x] ⟨K⟩=(Et x.cells=true∧0<x.cells.length∧@nx (.ptr H.n 1 0 0) (H.push ⟨x.cells.length,1,true,[x]⟩) ⟨K⟩):=(rfl)
theorem zml {zs:List AV} {pl:List (Nat × Nat)} {idx:List Nat}:@opK P (.build zs pl idx) H xs ⟨K⟩=@optN _ (Ux pl idx xs zs) ⟨fun cs=>@nx (.agg cs) H ⟨K⟩⟩:=(rfl)
theorem zgi {idx:List Nat}:@opK P (.bslice w len z idx) H xs ⟨K⟩=(Hf w len idx xs∧@nx (.ref H.n 1 0 len) (H.push ⟨w,1,true,D7 idx xs (List.replicate len z)⟩) ⟨K⟩):=(rfl)
theorem zgj:@opK P (.load p s) H [.cptr x] ⟨K⟩=(x.isAny=false∧x.cells.length=s∧(p=false→s=1)∧@nx (Cj p 0 s x) H ⟨K⟩):=(rfl)
theorem zgk:@opK P (.load p s) H [.ptr g v i o] ⟨K⟩=((H.at_ g).ver=v∧i<(H.at_ g).xs.length∧((H.at_ g).xs.getD i .any).isAny=false∧((H.at_ g).xs.getD i .any).cells.length=(H.at_ g).w∧0<s∧o+s≤(H.at_ g).w ∧
     (p=false→s=1)∧@nx (Cj p o s ((H.at_ g).xs.getD i .any)) H ⟨K⟩):=(rfl)
theorem zmm:@opK P (.store s) H [.ptr g v i o,x] ⟨K⟩=((H.at_ g).ver=v∧i<(H.at_ g).xs.length∧0<s∧o+s≤(H.at_ g).w∧x.cells.length=s∧Et x.cells=true ∧
     (s=(H.at_ g).w∨((H.at_ g).xs.getD i .any).isAny=false∧((H.at_ g).xs.getD i .any).cells.length=(H.at_ g).w) ∧
     @nx .any (H.set g ⟨(H.at_ g).w,v,(H.at_ g).exact,(H.at_ g).xs.set i (Ki (H.at_ g).w o s ((H.at_ g).xs.getD i .any) x)⟩) ⟨K⟩):=(rfl)
theorem zr8:@opK P .nilCheck H [.cptr x] ⟨K⟩=@nx (.cptr x) H ⟨K⟩:=(rfl)
theorem zr9:@opK P .nilCheck H [.ptr g v i o] ⟨K⟩=@nx (.ptr g v i o) H ⟨K⟩:=(rfl)
theorem zra {f:Nat}:@opK P .nilCheck H [.fn f xs] ⟨K⟩=@nx (.fn f xs) H ⟨K⟩:=(rfl)
theorem K_add:@opK P (.bin .add) H [.int k a,.int k b] ⟨K⟩=@nx (.int k (k.wrap (a+b))) H ⟨K⟩:=by simp[opK,Ae,binI,nx]
theorem K_sub:@opK P (.bin .sub) H [.int k a,.int k b] ⟨K⟩=@nx (.int k (k.wrap (a-b))) H ⟨K⟩:=by simp[opK,Ae,binI,nx]
theorem K_mul:@opK P (.bin .mul) H [.int k a,.int k b] ⟨K⟩=@nx (.int k (k.wrap (a * b))) H ⟨K⟩:=by simp[opK,Ae,binI,nx]
theorem K_quo:@opK P (.bin .quo) H [.int k a,.int k b] ⟨K⟩=(b≠0∧@nx (.int k (k.wrap (a.tdiv b))) H ⟨K⟩):=by simp[opK,Ae,binI,nx]
theorem K_rem:@opK P (.bin .rem) H [.int k a,.int k b] ⟨K⟩=(b≠0∧@nx (.int k (a.tmod b)) H ⟨K⟩):=by simp[opK,Ae,binI,nx]
theorem K_and:@opK P (.bin .and) H [.int k a,.int k b] ⟨K⟩=@nx (.int k (J4 .and k a b)) H ⟨K⟩:=by simp[opK,Ae,binI,nx]
theorem K_or:@opK P (.bin .or) H [.int k a,.int k b] ⟨K⟩=@nx (.int k (J4 .or k a b)) H ⟨K⟩:=by simp[opK,Ae,binI,nx]
theorem K_xor:@opK P (.bin .xor) H [.int k a,.int k b] ⟨K⟩=@nx (.int k (J4 .xor k a b)) H ⟨K⟩:=by simp[opK,Ae,binI,nx]
theorem zgl:@opK P (.bin .andNot) H [.int k a,.int k b] ⟨K⟩=@nx (.int k (J4 .andNot k a b)) H ⟨K⟩:=by simp[opK,Ae,binI,nx]
theorem K_shl {k':IntKind}:@opK P (.bin .shl) H [.int k a,.int k' b] ⟨K⟩=(0≤b∧@nx (.int k (k.wrap (a * 2 ^ (Min.min b.toNat k.bits)))) H ⟨K⟩):=(rfl)
theorem K_shr {k':IntKind}:@opK P (.bin .shr) H [.int k a,.int k' b] ⟨K⟩=(0≤b∧@nx (.int k (a.fdiv (2 ^ (Min.min b.toNat k.bits)))) H ⟨K⟩):=(rfl)
theorem K_eql:@opK P (.bin .eql) H [.int k a,.int k b] ⟨K⟩=@nx (.bool (decide (a=b))) H ⟨K⟩:=by simp[opK,Ae,binI,nx]
theorem K_neq:@opK P (.bin .neq) H [.int k a,.int k b] ⟨K⟩=@nx (.bool (!decide (a=b))) H ⟨K⟩:=by simp[opK,Ae,binI,nx]
theorem K_lss:@opK P (.bin .lss) H [.int k a,.int k b] ⟨K⟩=@nx (.bool (decide (a<b))) H ⟨K⟩:=by simp[opK,Ae,binI,nx]
theorem K_leq:@opK P (.bin .leq) H [.int k a,.int k b] ⟨K⟩=@nx (.bool (decide (a≤b))) H ⟨K⟩:=by simp[opK,Ae,binI,nx]
theorem K_gtr:@opK P (.bin .gtr) H [.int k a,.int k b] ⟨K⟩=@nx (.bool (decide (b<a))) H ⟨K⟩:=by simp[opK,Ae,binI,nx]
theorem K_geq:@opK P (.bin .geq) H [.int k a,.int k b] ⟨K⟩=@nx (.bool (decide (b≤a))) H ⟨K⟩:=by simp[opK,Ae,binI,nx]
theorem zrb {s t:List UInt8}:@opK P (.bin .eql) H [.str s,.str t] ⟨K⟩=@nx (.bool (decide (s=t))) H ⟨K⟩:=(rfl)
theorem zrc {s t:List UInt8}:@opK P (.bin .neq) H [.str s,.str t] ⟨K⟩=@nx (.bool (!decide (s=t))) H ⟨K⟩:=(rfl)
theorem K_eqb:@opK P (.eqb p) H [.bool q,.bool r] ⟨K⟩=@nx (.bool (if p then !(q == r) else q == r)) H ⟨K⟩:=(rfl)
theorem K_eqs {ks:List Nat}:@opK P (.eqs p ks) H [.agg xs,.agg ys] ⟨K⟩=@optN _ (eqL ks xs ys) ⟨fun b=>@nx (.bool (if p then !b else b)) H ⟨K⟩⟩:=(rfl)
theorem zav:@opK P (.eqn p) H [.nilS,.nilS] ⟨K⟩=@nx (.bool (!p)) H ⟨K⟩:=(rfl)
theorem zaw:@opK P (.eqn p) H [.lst w xs,.nilS] ⟨K⟩=(xs≠[]∧@nx (.bool p) H ⟨K⟩):=(rfl)
theorem zax:@opK P (.eqn p) H [.ref g v off len,.nilS] ⟨K⟩=(0<len∧@nx (.bool p) H ⟨K⟩):=(rfl)
theorem K_not:@opK P (.un .not) H [.bool p] ⟨K⟩=@nx (.bool (!p)) H ⟨K⟩:=(rfl)
theorem K_neg:@opK P (.un .neg) H [.int k a] ⟨K⟩=@nx (.int k (k.wrap (0-a))) H ⟨K⟩:=(rfl)
theorem zrd {k':IntKind}:@opK P (.conv k) H [.int k' a] ⟨K⟩=@nx (.int k (k.wrap a)) H ⟨K⟩:=(rfl)
theorem zmn:@opK P .toStr H [x] ⟨K⟩=(Fu H 1 x∧(match x with|.str _=>False|_=>True)∧∃ bs:List UInt8,Ft H x=some (bs.map fun b=>.int .u8 b.toNat)∧@nx (.str bs) H ⟨K⟩):=(rfl)
theorem zgm:@opK P .runStr H [x] ⟨K⟩=(Fu H 1 x∧(match x with|.str _=>False|_=>True)∧∃ zs:List Int,Ft H x=some (zs.map (AV.int .i32))∧@nx (.str (Kk zs)) H ⟨K⟩):=(rfl)
theorem zmo {lo hi mx:Bool}:@opK P (.slice w lo hi mx) H (x::xs) ⟨K⟩=@optN _ (optA lo xs) ⟨fun p=>@optN _ (optA hi p.2) ⟨fun q=>@optN _ (optA mx q.2) ⟨fun r=>r.2=[]∧@slcN w x p.1 q.1 r.1 H ⟨K⟩⟩⟩⟩:=(rfl)
theorem zay:@opK P (.faddr p off s) H [.cptr x] ⟨K⟩=(x.isAny=false∧off+s≤x.cells.length∧(p=false→s=1)∧0<s∧@nx (.cptr (Cj p off s x)) H ⟨K⟩):=(rfl)
theorem zaz:@opK P (.faddr p off s) H [.ptr g v i o] ⟨K⟩=((H.at_ g).ver=v∧@nx (.ptr g v i (o+off)) H ⟨K⟩):=(rfl)
theorem zmp:@opK P (.field p off s) H [.agg cs] ⟨K⟩=(off+s≤cs.length∧(p=false→s=1)∧@nx (Cj p off s (.agg cs)) H ⟨K⟩):=(rfl)
theorem zb0 {w':Nat}:@opK P (.iaddr w) H [.lst w' xs,.int k a] ⟨K⟩=(w'=w∧0≤a∧a<xs.length∧@nx (.cptr (xs.getD a.toNat .any)) H ⟨K⟩):=(rfl)
theorem zb1:@opK P (.iaddr w) H [.ref g v off len,.int k a] ⟨K⟩=((H.at_ g).ver=v∧(H.at_ g).w=w∧0≤a∧a<len∧@nx (.ptr g v (off+a.toNat) 0) H ⟨K⟩):=(rfl)
theorem z7m:@opK P (.iaddrA n w p) H [.ptr g v i o,.int k a] ⟨K⟩=((H.at_ g).ver=v∧0≤a∧a<n∧@nx (.ptr g v i (o+a.toNat * w)) H ⟨K⟩):=(rfl)
theorem z7n:@opK P (.iaddrA n w p) H [.cptr x,.int k a] ⟨K⟩=(x.isAny=false∧0≤a∧a<n∧n * w≤x.cells.length∧(p=false→w=1)∧0<w∧@nx (.cptr (Cj p (a.toNat * w) w x)) H ⟨K⟩):=(rfl)
theorem zmq:@opK P (.index n w p) H [.agg cs,.int k a] ⟨K⟩=(0≤a∧a<n∧n * w≤cs.length∧(p=false→w=1)∧@nx (Cj p (a.toNat * w) w (.agg cs)) H ⟨K⟩):=(rfl)
theorem z7o {s:List UInt8}:@opK P .indexStr H [.str s,.int k a] ⟨K⟩=(0≤a∧a<s.length∧@nx (.int .u8 (s.getD a.toNat 0).toNat) H ⟨K⟩):=(rfl)
theorem zb2:@opK P (.extract i) H [.tup xs] ⟨K⟩=(i<xs.length∧@nx (xs.getD i .any) H ⟨K⟩):=(rfl)
theorem zb3:@opK P (.len false) H [.nilS] ⟨K⟩=@nx (.int .i64 0) H ⟨K⟩:=(rfl)
theorem zb4:@opK P (.len false) H [.nul] ⟨K⟩=@nx (.int .i64 0) H ⟨K⟩:=(rfl)
theorem zb5:@opK P (.len false) H [.lst w xs] ⟨K⟩=@nx (.int .i64 xs.length) H ⟨K⟩:=(rfl)
theorem zb6:@opK P (.len false) H [.ref g v off len] ⟨K⟩=@nx (.int .i64 len) H ⟨K⟩:=(rfl)
theorem zb7 {s:List UInt8}:@opK P (.len true) H [.str s] ⟨K⟩=@nx (.int .i64 s.length) H ⟨K⟩:=(rfl)
theorem K_app:@opK P (.app w n z) H [x,y] ⟨K⟩=(Fu H w y∧@optN _ (Ft H y) ⟨fun news=>@appN w n x news H ⟨K⟩⟩):=(rfl)
theorem zgn:@appN w n .nilS xs H ⟨K⟩=(xs.length * n≤140737488355328∧@nx (.ref H.n 1 0 xs.length) (H.push ⟨w,1,xs.isEmpty,xs⟩) ⟨K⟩):=(rfl)
theorem zmr:@appN w n .nul xs H ⟨K⟩=(xs.length * n≤140737488355328∧@nx (.ref H.n 1 0 xs.length) (H.push ⟨w,1,xs.isEmpty,xs⟩) ⟨K⟩):=(rfl)
theorem zms:@appN w n (.ref g v off len) xs H ⟨K⟩=((H.at_ g).ver=v∧(H.at_ g).w=w∧(len+xs.length) * n≤140737488355328∧off+len≤(H.at_ g).xs.length∧@ifN (!(H.at_ g).exact||(H.at_ g).xs.isEmpty)
    ⟨(off+len+xs.length≤(H.at_ g).xs.length→@nx (.ref g v off (len+xs.length)) (H.set g ⟨w,v,true,(H.at_ g).xs.take (off+len)++xs++(H.at_ g).xs.drop (off+len+xs.length)⟩) ⟨K⟩) ∧
      ((H.at_ g).xs.length<off+len+xs.length→@nx (.ref H.n 1 0 (len+xs.length)) (H.push ⟨w,1,false,((H.at_ g).xs.drop off).take len++xs⟩) ⟨K⟩)⟩
    ⟨(off=0∨off+len=(H.at_ g).xs.length)∧(off+len=(H.at_ g).xs.length→@nx (.ref g (v+1) off (len+xs.length)) (H.set g ⟨w,v+1,(H.at_ g).exact&&xs.isEmpty,(H.at_ g).xs++xs⟩) ⟨K⟩) ∧
      (off+len<(H.at_ g).xs.length→off+len+xs.length≤(H.at_ g).xs.length∧@nx (.ref g v off (len+xs.length)) (H.set g ⟨w,v,(H.at_ g).exact,(H.at_ g).xs.take (off+len)++xs++(H.at_ g).xs.drop (off+len+xs.length)⟩) ⟨K⟩) ∧
      (off≠0→@nx (.ref g (v+1) 0 (len+xs.length)) (H.set g ⟨w,v+1,(H.at_ g).exact&&xs.isEmpty,(H.at_ g).xs.drop off++xs⟩) ⟨K⟩)⟩):=by
 simp only[appN,Kj,ifN];generalize (!(H.at_ g).exact||(H.at_ g).xs.isEmpty)=c;cases c<;>rfl
theorem zmt {w':Nat} {lo hi:Option Int}:@slcN w (.lst w' xs) lo hi none H ⟨K⟩=(w'=w∧0≤lo.getD 0∧lo.getD 0≤hi.getD xs.length∧hi.getD xs.length≤xs.length∧@nx (.lst w' ((xs.take (hi.getD xs.length).toNat).drop (lo.getD 0).toNat)) H ⟨K⟩):=(rfl)
theorem zmu {lo hi:Option Int}:@slcN w .nilS lo hi none H ⟨K⟩=((lo=none∨lo=some 0)∧(hi=none∨hi=some 0)∧@nx .nilS H ⟨K⟩):=(rfl)
theorem zmv {lo hi:Option Int}:@slcN w (.ref g v off len) lo hi none H ⟨K⟩=((H.at_ g).ver=v∧(H.at_ g).w=w∧0<w∧0≤lo.getD 0∧lo.getD 0≤hi.getD len∧(hi.getD len≤len∨(H.at_ g).exact=true∧off+hi.getD len≤(H.at_ g).xs.length) ∧
     @nx (.ref g v (off+(lo.getD 0).toNat) ((hi.getD len).toNat-(lo.getD 0).toNat)) H ⟨K⟩):=(rfl)
theorem zgo {w':Nat} {lo hi:Option Int} {m:Int}:@slcN w (.lst w' xs) lo hi (some m) H ⟨K⟩=(m=0∧hi=some 0∧(lo=none∨lo=some 0)∧@nx .nul H ⟨K⟩):=(rfl)
theorem zgp {lo hi:Option Int} {m:Int}:@slcN w .nilS lo hi (some m) H ⟨K⟩=(m=0∧hi=some 0∧(lo=none∨lo=some 0)∧@nx .nilS H ⟨K⟩):=(rfl)
theorem zgq {lo hi:Option Int} {m:Int}:@slcN w .nul lo hi (some m) H ⟨K⟩=(m=0∧hi=some 0∧(lo=none∨lo=some 0)∧@nx .nul H ⟨K⟩):=(rfl)
theorem zgr {lo hi:Option Int} {m:Int}:@slcN w (.ref g v off len) lo hi (some m) H ⟨K⟩=(m=0∧hi=some 0∧(lo=none∨lo=some 0)∧@nx .nul H ⟨K⟩):=(rfl)
theorem K_cap:@opK P .cap H [.nilS] ⟨K⟩=@nx (.int .i64 0) H ⟨K⟩:=(rfl)
theorem K_clr {g v off len:Nat}:@opK P (.clr w z) H [.ref g v off len] ⟨K⟩=((H.at_ g).ver=v∧(H.at_ g).w=w∧off+len≤(H.at_ g).xs.length∧@nx (.tup []) (H.set g ⟨w,v,(H.at_ g).exact,(H.at_ g).xs.take off++List.replicate len z++(H.at_ g).xs.drop (off+len)⟩) ⟨K⟩):=(rfl)
theorem zre {m:Nat} {k:IntKind}:@opK P (.appZ w m z) H [.nilS,.int k a] ⟨K⟩=(0<a∧a * m≤140737488355328∧@nx (.ref H.n 1 0 a.toNat) (H.push ⟨w,1,false,List.replicate a.toNat z⟩) ⟨K⟩):=(rfl)
theorem K_max:@opK P .max H [.int k a,.int k b] ⟨K⟩=@nx (.int k (Max.max a b)) H ⟨K⟩:=by simp[opK,Ae,nx]
theorem K_min:@opK P .min H [.int k a,.int k b] ⟨K⟩=@nx (.int k (Min.min a b)) H ⟨K⟩:=by simp[opK,Ae,nx]
theorem zb8 {k':IntKind}:@opK P (.mkSlice w n z) H [.int k a,.int k' b] ⟨K⟩=(0≤a∧a≤b∧b * n≤140737488355328∧@nx (.ref H.n 1 0 a.toNat) (H.push ⟨w,1,true,List.replicate b.toNat z⟩) ⟨K⟩):=(rfl)
theorem zgs {f:Nat}:@opK P (.mkFunc f) H xs ⟨K⟩=@nx (.fn f xs) H ⟨K⟩:=(rfl)
theorem zmw:@opK P .mkMap H [] ⟨K⟩=@nx (.map H.n 1) (H.push ⟨0,1,true,[]⟩) ⟨K⟩:=(rfl)
theorem zgt:@opK P (.mapGet z) H [.map g v,.int k a] ⟨K⟩=(k=.i64∧(H.at_ g).ver=v∧(H.at_ g).w=0∧(H.at_ g).exact=true∧@optN _ (Cb z a (H.at_ g).xs) ⟨fun y=>@nx y H ⟨K⟩⟩):=(rfl)
theorem zgu:@opK P .mapSet H [.map g v,.int k a,x] ⟨K⟩=(k=.i64∧(H.at_ g).ver=v∧(H.at_ g).w=0∧(H.at_ g).exact=true∧@optN _ (setM a x (H.at_ g).xs) ⟨fun ys=>@nx .any (H.set g ⟨0,v,true,ys⟩) ⟨K⟩⟩):=(rfl)
theorem z7p:@opK P (.len false) H [.full w xs] ⟨K⟩=@nx (.int .i64 xs.length) H ⟨K⟩:=(rfl)
theorem zb9 {w':Nat}:@opK P (.iaddr w) H [.full w' xs,.int k a] ⟨K⟩=(w'=w∧0≤a∧a<xs.length∧@nx (.cptr (xs.getD a.toNat .any)) H ⟨K⟩):=(rfl)
theorem z7q:@opK P (.eqn p) H [.full w xs,.nilS] ⟨K⟩=(xs≠[]∧@nx (.bool p) H ⟨K⟩):=(rfl)
theorem zgv {w':Nat} {lo hi:Option Int}:@slcN w (.full w' xs) lo hi none H ⟨K⟩=(w'=w∧0≤lo.getD 0∧lo.getD 0≤hi.getD xs.length∧hi.getD xs.length≤xs.length∧@nx (.lst w' ((xs.take (hi.getD xs.length).toNat).drop (lo.getD 0).toNat)) H ⟨K⟩):=(rfl)
theorem zba {w':Nat} {lo hi:Option Int} {m:Int}:@slcN w (.full w' xs) lo hi (some m) H ⟨K⟩=(m=0∧hi=some 0∧(lo=none∨lo=some 0)∧@nx .nul H ⟨K⟩):=(rfl)
theorem zgw {w':Nat}:@appN w n (.full w' xs) ys H ⟨K⟩=(w'=w∧0<ys.length∧(xs.length+ys.length) * n≤140737488355328∧@nx (.ref H.n 1 0 (xs.length+ys.length)) (H.push ⟨w,1,false,xs++ys⟩) ⟨K⟩):=(rfl)
theorem zbb:Cb z a []=some z:=rfl
theorem z7r:Cb z a (.int .i64 b::y::xs)=if b=a then some y else Cb z a xs:=rfl
theorem zgx:setM a x []=some [.int .i64 a,x]:=rfl
theorem zbc:setM a x (.int .i64 b::y::xs)=if b=a then some (.int .i64 b::x::xs) else (setM a x xs).map fun r'=>.int .i64 b::y::r':=rfl
theorem zrf {f:Nat}:@opK P .call H (.fn f cs::xs) ⟨K⟩=@Vd P f (xs++cs) H ⟨K⟩:=(rfl)
end
section
variable {P:Program} {H:Ac} {K:AV→Prop} {xs cs:List AV} {z:AV} {w len:Nat}
theorem Cl {k:AK} (h:k.still=true):@opQ P k H xs ⟨K⟩=@opK P k H xs ⟨fun x _=>K x⟩:=by
 cases k<;>first|(exact propext ⟨fun h=>h.2,fun h=>⟨rfl,h⟩⟩)|(simp[AK.still] at h)
theorem Q_mv  : @opQ P .mv H xs ⟨K⟩=@opK P .mv H xs ⟨fun x _=>K x⟩:=Cl rfl
theorem zrg  : @opQ P .pick H xs ⟨K⟩=@opK P .pick H xs ⟨fun x _=>K x⟩:=Cl rfl
theorem zmx {zs:List AV} {pl:List (Nat × Nat)} {idx:List Nat}:@opQ P (.build zs pl idx) H xs ⟨K⟩=@opK P (.build zs pl idx) H xs ⟨fun x _=>K x⟩:=Cl rfl
theorem zrh {a:Bool} {s:Nat}:@opQ P (.load a s) H xs ⟨K⟩=@opK P (.load a s) H xs ⟨fun x _=>K x⟩:=Cl rfl
theorem z7s  : @opQ P .nilCheck H xs ⟨K⟩=@opK P .nilCheck H xs ⟨fun x _=>K x⟩:=Cl rfl
theorem Q_bin {op:BinOp}:@opQ P (.bin op) H xs ⟨K⟩=@opK P (.bin op) H xs ⟨fun x _=>K x⟩:=Cl rfl
theorem Q_eqb {n:Bool}:@opQ P (.eqb n) H xs ⟨K⟩=@opK P (.eqb n) H xs ⟨fun x _=>K x⟩:=Cl rfl
theorem Q_eqs {n:Bool} {ks:List Nat}:@opQ P (.eqs n ks) H xs ⟨K⟩=@opK P (.eqs n ks) H xs ⟨fun x _=>K x⟩:=Cl rfl
theorem Q_eqn {n:Bool}:@opQ P (.eqn n) H xs ⟨K⟩=@opK P (.eqn n) H xs ⟨fun x _=>K x⟩:=Cl rfl
theorem Q_un {op:UnOp}:@opQ P (.un op) H xs ⟨K⟩=@opK P (.un op) H xs ⟨fun x _=>K x⟩:=Cl rfl
theorem zri {k:IntKind}:@opQ P (.conv k) H xs ⟨K⟩=@opK P (.conv k) H xs ⟨fun x _=>K x⟩:=Cl rfl
theorem zmy {w:Nat} {lo hi mx:Bool}:@opQ P (.slice w lo hi mx) H xs ⟨K⟩=@opK P (.slice w lo hi mx) H xs ⟨fun x _=>K x⟩:=Cl rfl
theorem zmz {a:Bool} {o s:Nat}:@opQ P (.faddr a o s) H xs ⟨K⟩=@opK P (.faddr a o s) H xs ⟨fun x _=>K x⟩:=Cl rfl
theorem zn0 {a:Bool} {o s:Nat}:@opQ P (.field a o s) H xs ⟨K⟩=@opK P (.field a o s) H xs ⟨fun x _=>K x⟩:=Cl rfl
theorem zn1 {w:Nat}:@opQ P (.iaddr w) H xs ⟨K⟩=@opK P (.iaddr w) H xs ⟨fun x _=>K x⟩:=Cl rfl
theorem zgy {n w:Nat} {a:Bool}:@opQ P (.iaddrA n w a) H xs ⟨K⟩=@opK P (.iaddrA n w a) H xs ⟨fun x _=>K x⟩:=Cl rfl
theorem zn2 {n w:Nat} {a:Bool}:@opQ P (.index n w a) H xs ⟨K⟩=@opK P (.index n w a) H xs ⟨fun x _=>K x⟩:=Cl rfl
theorem z7t  : @opQ P .indexStr H xs ⟨K⟩=@opK P .indexStr H xs ⟨fun x _=>K x⟩:=Cl rfl
theorem zbd {i:Nat}:@opQ P (.extract i) H xs ⟨K⟩=@opK P (.extract i) H xs ⟨fun x _=>K x⟩:=Cl rfl
theorem Q_cap:@opQ P .cap H xs ⟨K⟩=@opK P .cap H xs ⟨fun x _=>K x⟩:=Cl rfl
theorem Q_len {b:Bool}:@opQ P (.len b) H xs ⟨K⟩=@opK P (.len b) H xs ⟨fun x _=>K x⟩:=Cl rfl
theorem Q_max  : @opQ P .max H xs ⟨K⟩=@opK P .max H xs ⟨fun x _=>K x⟩:=Cl rfl
theorem Q_min  : @opQ P .min H xs ⟨K⟩=@opK P .min H xs ⟨fun x _=>K x⟩:=Cl rfl
theorem zgz:@opQ P (.mapGet z) H xs ⟨K⟩=@opK P (.mapGet z) H xs ⟨fun x _=>K x⟩:=Cl rfl
theorem zh0 {f:Nat}:@opQ P (.mkFunc f) H xs ⟨K⟩=@opK P (.mkFunc f) H xs ⟨fun x _=>K x⟩:=Cl rfl
theorem zn3  : @opQ P .toStr H xs ⟨K⟩=@opK P .toStr H xs ⟨fun x _=>K x⟩:=Cl rfl
theorem zh1  : @opQ P .runStr H xs ⟨K⟩=@opK P .runStr H xs ⟨fun x _=>K x⟩:=Cl rfl
theorem zn4 {f:Nat}:@opQ P .call H (.fn f cs::xs) ⟨K⟩=@zgf P f (xs++cs) H ⟨K⟩:=(rfl)
theorem Q_bsl {idx:List Nat}:@opQ P (.bslice w len z idx) H xs ⟨K⟩=(Hf w len idx xs∧0<w∧Ak (D7 idx xs (List.replicate len z))=true∧@nq (.full w (D7 idx xs (List.replicate len z))) ⟨K⟩):=(rfl)
end
section
variable {H:Ac} {G:Grp} {g j:Nat}
end
section
variable {P:Program} {H:Ac} {env:Env} {K:List AV→Prop} {l:List ARes} {t s:Nat} {a:Bool}
theorem zn5:resK P [] env H K=K []:=(rfl)
theorem zh2:resK P (.slot t::l) env H K=resK P l env H fun xs=>K (env t::xs):=(rfl)
theorem zh3:resK P (.cell t a s::l) env H K=@opK P (.load a s) H [env t] ⟨fun x _=>resK P l env H fun xs=>K (x::xs)⟩:=(rfl)
end
theorem z4i {p:Prop} [Decidable p] (h:p):true=decide p:=(decide_eq_true h).symm
theorem z4j {p:Prop} [Decidable p] (h:¬p):false=decide p:=(decide_eq_false h).symm
theorem Pj {p q:Prop} [Decidable p] [Decidable q] (h:p↔q):decide p=decide q:=decide_eq_decide.2 h
theorem getD_map {α:Type} [Inhabited α] (f:α→AV) (l:List α) (i:Nat):(l.map f).getD i .any=if i<l.length then f (l.getD i default) else .any:=by
 by_cases h:i<l.length<;>simp[List.getD,h]
def nth {α:Type} [Inhabited α] (l:List α) (i:Nat):α:=l.getD i default
theorem zbe {α:Type} [Inhabited α] (f:α→AV) (l:List α) (i:Nat) (h:i<l.length):(l.map f).getD i .any=f (nth l i):=by rw[getD_map,if_pos h];rfl
theorem zh4 {α:Type} (f:α→AV) (l:List α) (i:Nat):(l.map f).drop i=(l.drop i).map f:=List.map_drop.symm
theorem zh5 {α:Type} (f:α→AV) (l:List α) (i:Nat):(l.map f).take i=(l.take i).map f:=List.map_take.symm
theorem Fb {α:Type} {f:α→AV} (h:∀ x,(f x).pure=true):∀ l:List α,Ak (l.map f)=true
 | []=>rfl
 | x::l=>by simp[Ak,h x,Fb h l]
theorem Ay (k:IntKind) (l:List Int):Ak (l.map (AV.int k))=true:=Fb (fun _=>rfl) l
theorem zbf (k:IntKind) (l:List Int):Ak (l.map fun x=>AV.int k x)=true:=Fb (fun _=>rfl) l
theorem zbg (l:List Bool):Ak (l.map AV.bool)=true:=Fb (fun _=>rfl) l
attribute [push_cast] z34 z35 z36 zmw zgt zgu z7p zb9 z7q zgv zba zgw zbb z7r zgx zbc zgz
attribute [push_cast] K_clr zre K_cap Q_cap zmi zmj zat zgh zau zgn zmr zms zmt zmu zmv zgo zgp zgq zgr K_mv zr7 zmk K_box zml zgi zgj zgk zmm zr8 zr9 zra K_add K_sub K_mul K_quo K_rem K_and K_or K_xor zgl K_shl K_shr K_eql K_neq K_lss K_leq K_gtr K_geq zrb zrc K_eqb K_eqs zav zaw zax K_not K_neg zrd zmn zgm zmo zay zaz zmp zb0 zb1 z7m z7n zmq z7o zb2 zb3 zb4 zb5 zb6 zb7 K_app K_max K_min zb8 zgs zrf Q_mv zrg zmx zrh z7s Q_bin Q_eqb Q_eqs Q_eqn Q_un zri zmy zmz zn0 zn1 zgy zn2 z7t zbd Q_len Q_max Q_min zh0 zn3 zh1 zn4 Q_bsl
attribute [push_cast] z21 z22 z23 z24 z25 z26 z27 zgc
attribute [push_cast] Cj AV.cells AV.isAny Et AV.one Ki eqL eq1 Fu Ft Hf D7 Ux optA List.replicate Ak AV.pure Ret zn5 zh2 zh3 resV zh4 zh5 Ay zbf zbg
def pos:List Nat→Nat→Option Nat
 | [],_=>none
 | k::ks,g=>if g=k then some 0 else (pos ks g).map (·+1)
theorem Ox:∀ {ks:List Nat} {g j:Nat},pos ks g=some j→j<ks.length∧ks.getD j 0=g
 | [],g,j,h=>by simp[pos] at h
 | k::ks,g,j,h=>by
   rw[pos] at h;split at h
   · rename_i hk;cases h;exact⟨by simp,by simp[hk]⟩
   · obtain⟨i,hi,rfl⟩:=Option.map_eq_some_iff.1 h
     obtain⟨h1,h2⟩:=Ox hi;exact⟨by simp;omega,by simpa using h2⟩
theorem Ve:∀ {ks:List Nat} {g:Nat},pos ks g=none→g∉ks
 | [],g,_=>by simp
 | k::ks,g,h=>by
   rw[pos] at h;split at h
   · cases h
   · rename_i hk
     have:=Ve (Option.map_eq_none_iff.1 h);simp[hk,this]
def frzL (w:Nat) (ys:List AV):AV:=bif Ak ys then .lst w ys else .any
def frzP (y:AV):AV:=bif y.pure then .cptr y else .any
def rnV (b:Nat) (H:Ac) (ks:List Nat):Nat→AV→AV
 | 0,x=>bif x.pure then x else .any
 | d+1,.ref g v off len=>if g<b then .ref g v off len else if v=(H.at_ g).ver then
     (match pos ks g with
      | some j=>.ref (b+j) 1 off len
      | none=>if 0<(H.at_ g).w∧off+len≤(H.at_ g).xs.length then frzL (H.at_ g).w ((((H.at_ g).xs.drop off).take len).map (rnV b H ks d)) else .any)
     else .any
 | d+1,.ptr g v i o=>if g<b then .ptr g v i o else if v=(H.at_ g).ver then
     (match pos ks g with
      | some j=>.ptr (b+j) 1 i o
      | none=>if o=0∧i<(H.at_ g).xs.length∧0<(H.at_ g).w then frzP (rnV b H ks d ((H.at_ g).xs.getD i .any)) else .any)
     else .any
 | _+1,.map g v=>if g<b then .map g v else if v=(H.at_ g).ver then (match pos ks g with|some j=>.map (b+j) 1|none=>.any) else .any
 | d+1,.agg cs=>.agg (cs.map (rnV b H ks d))
 | d+1,.tup cs=>.tup (cs.map (rnV b H ks d))
 | d+1,.fn f cs=>.fn f (cs.map (rnV b H ks d))
 | _+1,x=>x
def inv (b:Nat) (ks:List Nat) (j:Nat):Nat:=if j<b then j else ks.getD (j-b) 0
def MS.repack (S:MS) (b:Nat) (H:Ac) (ks:List Nat):MS where
 w:=S.w
 im:=fun c=>S.im c∨∃ g,g<H.n∧b≤g∧g∉ks∧0<(H.at_ g).w∧0<S.cap g∧c=S.place g
 keep:=S.keep
 n:=b+ks.length
 place:=fun j=>S.place (inv b ks j)
 cur:=fun j=>if j<b then S.cur j else 1
 cap:=fun j=>S.cap (inv b ks j)
 wid:=fun j=>S.wid (inv b ks j)
 base:=S.base
def Ac.repack (H:Ac) (b:Nat) (ks:List Nat) (d:Nat):Ac:=⟨b+ks.length,fun j=>⟨(H.at_ (inv b ks j)).w,if j<b then (H.at_ j).ver else 1,(H.at_ (inv b ks j)).exact,(H.at_ (inv b ks j)).xs.map (rnV b H ks d)⟩⟩
section
variable {S:MS} {H:Ac} {b:Nat} {ks:List Nat}
theorem Fc {j:Nat} (h:j<b):inv b ks j=j:=if_pos h
theorem z0r {j:Nat}:inv b ks (b+j)=ks.getD j 0:=by
 have h1:b+j-b=j:=by omega
 have h2:¬b+j<b:=by omega
 rw[inv,if_neg h2,h1]
theorem Vf {x:AV} {v:Value} (hx:x.pure=true) (h:VRel S x v):VRel (S.repack b H ks) x v:=VRel.of_pure (S:=S) (S':=S.repack b H ks) rfl (fun _ hb=>.inl hb) hx h
theorem z7u (hS:SRel S H):∀ (d:Nat) {x:AV} {v:Value},VRel S x v→VRel (S.repack b H ks) (rnV b H ks d x) v
 | 0,x,v,h=>by
   rw[rnV];cases hp:x.pure
   · trivial
   · exact Vf hp h
 | d+1,x,v,h=>by
   have keyL:∀ {cs:List AV} {vs:List Value},Ad S cs vs→Ad (S.repack b H ks) (cs.map (rnV b H ks d)) vs:=by
     intro cs
     induction cs with
     | nil=>intro vs hh;exact hh
     | cons c cs ih =>
       intro vs hh;obtain⟨u,r,rfl,h1,h2⟩:=hh;exact⟨u,r,rfl,z7u hS d h1,ih h2⟩
   cases x with
   | ref g vn off len =>
     obtain⟨⟨a,c,rfl,ha⟩,hg,hvn,hcur⟩:=h;have hG:=hS.live_of hg;rw[rnV];split
     · rename_i hgb
       refine⟨⟨a,c,rfl,ha⟩,by show g<b+_;omega,by show vn≤if g<b then _ else _;rw[if_pos hgb];exact hvn,fun he=>?_⟩;have he':(if g<b then S.cur g else 1)=vn:=he;rw[if_pos hgb] at he';show ∃ a cap',_=Value.slice a len cap'∧((a=some ⟨S.place (inv b ks g),off * S.wid (inv b ks g),none⟩∧cap'=S.cap (inv b ks g)-off∧off+len≤S.cap (inv b ks g))∨(len=0∧cap'=0∧S.cap (inv b ks g)≤off));rw[Fc hgb];exact hcur he'
     · split
       · rename_i hver
         have hh:=hcur (by rw[hG.ver,hver]);split
         · rename_i j hj
           obtain⟨h1,h2⟩:=Ox hj;refine⟨⟨a,c,rfl,ha⟩,by show b+j<b+_;omega,by show 1≤if b+j<b then _ else 1;rw[if_neg (by omega)];exact Nat.le_refl 1,fun _=>?_⟩;show ∃ a cap',_=Value.slice a len cap'∧((a=some ⟨S.place (inv b ks (b+j)),off * S.wid (inv b ks (b+j)),none⟩∧cap'=S.cap (inv b ks (b+j))-off∧off+len≤S.cap (inv b ks (b+j)))∨(len=0∧cap'=0∧S.cap (inv b ks (b+j))≤off));rw[z0r,h2];exact hh
         · rename_i hb hj
           have hnk:=Ve hj;split
           · rename_i hw
             obtain⟨hw,hol⟩:=hw;unfold frzL;cases hpu:Ak ((((H.at_ g).xs.drop off).take len).map (rnV b H ks d))
             · trivial
             · obtain⟨a',cap',hv,hcase⟩:=hh
               obtain⟨rfl,-,rfl⟩:a=a'∧len=len∧c=cap':=by cases hv;exact⟨rfl,rfl,rfl⟩
               have hl:((((H.at_ g).xs.drop off).take len).map (rnV b H ks d)).length=len:=by simp;omega
               show VRel _ (.lst _ _) _
               have hnone:a=none→c=0:=fun hn=>by
                 rcases hcase with⟨rfl,_⟩|⟨_,hh,_⟩
                 · cases hn
                 · exact hh
               by_cases hc0:S.cap g=0
               · have hlen:=hG.len hw
                 have hnil:((H.at_ g).xs.drop off).take len=[]:=List.eq_nil_of_length_eq_zero (by simp;omega);simp only[hnil,List.map_nil] at hl ⊢;exact⟨rfl,hw,a,c,[],by rw[←hl],⟨Nat.zero_le _,hnone⟩,rfl,fun hne=>absurd rfl hne⟩
               obtain⟨⟨cells,TT,us,hb2,hcs,hus,hfl⟩,_⟩:=hG.live hw (by omega);refine⟨hpu,hw,a,c,_,by rw[hl],⟨?_,hnone⟩,keyL ((hus.drop off).take len),fun hne=>?_⟩
               · rw[hl];rcases hcase with⟨_,c2,c3⟩|⟨c1,c2,_⟩<;>omega
               · rcases hcase with⟨rfl,_,_⟩|⟨c1,_,_⟩
                 · refine⟨_,_,rfl,.inr ⟨g,by rw[←hS.n];exact hg,by omega,hnk,hw,by omega,rfl⟩,fun j u hu=>?_⟩
                   rw[List.getElem?_take] at hu;split at hu
                   · rw[List.getElem?_drop] at hu
                     have:=hfl.row hb2 (off+j) u hu;rw[Nat.zero_add,Nat.add_mul] at this;rw[hG.wid];exact this
                   · cases hu
                 · exact absurd (List.eq_nil_of_length_eq_zero (by rw[hl];exact c1)) hne
           · trivial
       · trivial
   | ptr g vn i o =>
     obtain⟨⟨a,rfl⟩,hg,hvn,hcur⟩:=h;have hG:=hS.live_of hg;rw[rnV];split
     · rename_i hgb
       refine⟨⟨a,rfl⟩,by show g<b+_;omega,by show vn≤if g<b then _ else _;rw[if_pos hgb];exact hvn,fun he=>?_⟩;have he':(if g<b then S.cur g else 1)=vn:=he;rw[if_pos hgb] at he';show _=Value.pointer (some ⟨S.place (inv b ks g),i * S.wid (inv b ks g)+o,none⟩);rw[Fc hgb];exact hcur he'
     · split
       · rename_i hver
         have hh:=hcur (by rw[hG.ver,hver]);split
         · rename_i j hj
           obtain⟨h1,h2⟩:=Ox hj;refine⟨⟨a,rfl⟩,by show b+j<b+_;omega,by show 1≤if b+j<b then _ else 1;rw[if_neg (by omega)];exact Nat.le_refl 1,fun _=>?_⟩;show _=Value.pointer (some ⟨S.place (inv b ks (b+j)),i * S.wid (inv b ks (b+j))+o,none⟩);rw[z0r,h2];exact hh
         · rename_i hb hj
           have hnk:=Ve hj;split
           · rename_i hc
             obtain⟨rfl,hi,hw⟩:=hc;unfold frzP;cases hpu:(rnV b H ks d ((H.at_ g).xs.getD i .any)).pure
             · trivial
             · show VRel _ (.cptr _) _
               obtain⟨u,hu,hl⟩:=hG.elem hw hi;have k1:=z7u hS d hu;refine⟨hpu,S.place g,i * (H.at_ g).w,u,?_,.inr ⟨g,by rw[←hS.n];exact hg,by omega,hnk,hw,by have:=hG.len hw;omega,rfl⟩,k1,?_⟩
               · rw[hh,hG.wid];rfl
               · rw[hl.1];exact hl
           · trivial
       · trivial
   | agg cs=>obtain⟨vs,rfl,hr⟩:=h;exact⟨vs,rfl,keyL hr⟩
   | tup cs=>obtain⟨vs,rfl,hr⟩:=h;exact⟨vs,rfl,keyL hr⟩
   | fn f cs=>obtain⟨vs,rfl,hr⟩:=h;exact⟨vs,rfl,keyL hr⟩
   | full w xs=>exact Vf h.1 h
   | map g vn =>
     obtain⟨⟨a,rfl⟩,hg,hvn,hcur⟩:=h;have hG:=hS.live_of hg;rw[rnV];split
     · rename_i hgb
       refine⟨⟨a,rfl⟩,by show g<b+_;omega,by show vn≤if g<b then _ else _;rw[if_pos hgb];exact hvn,fun he=>?_⟩;have he':(if g<b then S.cur g else 1)=vn:=he;rw[if_pos hgb] at he';show _=Value.map (some (S.place (inv b ks g)));rw[Fc hgb];exact hcur he'
     · split
       · rename_i hver
         have hh:=hcur (by rw[hG.ver,hver]);split
         · rename_i j hj
           obtain⟨h1,h2⟩:=Ox hj;refine⟨⟨a,rfl⟩,by show b+j<b+_;omega,by show 1≤if b+j<b then _ else 1;rw[if_neg (by omega)];exact Nat.le_refl 1,fun _=>?_⟩;show _=Value.map (some (S.place (inv b ks (b+j))));rw[z0r,h2];exact hh
         · trivial
       · trivial
   | lst w xs=>exact Vf h.1 h
   | cptr x=>exact Vf h.1 h
   | any=>trivial
   | bool _=>exact h
   | int _ _=>exact h
   | str _=>exact h
   | nilS=>exact h
   | nul=>exact h
   | emp=>exact h
   | nilP=>exact h
   | nilF=>exact h
   | yld l=>exact h
theorem Js (hS:SRel S H) (hb:b≤S.n):BEvo b S (S.repack b H ks) where
 base:=rfl
 os:=rfl
 tape:=⟨rfl,Nat.le_refl _⟩
 output:=rfl
 size:=Nat.le_refl _
 kept _ _:=rfl
 im _ h:=.inl h
 keep _ h:=h
 fresh c hc:=by
   rcases hc with hc|⟨g,hg,_,_,hw,hcap,rfl⟩
   · exact .inl hc
   · exact .inr fun hk=>((hS.grp g hg).live hw hcap).2 (.inr hk)
 n:=Nat.le_add_right _ _
 cur g hg:=by show _≤if g<b then S.cur g else 1;rw[if_pos hg];exact Nat.le_refl _
 same g hg _:=by
   show S.place (inv b ks g)=_∧S.cap (inv b ks g)=_∧S.wid (inv b ks g)=_;rw[Fc hg];exact⟨rfl,rfl,rfl⟩
theorem Mu (d:Nat) (hS:SRel S H) (hb:b≤H.n) (hk:∀ k∈ks,b≤k∧k<H.n) (hn:ks.Nodup):SRel (S.repack b H ks) (H.repack b ks d):=by
 have keyL:∀ {cs:List AV} {vs:List Value},Ad S cs vs→Ad (S.repack b H ks) (cs.map (rnV b H ks d)) vs:=by
   intro cs
   induction cs with
   | nil=>intro vs hh;exact hh
   | cons c cs ih =>
     intro vs hh;obtain⟨u,r,rfl,h1,h2⟩:=hh;exact⟨u,r,rfl,z7u hS d h1,ih h2⟩
 have hinv:∀ j,j<b+ks.length→inv b ks j<H.n∧(j<b∨b≤inv b ks j∧inv b ks j∈ks):=by
   intro j hj;by_cases hjb:j<b
   · rw[Fc hjb];exact⟨by omega,.inl hjb⟩
   · have h1:j-b<ks.length:=by omega
     have:inv b ks j=ks[j-b]:=by simp[inv,hjb,List.getD,List.getElem?_eq_getElem h1]
     rw[this];have:=hk _ (List.getElem_mem h1);exact⟨this.2,.inr ⟨this.1,List.getElem_mem h1⟩⟩
 refine⟨rfl,fun j hj=>?_,fun j j' hj hj' hne hw hw'=>?_,fun c hc=>?_⟩
 · obtain⟨h1,h2⟩:=hinv j hj
   have hG:=hS.grp _ h1
   have hni:(H.at_ (inv b ks j)).has (S.cap (inv b ks j))→¬((S.repack b H ks).im (S.place (inv b ks j))∨(S.repack b H ks).keep (S.place (inv b ks j))):=fun hq=>by
     have a5:=hG.has_ni hq;rintro ((hi|⟨g,hg,hbg,hnk,hw',hc',he⟩)|hi)
     · exact a5 (.inl hi)
     · have hne:inv b ks j≠g:=by
         intro hh;rcases h2 with h2|h2
         · rw[Fc h2] at hh;omega
         · exact hnk (hh ▸ h2.2)
       exact hS.apart _ g h1 hg hne hq (.inl ⟨hw',hc'⟩) he
     · exact a5 (.inr hi)
   refine⟨?_,hG.wid,fun hw hc=>?_,fun hw=>?_,fun hw he=>?_,fun hw he=>?_⟩
   · show (if j<b then S.cur j else 1)=if j<b then (H.at_ j).ver else 1
     split
     · rename_i hjb;rw[Fc hjb] at hG;exact hG.ver
     · rfl
   · obtain⟨⟨cells,TT,us,a1,a2,a3,a4⟩,a5⟩:=hG.live hw hc
     exact⟨⟨cells,TT,us,a1,a2,keyL a3,a4⟩,hni (.inl ⟨hw,hc⟩)⟩
   · show ((H.at_ (inv b ks j)).xs.map _).length≤_;rw[List.length_map];exact hG.len hw
   · show ((H.at_ (inv b ks j)).xs.map _).length=_;rw[List.length_map];exact hG.full hw he
   · obtain⟨⟨es,clock,a1,a2⟩,a5⟩:=hG.mlive hw he
     exact⟨⟨es,clock,a1,keyL a2⟩,hni (.inr ⟨hw,he⟩)⟩
 · obtain⟨h1,h2⟩:=hinv j hj
   obtain⟨h1',h2'⟩:=hinv j' hj';refine hS.apart _ _ h1 h1' ?_ hw hw';intro hh;rcases h2 with h2|⟨h2,h3⟩<;>rcases h2' with h2'|⟨h2',h3'⟩
   · rw[Fc h2,Fc h2'] at hh;exact hne hh
   · rw[Fc h2] at hh;omega
   · rw[Fc h2'] at hh;omega
   · have hjb:¬j<b:=fun h=>by rw[Fc h] at h2;omega
     have hjb':¬j'<b:=fun h=>by rw[Fc h] at h2';omega
     have e1:j-b<ks.length:=by have:j<b+ks.length:=hj;omega
     have e2:j'-b<ks.length:=by have:j'<b+ks.length:=hj';omega
     have f1:inv b ks j=ks[j-b]:=by simp[inv,hjb,List.getD,List.getElem?_eq_getElem e1]
     have f2:inv b ks j'=ks[j'-b]:=by simp[inv,hjb',List.getD,List.getElem?_eq_getElem e2]
     rw[f1,f2] at hh;have:=(List.getElem_inj hn).1 hh;omega
 · rcases hc with (hc|⟨g,hg,_,_,hw,hcap,rfl⟩)|hc
   · exact hS.im c (.inl hc)
   · exact (hS.grp g hg).lt hw hcap
   · exact hS.im c (.inr hc)
theorem zh6 {P:Program} {n:Nat} {c:AC} {env:Env} {Q:Ex→Env→Ac→Prop} (ks:List Nat) (d:Nat) (hb:b≤H.n) (hk:∀ k∈ks,b≤k∧k<H.n) (hn:ks.Nodup)
   (h:T P n b c (fun i=>rnV b H ks d (env i)) (H.repack b ks d) Q):T P n b c env H Q:=by
 intro rd mm hrd code hc S a hbS hS hF;have hev:=Js (ks:=ks) hS hbS;refine wpIn_mono (h rd mm hrd code hc (S.repack b H ks) a (Nat.le_add_right _ _) (Mu d hS hb hk hn) ⟨hF.size,hF.defers.of hev.base hev.size hev.keep hev.fresh (fun b hb=>hev.kept b (.inr hb)),fun j hj=>z7u hS d (hF.val j hj)⟩) fun e a w hh=>hh.trans (Js hS hbS)
end
theorem z4k:Ac.nil=hl []:=by
 simp[Ac.nil,hl]
theorem hl_n (l:List Grp):(hl l).n=l.length:=rfl
theorem SRel.congr {S:MS} {H H':Ac} (hn:H'.n=H.n) (h:∀ g,g<H.n→H'.at_ g=H.at_ g) (hS:SRel S H):SRel S H' :=
 ⟨hS.n.trans hn.symm,fun g hg=>by rw[h g (by omega)];exact hS.grp g (by omega),fun g g' hg hg' hne hw hw'=>by
   rw[h g (by omega)] at hw;rw[h g' (by omega)] at hw'
   exact hS.apart g g' (by omega) (by omega) hne hw hw',hS.im⟩
theorem Be.congr {P:Program} {f:Nat} {xs:List AV} {H H':Ac} {K:AV→Ac→Prop} (hn:H'.n=H.n) (h:∀ g,g<H.n→H'.at_ g=H.at_ g) (k:Be P f xs H' K):Be P f xs H K :=
 ⟨k.1,fun S cargs hS hx=>k.2 S cargs (hS.congr hn h) hx⟩
def Ac.groups (H:Ac):List Grp:=(List.range H.n).map H.at_
theorem Xy (l:List Grp):(hl l).groups=l:=by
 refine List.ext_getElem (by simp[Ac.groups,hl]) fun i h1 h2=>?_;simp[Ac.groups,hl,h2]
def D1:Nat→List Nat→List Grp→List Grp
 | _,_,[]=>[]
 | i,ks,G::l=>(if i∈ks then G.dead else G)::D1 (i+1) ks l
theorem Gt:∀ (i:Nat) (ks:List Nat) (l:List Grp),(D1 i ks l).length=l.length
 | _,_,[]=>rfl
 | i,ks,G::l=>by simp[D1,Gt (i+1) ks l]
theorem Ll:∀ (i:Nat) (ks:List Nat) (l:List Grp) (g:Nat),g<l.length→(D1 i ks l).getD g default=if i+g∈ks then (l.getD g default).dead else l.getD g default
 | _,_,[],g,h=>by simp at h
 | i,ks,G::l,0,h=>by simp[D1]
 | i,ks,G::l,g+1,h=>by
   have:=Ll (i+1) ks l g (by simpa using h);have e:i+1+g=i+(g+1):=by omega
   rw[e] at this;simpa [D1] using this
theorem S6 {P:Program} {f:Nat} {xs:List AV} {l:List Grp} {K:AV→Ac→Prop} (d:Nat) (ks:List Nat) (hok:∀ x∈xs,Cp d ((hl l).only ks) x) (h:Be P f (xs.map (frzV d ((hl l).only ks))) (hl (D1 0 ks l)) K):Be P f xs (hl l) K:=by
 refine Vb d ks hok (Be.congr (H':=hl (D1 0 ks l)) (by simp[hl,Ac.kill,Gt]) (fun g hg=>?_) h);show (D1 0 ks l).getD g default=if g∈ks then (l.getD g default).dead else l.getD g default
 rw[Ll 0 ks l g hg,Nat.zero_add]
def leH (H:Ac) (x y:AV):Prop:=∀ S v,SRel S H→VRel S x v→VRel S y v
section
variable {H:Ac}
theorem zbh {l:List Grp} {g v len:Nat} (hv:(l.getD g default).ver=v) (hw:0<(l.getD g default).w) (hx:(l.getD g default).xs=[]) (he:(l.getD g default).exact=true) (hg:g<l.length) (h0:len=0):leH (hl l) .nilS (.ref g v 0 len):=fun S u hS hu=>by
 subst h0;have hG:=hS.grp g hg;rw[Cy] at hG;have hf:=hG.full hw he;rw[hx] at hf;have hc:S.cap g=0:=hf.symm;have hu':u=.slice none 0 0:=hu;subst hu';exact⟨⟨none,0,rfl,fun _=>rfl⟩,by rw[hS.n];exact hg,by rw[hG.ver,hv];exact Nat.le_refl _,fun _=>⟨none,0,rfl,.inr ⟨rfl,rfl,by rw[hc];exact Nat.le_refl _⟩⟩⟩
end
mutual
def leS (l:List Grp):AV→AV→Prop
 | .int k a,y=>(match y with|.int k' b=>k=k'∧a=b|.any=>True|_=>False)
 | .bool a,y=>(match y with|.bool b=>a=b|.any=>True|_=>False)
 | .nilS,y=>(match y with
   | .nilS|.any=>True
   | .lst w ys=>0<w∧ys=[]
   | .ref g v off len=>off=0∧len=0∧(l.getD g default).ver=v∧0<(l.getD g default).w∧(l.getD g default).xs=[]∧(l.getD g default).exact=true∧g<l.length
   | _=>False)
 | .nul,y=>(match y with|.nul|.any=>True|.lst w ys=>0<w∧ys=[]|_=>False)
 | .emp,y=>(match y with|.emp|.any=>True|.lst w ys=>0<w∧ys=[]|_=>False)
 | .lst w xs,y=>(match y with|.lst w' ys=>w=w'∧xs=ys|.any=>True|_=>False)
 | .full w xs,y=>(match y with|.full w' ys=>w=w'∧xs=ys|.lst w' ys=>w=w'∧leSL l xs ys∧Ak ys=true|.any=>True|_=>False)
 | .ref g v o n,y=>(match y with|.ref g' v' o' n'=>g=g'∧v=v'∧o=o'∧n=n'|.any=>True|_=>False)
 | .ptr g v o n,y=>(match y with|.ptr g' v' o' n'=>g=g'∧v=v'∧o=o'∧n=n'|.any=>True|_=>False)
 | .agg xs,y=>(match y with|.agg ys=>leSL l xs ys|.any=>True|_=>False)
 | .tup xs,y=>(match y with|.tup ys=>leSL l xs ys|.any=>True|_=>False)
 | x,y=>(match y with|.any=>True|y=>x=y)
def leSL (l:List Grp):List AV→List AV→Prop
 | [],ys=>ys=[]
 | x::xs,ys=>(match ys with|y::ys=>leS l x y∧leSL l xs ys|[]=>False)
end
mutual
theorem Xz {S:MS} {l:List Grp} (hS:SRel S (hl l)∨l=[]):∀ (x:AV) {y:AV} {v:Value},leS l x y→VRel S x v→VRel S y v
 | .any,y,v,h,hv=>by cases y<;>simp only[leS,reduceCtorEq] at h;trivial
 | .int k a,y,v,h,hv=>by
   cases y<;>simp only[leS] at h
   · trivial
   · obtain⟨rfl,rfl⟩:=h;exact hv
 | .bool a,y,v,h,hv=>by
   cases y<;>simp only[leS] at h
   · trivial
   · subst h;exact hv
 | .str s,y,v,h,hv=>by cases y<;>simp only[leS] at h<;>first|trivial|(cases h;done)|(cases h;exact hv)
 | .nilP,y,v,h,hv=>by cases y<;>simp only[leS] at h<;>first|trivial|(cases h;done)|exact hv
 | .nilF,y,v,h,hv=>by cases y<;>simp only[leS] at h<;>first|trivial|(cases h;done)|exact hv
 | .yld l,y,v,h,hv=>by cases y<;>simp only[leS] at h<;>first|trivial|(cases h;done)|(cases h;exact hv)
 | .cptr x,y,v,h,hv=>by cases y<;>simp only[leS] at h<;>first|trivial|(cases h;done)|(cases h;exact hv)
 | .fn f xs,y,v,h,hv=>by cases y<;>simp only[leS] at h<;>first|trivial|(cases h;done)|(cases h;exact hv)
 | .nilS,y,v,h,hv=>by
   cases y<;>simp only[leS] at h
   · trivial
   · exact hv
   · obtain⟨h1,rfl⟩:=h;exact AV.le_nilS h1 S v hv
   · obtain⟨rfl,rfl,h1,h2,h3,h4,h5⟩:=h
     rcases hS with hS|rfl
     · exact zbh h1 h2 h3 h4 h5 rfl S v hS hv
     · exact absurd h5 (Nat.not_lt_zero _)
 | .nul,y,v,h,hv=>by
   cases y<;>simp only[leS] at h
   · trivial
   · exact hv
   · obtain⟨h1,rfl⟩:=h;exact AV.le_nul h1 S v hv
 | .emp,y,v,h,hv=>by
   cases y<;>simp only[leS] at h
   · trivial
   · exact hv
   · obtain⟨h1,rfl⟩:=h;exact AV.le_emp h1 S v hv
 | .lst w xs,y,v,h,hv=>by
   cases y<;>simp only[leS] at h
   · trivial
   · obtain⟨rfl,rfl⟩:=h;exact hv
 | .full w xs,y,v,h,hv=>by
   cases y<;>simp only[leS] at h
   · trivial
   · rename_i w' ys
     obtain⟨rfl,h1,hp⟩:=h;obtain⟨_,h0,a,cap,vs,hv,hc,hl,hr⟩:=Lb hv;have hn:=Ad.length hl;have hm:=Ks hS xs h1 hl;have hln:ys.length=xs.length:=by rw[←Ad.length hm,hn]
     exact⟨hp,h0,a,cap,vs,by rw[hln];exact hv,by rw[hln];exact hc,hm,fun hne=>hr fun h=>hne (by rw[h] at hln;exact List.length_eq_zero_iff.1 hln)⟩
   · obtain⟨rfl,rfl⟩:=h;exact hv
 | .map g a,y,v,h,hv=>by cases y<;>simp only[leS] at h<;>first|trivial|(cases h;done)|(cases h;exact hv)
 | .ref g a o n,y,v,h,hv=>by
   cases y<;>simp only[leS] at h
   · trivial
   · obtain⟨rfl,rfl,rfl,rfl⟩:=h;exact hv
 | .ptr g a o n,y,v,h,hv=>by
   cases y<;>simp only[leS] at h
   · trivial
   · obtain⟨rfl,rfl,rfl,rfl⟩:=h;exact hv
 | .agg xs,y,v,h,hv=>by
   cases y<;>simp only[leS] at h
   · trivial
   · obtain⟨vs,rfl,hr⟩:=hv;exact⟨vs,rfl,Ks hS xs h hr⟩
 | .tup xs,y,v,h,hv=>by
   cases y<;>simp only[leS] at h
   · trivial
   · obtain⟨vs,rfl,hr⟩:=hv;exact⟨vs,rfl,Ks hS xs h hr⟩
theorem Ks {S:MS} {l:List Grp} (hS:SRel S (hl l)∨l=[]):∀ (xs:List AV) {ys:List AV} {vs:List Value},leSL l xs ys→Ad S xs vs→Ad S ys vs
 | [],ys,vs,h,hv=>by rw[show ys=[] from h];exact hv
 | x::xs,[],vs,h,hv=>h.elim
 | x::xs,y::ys,vs,h,hv=>by
   obtain⟨v,r,rfl,h1,h2⟩:=hv;exact⟨v,r,rfl,Xz hS x h.1 h1,Ks hS xs h.2 h2⟩
end
theorem z4l {l:List Grp}:∀ {xs ys:List AV},leSL l xs ys→ys.length=xs.length
 | [],ys,h=>by rw[show ys=[] from h]
 | _::_,[],h=>h.elim
 | _::_,_::_,h=>by simp[z4l h.2]
mutual
theorem Lm (l:List Grp):∀ x:AV,leS l x x
 | .any=>trivial
 | .int _ _=>⟨rfl,rfl⟩
 | .bool _=>rfl
 | .str _=>rfl
 | .nilS=>trivial
 | .nul=>trivial
 | .emp=>trivial
 | .lst _ _=>⟨rfl,rfl⟩
 | .full _ _=>⟨rfl,rfl⟩
 | .map _ _=>rfl
 | .ref ..=>⟨rfl,rfl,rfl,rfl⟩
 | .ptr ..=>⟨rfl,rfl,rfl,rfl⟩
 | .cptr _=>rfl
 | .nilP=>rfl
 | .nilF=>rfl
 | .yld _=>rfl
 | .fn ..=>rfl
 | .agg xs=>Bf l xs
 | .tup xs=>Bf l xs
theorem Bf (l:List Grp):∀ xs:List AV,leSL l xs xs
 | []=>rfl
 | x::xs=>⟨Lm l x,Bf l xs⟩
end
theorem zkx {x y:AV} (h:leS [] x y):AV.le x y:=fun S v hv=>Xz (.inr rfl) x h hv
theorem Kt {xs ys:List AV} (h:leSL [] xs ys):leL xs ys:=fun S v hv=>Ks (.inr rfl) xs h hv
def zbi (l:List Grp) (G G':Grp):Prop:=G.w=G'.w∧G.ver=G'.ver∧(G'.exact=true→G.exact=true)∧leSL l G.xs G'.xs
def Hi (l0:List Grp):List Grp→List Grp→Prop
 | [],[]=>True
 | G::l,G'::l'=>zbi l0 G G'∧Hi l0 l l'
 | _,_=>False
theorem Mv {l0:List Grp}:∀ {l l':List Grp},Hi l0 l l'→l'.length=l.length
 | [],[],_=>rfl
 | G::l,G'::l',h=>by simp[Mv h.2]
 | [],_::_,h=>h.elim
 | _::_,[],h=>h.elim
theorem Pk {l0:List Grp}:∀ {l l':List Grp},Hi l0 l l'→∀ g,g<l.length→zbi l0 (l.getD g default) (l'.getD g default)
 | [],[],_,g,hg=>by simp at hg
 | G::l,G'::l',h,0,_=>h.1
 | G::l,G'::l',h,g+1,hg=>by simpa using Pk h.2 g (by simpa using hg)
 | [],_::_,h,_,_=>h.elim
 | _::_,[],h,_,_=>h.elim
theorem Hj {S:MS} {l l':List Grp} (hS:SRel S (hl l)) (h:Hi l l l'):SRel S (hl l'):=by
 have hlen:=Mv h;refine⟨hS.n.trans hlen.symm,fun g hg=>?_,fun g g' hg hg' hne hw hw'=>?_,hS.im⟩
 · have hg':g<l.length:=by rw[←hlen];exact hg
   obtain⟨h1,h2,h3,h5⟩:=Pk h g hg';have h4:(l.getD g default).xs.length=(l'.getD g default).xs.length:=(z4l h5).symm;have hG:=hS.grp g hg';rw[Cy] at hG ⊢;refine⟨by rw[←h2];exact hG.ver,by rw[←h1];exact hG.wid,fun hw hc=>?_,fun hw=>by rw[←h4];exact hG.len (by rw[h1];exact hw),fun hw he=>by rw[←h4];exact hG.full (by rw[h1];exact hw) (h3 he),fun hw he=>?_⟩
   rotate_left
   · obtain⟨⟨es,clock,a1,a2⟩,a5⟩:=hG.mlive (by rw[h1];exact hw) (h3 he)
     exact⟨⟨es,clock,a1,Ks (.inl hS) _ h5 a2⟩,a5⟩
   obtain⟨⟨cells,TT,us,a1,a2,a3,a4⟩,a5⟩:=hG.live (by rw[h1];exact hw) hc;exact⟨⟨cells,TT,us,a1,by rw[←h1];exact a2,Ks (.inl hS) _ h5 a3,by rw[←h1];exact a4⟩,a5⟩
 · have hg1:g<l.length:=by rw[←hlen];exact hg
   have hg1':g'<l.length:=by rw[←hlen];exact hg'
   have key:∀ g,g<l.length→((hl l').at_ g).has (S.cap g)→((hl l).at_ g).has (S.cap g):=fun g hg hh=>by
     obtain⟨k1,_,k3,_⟩:=Pk h g hg;rw[Cy] at hh ⊢;rcases hh with⟨q1,q2⟩|⟨q1,q2⟩
     · exact .inl ⟨by rw[k1];exact q1,q2⟩
     · exact .inr ⟨by rw[k1];exact q1,k3 q2⟩
   exact hS.apart g g' hg1 hg1' hne (key g hg1 hw) (key g' hg1' hw')
inductive Src where
 | grp (g:Nat)
 | virt (w:Nat)
def Bm (w:Nat):AV→Src
 | .ref g _ _ _=>.grp g
 | .ptr g _ _ _=>.grp g
 | .map g _=>.grp g
 | _=>.virt w
def cellAt (H:Ac) (x:AV) (k:Nat):AV:=match x with
 | .ptr g _ i _=>((H.at_ g).xs.getD i .any).cells.getD k .any
 | _=>.any
def Ey:Nat→List Src→List Nat × List Nat
 | _,[]=>([],[])
 | N,.grp g::r=>(g::(Ey N r).1,(Ey N r).2)
 | N,.virt w::r=>(N::(Ey (N+1) r).1,w::(Ey (N+1) r).2)
def Iu (w:Nat):Grp:=⟨w,1,true,[]⟩
def De:List (Nat × AV)→Env
 | [],_=>.any
 | (t,x)::l,j=>if j=t then x else De l j
def Nj (l2:List Grp) (H1:Ac) (b:Nat) (ks:List Nat) (env:Env):List (Nat × AV)→Prop
 | []=>True
 | (t,y)::r=>leS l2 (rnV b H1 ks 6 (env t)) y∧Nj l2 H1 b ks env r
def allB (b n:Nat):List Nat→Prop
 | []=>True
 | k::r=>b≤k∧k<n∧allB b n r
def z0s:List Nat→Prop
 | []=>True
 | k::r=>k∉r∧z0s r
def rnG (b:Nat) (H:Ac) (ks:List Nat) (v:Nat) (G:Grp):Grp:=⟨G.w,v,G.exact,G.xs.map (rnV b H ks 6)⟩
def Dx (b:Nat) (H:Ac) (ks:List Nat):List Grp→List Grp
 | []=>[]
 | G::l=>rnG b H ks G.ver G::Dx b H ks l
def D9 (b:Nat) (H:Ac) (ks:List Nat) (l:List Grp):List Nat→List Grp
 | []=>[]
 | k::r=>rnG b H ks 1 (l.getD k default)::D9 b H ks l r
def zn6 (b:Nat) (env:Env) (l1 l2:List Grp) (ks:List Nat) (live:List (Nat × AV)) (heap:List Grp):Prop:=Nj l2 (hl l1) b ks env live∧Hi l2 l2 heap
def zn7 (b:Nat) (env:Env) (l1:List Grp) (ks:List Nat) (live:List (Nat × AV)) (heap:List Grp):Prop :=
 allB b l1.length ks∧z0s ks∧zn6 b env l1 (Dx b (hl l1) ks (l1.take b)++D9 b (hl l1) ks l1 ks) ks live heap
def Pm:List Nat→Prop
 | []=>True
 | w::r=>0<w∧Pm r
theorem Jt:∀ {ws:List Nat},Pm ws→∀ w∈ws,0<w
 | [],_,w,hw=>by simp at hw
 | k::r,h,w,hw=>by
   rcases List.mem_cons.1 hw with rfl|hw
   · exact h.1
   · exact Jt h.2 w hw
def zn8 (b:Nat) (env:Env) (l:List Grp) (p:List Nat × List Nat) (live:List (Nat × AV)) (heap:List Grp):Prop:=Pm p.2∧zn7 b env (l++p.2.map Iu) p.1 live heap
def Head (b:Nat) (env:Env) (H:Ac) (srcs:List Src) (live:List (Nat × AV)) (heap:List Grp):Prop:=b≤H.n∧zn8 b env H.groups (Ey H.n srcs) live heap
section
variable {P:Program} {n b:Nat} {env:Env} {H:Ac} {Q:Ex→Env→Ac→Prop}
theorem zn9 {l:List Grp} {srcs:List Src} {live:List (Nat × AV)} {heap:List Grp}:Head b env (hl l) srcs live heap=(b≤l.length∧zn8 b env l (Ey l.length srcs) live heap):=by
 rw[Head,Xy,hl_n]
theorem zna {c:AC} (w:Nat) (hw0:0<w) (h:T P n b c env (H.push ⟨w,1,true,[]⟩) Q):T P n b c env H Q:=by
 intro rd mm hrd code hc S a hb hS hF;exact wpIn_mono (h rd mm hrd code hc (S.virt w) a (Nat.le_succ_of_le hb) (hS.virt w hw0) ⟨hF.size,hF.defers.mono (Evo.virt _),fun j hj=>VRel.mono (Evo.virt _) _ (hF.val j hj)⟩) fun e a w hh=>hh.trans ((Evo.virt _).down hb)
theorem z0t {c:AC}:∀ (ws:List Nat) {l:List Grp},(∀ w∈ws,0<w)→T P n b c env (hl (l++ws.map Iu)) Q→T P n b c env (hl l) Q
 | [],l,_,h=>by simpa using h
 | w::ws,l,hw,h=>zna w (hw w (by simp)) (by rw[D8];exact z0t ws (fun w' h'=>hw w' (by simp[h'])) (by simpa [Iu] using h))
theorem zbj {c:AC} {H':Ac} (hn:H'.n=H.n) (h:∀ g,g<H.n→H'.at_ g=H.at_ g) (k:T P n b c env H' Q):T P n b c env H Q :=
 fun rd mm hrd code hc S a hb hS hF=>k rd mm hrd code hc S a hb (hS.congr hn h) hF
theorem Oy {m:Nat}:∀ {ks:List Nat},allB b m ks→∀ k∈ks,b≤k∧k<m
 | [],_,k,hk=>by simp at hk
 | k::r,h,j,hj=>by
   rcases List.mem_cons.1 hj with rfl|hj
   · exact⟨h.1,h.2.1⟩
   · exact Oy h.2.2 j hj
theorem Ib:∀ {ks:List Nat},z0s ks→ks.Nodup
 | [],_=>List.nodup_nil
 | k::r,h=>List.nodup_cons.2 ⟨h.1,Ib h.2⟩
theorem Pn {H:Ac} {ks:List Nat}:∀ {l:List Grp},(Dx b H ks l).length=l.length
 | []=>rfl
 | G::l=>by simp[Dx,Pn]
theorem S7 {H:Ac} {ks:List Nat}:∀ {l:List Grp} {g:Nat},g<l.length→(Dx b H ks l).getD g default=rnG b H ks (l.getD g default).ver (l.getD g default)
 | [],g,h=>by simp at h
 | G::l,0,_=>rfl
 | G::l,g+1,h=>by simpa [Dx] using S7 (l:=l) (g:=g) (by simpa using h)
theorem Po {H:Ac} {ks:List Nat} {l:List Grp}:∀ {r:List Nat},(D9 b H ks l r).length=r.length
 | []=>rfl
 | k::r=>by simp[D9,Po]
theorem S8 {H:Ac} {ks:List Nat} {l:List Grp}:∀ {r:List Nat} {j:Nat},j<r.length→(D9 b H ks l r).getD j default=rnG b H ks 1 (l.getD (r.getD j 0) default)
 | [],j,h=>by simp at h
 | k::r,0,_=>rfl
 | k::r,j+1,h=>by simpa [D9] using S8 (r:=r) (j:=j) (by simpa using h)
theorem Pp {l1:List Grp} {ks:List Nat} (hb:b≤l1.length):((hl (Dx b (hl l1) ks (l1.take b)++D9 b (hl l1) ks l1 ks)).n=((hl l1).repack b ks 6).n) ∧
   ∀ g,g<((hl l1).repack b ks 6).n→(hl (Dx b (hl l1) ks (l1.take b)++D9 b (hl l1) ks l1 ks)).at_ g=((hl l1).repack b ks 6).at_ g:=by
 have hO:(Dx b (hl l1) ks (l1.take b)).length=b:=by rw[Pn,List.length_take];omega
 refine⟨?_,fun g hg=>?_⟩
 · show (Dx b (hl l1) ks (l1.take b)++D9 b (hl l1) ks l1 ks).length=b+ks.length
   rw[List.length_append,hO,Po]
 · have hg':g<b+ks.length:=hg
   rw[Cy];show _=(⟨_,if g<b then (l1.getD g default).ver else 1,_,_⟩:Grp);by_cases hgb:g<b
   · rw[if_pos hgb,Fc hgb]
     have e:(Dx b (hl l1) ks (l1.take b)++D9 b (hl l1) ks l1 ks).getD g default=(Dx b (hl l1) ks (l1.take b)).getD g default:=by
       simp[List.getD,List.getElem?_append_left (show g<(Dx b (hl l1) ks (l1.take b)).length by omega)]
     have e2:(l1.take b).getD g default=l1.getD g default:=by
       simp[List.getD,hgb]
     rw[e,S7 (by simp;omega),e2];rfl
   · rw[if_neg hgb]
     have e:(Dx b (hl l1) ks (l1.take b)++D9 b (hl l1) ks l1 ks).getD g default=(D9 b (hl l1) ks l1 ks).getD (g-b) default:=by
       have:=List.getElem?_append_right (l₁:=Dx b (hl l1) ks (l1.take b)) (l₂:=D9 b (hl l1) ks l1 ks) (i:=g) (by omega);rw[hO] at this;simp[List.getD,this]
     rw[e,S8 (by omega)];have e3:inv b ks g=ks.getD (g-b) 0:=by rw[inv,if_neg hgb]
     rw[e3];rfl
theorem Pq {S:MS} {l2:List Grp} {H1:Ac} {ks:List Nat} {a:Act} (hS:SRel S (hl l2)) (hF:FRel S n (fun i=>rnV b H1 ks 6 (env i)) a):∀ {live:List (Nat × AV)},Nj l2 H1 b ks env live→∀ i,i<n→VRel S (De live i) (a.tmps.getD i undef)
 | [],_,i,_=>trivial
 | (t,y)::r,h,i,hi=>by
   show VRel S (if i=t then y else De r i) _;split
   · rename_i hit
     subst hit;exact Xz (.inl hS) _ h.1 (hF.val i hi)
   · exact Pq hS hF h.2 i hi
theorem Ta {c:AC} {srcs:List Src} {live:List (Nat × AV)} {heap:List Grp} (hh:Head b env H srcs live heap) (h:T P n b c (De live) (hl heap) Q):T P n b c env H Q:=by
 obtain⟨hb,hh⟩:=hh;have hgn:H.groups.length=H.n:=by simp[Ac.groups]
 refine zbj (H':=hl H.groups) hgn (fun g hg=>?_) ?_
 · show H.groups.getD g default=_
   simp[Ac.groups,List.getD,hg]
 refine z0t (Ey H.n srcs).2 (Jt hh.1) ?_;replace hh:=hh.2;generalize hl1:H.groups++(Ey H.n srcs).2.map Iu=l1;simp only[hl1] at hh;obtain⟨h1,h2,h3,h4⟩:=hh;have hb1:b≤l1.length:=by rw[←hl1,List.length_append];omega
 refine zh6 (Ey H.n srcs).1 6 hb1 (fun k hk=>Oy h1 k hk) (Ib h2) ?_;obtain⟨e1,e2⟩:=Pp (ks:=(Ey H.n srcs).1) hb1;refine zbj e1 e2 ?_;intro rd mm hrd code hc S a hbS hS hF;have hlen:=Mv h4;exact h rd mm hrd code hc S a hbS (Hj hS h4) ⟨hF.size,hF.defers,Pq hS hF h3⟩
theorem A8 {σ:Type} (Fact:σ→Prop) (μ:σ→Nat) (live:σ→List (Nat × AV)) (heap:σ→List Grp) (srcs:Env→Ac→List Src) {c:AC} (s0:σ) (h0:Fact s0) (he:Head b env H (srcs env H) (live s0) (heap s0))
   (round:∀ s,Fact s→T P n b c (De (live s)) (hl (heap s)) (Ex.then (fun env' H'=>∃ s',Head b env' H' (srcs env' H') (live s') (heap s')∧Fact s'∧μ s'<μ s) Q)):T P n b (.loop c) env H Q:=by
 refine zku (fun s env H=>Fact s∧Head b env H (srcs env H) (live s) (heap s)) μ s0 ⟨h0,he⟩ fun s env H hI=>?_;refine Ta hI.2 (T.mono (round s hI.1) fun x env' H' hh=>?_);cases x with
 | normal=>obtain⟨s',k1,k2,k3⟩:=hh;exact⟨s',⟨k2,k1⟩,k3⟩
 | exit id=>exact hh
 | ret=>exact hh
end
def hset (l:List Grp) (g:Nat) (G:Grp):Ac:=(hl l).set g G
def setQ:List Grp→Nat→Grp→Option (List Grp)
 | [],_,_=>none
 | _::l,0,G=>some (G::l)
 | K::l,g+1,G=>(setQ l g G).map (K::·)
theorem X0:∀ {l:List Grp} {g:Nat} {G:Grp} {l':List Grp},setQ l g G=some l'→g<l.length∧l'=l.set g G
 | [],_,_,_,h=>by cases h
 | _::l,0,G,_,h=>by cases h;exact⟨by simp,rfl⟩
 | K::l,g+1,G,l',h=>by
   obtain⟨r,hr,rfl⟩:=Option.map_eq_some_iff.1 h;obtain⟨h1,rfl⟩:=X0 hr;exact⟨by simpa using h1,rfl⟩
theorem znb (l:List Grp) (g:Nat) (G:Grp):(hl l).set g G=(match setQ l g G with|some l'=>hl l'|none=>hset l g G):=by
 cases h:setQ l g G with
 | none=>rfl
 | some l'=>obtain⟨h1,rfl⟩:=X0 h;exact G3 l g G h1
theorem zbk (K:Grp) (l:List Grp) (G:Grp):setQ (K::l) 0 G=some (G::l):=rfl
theorem zbl (K:Grp) (l:List Grp) (g:Nat) (G:Grp):setQ (K::l) (g+1) G=(setQ l g G).map (K::·):=rfl
theorem znc (g:Nat):pos [] g=none:=rfl
theorem zh7 (k:Nat) (ks:List Nat) (g:Nat):pos (k::ks) g=if g=k then some 0 else (pos ks g).map (·+1):=rfl
section
variable {b d:Nat} {H:Ac} {ks:List Nat}
def rnL (b:Nat) (H:Ac) (ks:List Nat) (d:Nat) (xs:List AV):List AV:=xs.map (rnV b H ks d)
theorem zrj (xs:List AV):xs.map (rnV b H ks (d+1))=bif Ak xs then xs else rnL b H ks (d+1) xs:=by
 cases h:Ak xs
 · rfl
 · have key:∀ (d:Nat) {x:AV},x.pure=true→rnV b H ks d x=x:=by
     intro d
     induction d with
     | zero=>intro x hx;simp[rnV,hx]
     | succ d ih =>
       intro x hx
       have kl:∀ cs:List AV,Ak cs=true→cs.map (rnV b H ks d)=cs:=fun cs hc=>by
         have:cs.map (rnV b H ks d)=cs.map id:=List.map_congr_left fun y hy=>ih (Bn.1 hc y hy);simpa using this
       cases x with
       | ref=>simp[AV.pure] at hx
       | ptr=>simp[AV.pure] at hx
       | map=>simp[AV.pure] at hx
       | agg cs=>rw[rnV,kl cs (by simpa [AV.pure] using hx)]
       | tup cs=>rw[rnV,kl cs (by simpa [AV.pure] using hx)]
       | fn f cs=>rw[rnV,kl cs (by simpa [AV.pure] using hx)]
       | _=>rfl
   have:xs.map (rnV b H ks (d+1))=xs.map id:=List.map_congr_left fun y hy=>key _ (Bn.1 h y hy);simpa using this
theorem znd:rnL b H ks d []=[]:=rfl
theorem zh8 (x:AV) (xs:List AV):rnL b H ks d (x::xs)=rnV b H ks d x::rnL b H ks d xs:=rfl
theorem zrk (g v off len:Nat):rnV b H ks (d+1) (.ref g v off len)=if g<b then .ref g v off len else if v=(H.at_ g).ver then
     (match pos ks g with
      | some j=>.ref (b+j) 1 off len
      | none=>if 0<(H.at_ g).w∧off+len≤(H.at_ g).xs.length then frzL (H.at_ g).w ((((H.at_ g).xs.drop off).take len).map (rnV b H ks d)) else .any)
     else .any:=rfl
theorem zrl (g v i o:Nat):rnV b H ks (d+1) (.ptr g v i o)=if g<b then .ptr g v i o else if v=(H.at_ g).ver then
     (match pos ks g with
      | some j=>.ptr (b+j) 1 i o
      | none=>if o=0∧i<(H.at_ g).xs.length∧0<(H.at_ g).w then frzP (rnV b H ks d ((H.at_ g).xs.getD i .any)) else .any)
     else .any:=rfl
theorem zrm (cs:List AV):rnV b H ks (d+1) (.agg cs)=.agg (cs.map (rnV b H ks d)):=rfl
theorem zrn (cs:List AV):rnV b H ks (d+1) (.tup cs)=.tup (cs.map (rnV b H ks d)):=rfl
theorem rn_fn (f:Nat) (cs:List AV):rnV b H ks (d+1) (.fn f cs)=.fn f (cs.map (rnV b H ks d)):=rfl
theorem zro:rnV b H ks (d+1) .any=.any:=rfl
theorem zne (w:Nat) (xs:List AV):rnV b H ks (d+1) (.full w xs)=.full w xs:=rfl
theorem rn_mp (g v:Nat):rnV b H ks (d+1) (.map g v)=if g<b then .map g v else if v=(H.at_ g).ver then (match pos ks g with|some j=>.map (b+j) 1|none=>.any) else .any:=rfl
theorem znf (q:Bool):rnV b H ks (d+1) (.bool q)=.bool q:=rfl
theorem zrp (k:IntKind) (n:Int):rnV b H ks (d+1) (.int k n)=.int k n:=rfl
theorem zrq (s:List UInt8):rnV b H ks (d+1) (.str s)=.str s:=rfl
theorem zng:rnV b H ks (d+1) .nilS=.nilS:=rfl
theorem zrr:rnV b H ks (d+1) .nul=.nul:=rfl
theorem znh:rnV b H ks (d+1) .nilP=.nilP:=rfl
theorem zni:rnV b H ks (d+1) .nilF=.nilF:=rfl
theorem zrs (l:Nat):rnV b H ks (d+1) (.yld l)=.yld l:=rfl
theorem zrt (w:Nat) (xs:List AV):rnV b H ks (d+1) (.lst w xs)=.lst w xs:=rfl
theorem znj (x:AV):rnV b H ks (d+1) (.cptr x)=.cptr x:=rfl
end
section
variable {l l0 l':List Grp} {G G':Grp}
theorem zru:Hi l0 [] []=True:=rfl
theorem znk:Hi l0 (G::l) (G'::l')=(zbi l0 G G'∧Hi l0 l l'):=rfl
theorem g_le:zbi l0 G G'=(G.w=G'.w∧G.ver=G'.ver∧(G'.exact=true→G.exact=true)∧leSL l0 G.xs G'.xs):=rfl
theorem zbm {x:AV}:leS l x x=True:=eq_true (Lm l x)
theorem zh9 {xs:List AV}:leSL l xs xs=True:=eq_true (Bf l xs)
theorem znl {ys:List AV}:leSL l [] ys=(ys=[]):=by simp only[leSL]
theorem zha {x y:AV} {xs ys:List AV}:leSL l (x::xs) (y::ys)=(leS l x y∧leSL l xs ys):=by simp only[leSL]
theorem Tb {k:IntKind} {a:Int} {k':IntKind} {b:Int}:leS l (.int k a) (.int k' b)=(k=k'∧a=b):=by simp only[leS]
theorem Nk {a:Bool} {b:Bool}:leS l (.bool a) (.bool b)=(a=b):=by simp only[leS]
theorem Pr  {w:Nat} {ys:List AV}:leS l .nilS (.lst w ys)=(0<w∧ys=[]):=by simp only[leS]
theorem z0u  {g v o n:Nat}:leS l .nilS (.ref g v o n)=(o=0∧n=0∧(l.getD g default).ver=v∧0<(l.getD g default).w∧(l.getD g default).xs=[]∧(l.getD g default).exact=true∧g<l.length):=by simp only[leS]
theorem Tc  {w:Nat} {ys:List AV}:leS l .nul (.lst w ys)=(0<w∧ys=[]):=by simp only[leS]
theorem Td  {w:Nat} {ys:List AV}:leS l .emp (.lst w ys)=(0<w∧ys=[]):=by simp only[leS]
theorem X3 {w:Nat} {xs:List AV} {w':Nat} {ys:List AV}:leS l (.full w xs) (.full w' ys)=(w=w'∧xs=ys):=by simp only[leS]
theorem Ps {w:Nat} {xs:List AV} {w':Nat} {ys:List AV}:leS l (.full w xs) (.lst w' ys)=(w=w'∧leSL l xs ys∧Ak ys=true):=by simp only[leS]
theorem z7v {g v g' v':Nat}:leS l (.map g v) (.map g' v')=(g=g'∧v=v'):=by simp only[leS,AV.map.injEq]
theorem Te {w:Nat} {xs:List AV} {w':Nat} {ys:List AV}:leS l (.lst w xs) (.lst w' ys)=(w=w'∧xs=ys):=by simp only[leS]
theorem z7w {g v o n:Nat} {g' v' o' n':Nat}:leS l (.ref g v o n) (.ref g' v' o' n')=(g=g'∧v=v'∧o=o'∧n=n'):=by simp only[leS]
theorem z7x {g v o n:Nat} {g' v' o' n':Nat}:leS l (.ptr g v o n) (.ptr g' v' o' n')=(g=g'∧v=v'∧o=o'∧n=n'):=by simp only[leS]
theorem Tf {xs:List AV} {ys:List AV}:leS l (.agg xs) (.agg ys)=leSL l xs ys:=by simp only[leS]
theorem Tg {xs:List AV} {ys:List AV}:leS l (.tup xs) (.tup ys)=leSL l xs ys:=by simp only[leS]
theorem zrv {x:AV}:leS l x .any=True:=eq_true (by cases x<;>simp only[leS])
def ansW (x y:AV):Prop:=leS [] x y
theorem znm {x:AV}:ansW x x=True:=zbm
theorem zrw {k k':IntKind} {a b:Int}:ansW (.int k a) (.int k' b)=(k=k'∧a=b):=Tb
theorem znn {a b:Bool}:ansW (.bool a) (.bool b)=(a=b):=Nk
theorem zno {w w':Nat} {xs ys:List AV}:ansW (.full w xs) (.lst w' ys)=(w=w'∧leSL [] xs ys∧Ak ys=true):=Ps
theorem zrx {w w':Nat} {xs ys:List AV}:ansW (.lst w xs) (.lst w' ys)=(w=w'∧xs=ys):=Te
theorem znp {w:Nat} {ys:List AV}:ansW .nilS (.lst w ys)=(0<w∧ys=[]):=Pr
theorem zry {w:Nat} {ys:List AV}:ansW .nul (.lst w ys)=(0<w∧ys=[]):=Tc
theorem zrz {w:Nat} {ys:List AV}:ansW .emp (.lst w ys)=(0<w∧ys=[]):=Td
theorem zs0 {xs ys:List AV}:ansW (.agg xs) (.agg ys)=leSL [] xs ys:=Tf
theorem B8 {xs ys:List AV}:ansW (.tup xs) (.tup ys)=leSL [] xs ys:=Tg
end
attribute [push_cast] X3 Ps z7v zno zne rn_mp
attribute [push_cast] zbm zh9 znl zha Tb Nk Pr z0u Tc Td Te z7w z7x Tf Tg zrv znm zrw znn zrx znp zry zrz zs0
section
variable {H H1:Ac} {l0:List Grp} {b t:Nat} {ks:List Nat} {env:Env} {y:AV} {r:List (Nat × AV)}
theorem zhb:Nj l0 H1 b ks env []=True:=rfl
theorem zbn:Nj l0 H1 b ks env ((t,y)::r)=(leS l0 (rnV b H1 ks 6 (env t)) y∧Nj l0 H1 b ks env r):=rfl
theorem zhc {n:Nat}:allB b n []=True:=rfl
theorem zbo {n k:Nat}:allB b n (k::ks)=(b≤k∧k<n∧allB b n ks):=rfl
theorem zbp:z0s []=True:=rfl
theorem z7y {k:Nat}:z0s (k::ks)=(k∉ks∧z0s ks):=rfl
theorem zbq {w g v o n:Nat}:Bm w (.ref g v o n)=.grp g:=rfl
theorem zbr {w g v i o:Nat}:Bm w (.ptr g v i o)=.grp g:=rfl
theorem zbs {w g v:Nat}:Bm w (.map g v)=.grp g:=rfl
theorem z7z:Pm []=True:=rfl
theorem z0v {w:Nat} {r:List Nat}:Pm (w::r)=(0<w∧Pm r):=rfl
theorem z80 {w:Nat}:Bm w .nilS=.virt w:=rfl
theorem z81 {g v i o k:Nat}:cellAt H (.ptr g v i o) k=((H.at_ g).xs.getD i .any).cells.getD k .any:=rfl
theorem zs1 {N:Nat}:Ey N []=([],[]):=rfl
theorem zs2 {N g:Nat} {l:List Src}:Ey N (.grp g::l)=(g::(Ey N l).1,(Ey N l).2):=rfl
theorem znq {N w:Nat} {l:List Src}:Ey N (.virt w::l)=(N::(Ey (N+1) l).1,w::(Ey (N+1) l).2):=rfl
theorem zs3 {j:Nat}:De [] j=.any:=rfl
theorem znr {j:Nat}:De ((t,y)::r) j=if j=t then y else De r j:=rfl
variable {l l1 l2:List Grp} {G:Grp} {live:List (Nat × AV)} {heap:List Grp}
theorem head1 {p q:List Nat}:zn8 b env l (p,q) live heap=(Pm q∧zn7 b env (l++q.map Iu) p live heap):=rfl
theorem head2:zn7 b env l1 ks live heap=(allB b l1.length ks∧z0s ks∧zn6 b env l1 (Dx b (hl l1) ks (l1.take b)++D9 b (hl l1) ks l1 ks) ks live heap):=rfl
theorem head3:zn6 b env l1 l2 ks live heap=(Nj l2 (hl l1) b ks env live∧Hi l2 l2 heap):=rfl
theorem zs4:Dx b H ks []=[]:=rfl
theorem zns:Dx b H ks (G::l)=rnG b H ks G.ver G::Dx b H ks l:=rfl
theorem zs5:D9 b H ks l []=[]:=rfl
theorem znt {k:Nat} {r:List Nat}:D9 b H ks l (k::r)=rnG b H ks 1 (l.getD k default)::D9 b H ks l r:=rfl
theorem zs6 {v:Nat}:rnG b H ks v G=⟨G.w,v,G.exact,G.xs.map (rnV b H ks 6)⟩:=rfl
end
theorem z4m (i:Nat) (ks:List Nat):D1 i ks []=[]:=rfl
theorem Hk (i:Nat) (ks:List Nat) (G:Grp) (l:List Grp):D1 i ks (G::l)=(if i∈ks then G.dead else G)::D1 (i+1) ks l:=rfl
theorem znu (w:Nat):Iu w=⟨w,1,true,[]⟩:=rfl
theorem znv (w:Nat) (xs:List AV):frzL w xs=bif Ak xs then .lst w xs else .any:=rfl
theorem znw (x:AV):frzP x=bif x.pure then .cptr x else .any:=rfl
theorem Pt (xs ys:List AV):Ak (xs++ys)=(Ak xs&&Ak ys):=by
 induction xs with
 | nil=>rfl
 | cons x xs ih=>simp[Ak,ih,Bool.and_assoc]
theorem z82 (i:Nat):((i:Int)-1).toNat=i-1:=by omega
theorem z83 (i:Nat):((i:Int)+1).toNat=i+1:=by omega
theorem zbt (i k:Nat):((i:Int)+(k:Int)).toNat=i+k:=by omega
theorem drop_at {α:Type} [Inhabited α] {l:List α} {i:Nat} (h:i<l.length):l.drop i=nth l i::l.drop (i+1):=by
 rw[List.drop_eq_getElem_cons h];simp[nth,List.getD,h]
theorem take_at {α:Type} [Inhabited α] {l:List α} {i:Nat} (h:i<l.length):l.take (i+1)=l.take i++[nth l i]:=by
 rw[List.take_succ_eq_append_getElem h];simp[nth,List.getD,h]
theorem Vg {α:Type} [Inhabited α] (x:α) (l:List α):nth (x::l) 0=x:=rfl
theorem Ln {α:Type} [Inhabited α] (x:α) (l:List α) (i:Nat):nth (x::l) (i+1)=nth l i:=rfl
theorem Au {α:Type} [Inhabited α] {l:List α} {i:Nat} (h:i<l.length):nth l i∈l:=by
 have:nth l i=l[i]:=by simp[nth,List.getD,h]
 rw[this];exact List.getElem_mem h
theorem Fe {α:Type} [Inhabited α] {l:List α} {i:Nat} (h:i<l.length):nth l i=l[i]:=by simp[nth,List.getD,h]
theorem znx (g k:Nat) (ks:List Nat):(g∈k::ks)=(g=k∨g∈ks):=by simp
theorem z0w (g:Nat):(g∈([]:List Nat))=False:=by simp
theorem zny (H:Ac) (ks:List Nat) (g:Nat):(H.only ks).at_ g=if g∈ks then H.at_ g else (H.at_ g).dead:=rfl
def Bz:List AV→List Nat
 | []=>[]
 | .ref g _ _ _::l=>g::Bz l
 | .ptr g _ _ _::l=>g::Bz l
 | .agg cs::l=>Bz cs++Bz l
 | .fn _ cs::l=>Bz cs++Bz l
 | _::l=>Bz l
theorem C8 {w:Nat} {xs l:List AV}:Bz (.lst w xs::l)=Bz l:=by rw[Bz]<;>(intros;simp_all)
theorem zbu {x:AV} {l:List AV}:Bz (.cptr x::l)=Bz l:=by rw[Bz]<;>(intros;simp_all)
theorem zhd {k:IntKind} {n:Int} {l:List AV}:Bz (.int k n::l)=Bz l:=by rw[Bz]<;>(intros;simp_all)
theorem zbv {b:Bool} {l:List AV}:Bz (.bool b::l)=Bz l:=by rw[Bz]<;>(intros;simp_all)
theorem zbw {l:List AV}:Bz (.nilS::l)=Bz l:=by rw[Bz]<;>(intros;simp_all)
theorem zhe {g v o n:Nat} {l:List AV}:Bz (.ref g v o n::l)=g::Bz l:=by rw[Bz]
theorem zhf {g v o n:Nat} {l:List AV}:Bz (.ptr g v o n::l)=g::Bz l:=by rw[Bz]
theorem zhg {cs l:List AV}:Bz (.agg cs::l)=Bz cs++Bz l:=by rw[Bz]
theorem znz {f:Nat} {cs l:List AV}:Bz (.fn f cs::l)=Bz cs++Bz l:=by rw[Bz]
theorem zhh:Bz []=[]:=by rw[Bz]
attribute [push_cast] C8 zbu zhd zbv zbw zhe zhf zhg znz zhh
def okA (d:Nat) (H:Ac):List AV→Prop
 | []=>True
 | x::l=>Cp d H x∧okA d H l
section
variable {P:Program} {f:Nat} {xs ys:List AV} {y:AV} {l:List Grp} {H:Ac}
theorem Pu {d:Nat}:∀ {xs:List AV},okA d H xs→∀ x∈xs,Cp d H x
 | [],_,x,hx=>by simp at hx
 | z::r,h,x,hx=>by
   rcases List.mem_cons.1 hx with rfl|hx
   · exact h.1
   · exact Pu h.2 x hx
theorem zo0 {d:Nat}:okA d H []=True:=rfl
theorem zhi {d:Nat} {x:AV}:okA d H (x::xs)=(Cp d H x∧okA d H xs):=rfl
theorem Ku (h:PC P f ys y) (hl:leL xs ys):PC P f xs y:=Hh hl h
def chB (c:Bool) (p q:Prop):Prop:=match c with
 | true=>p
 | false=>q
theorem zhj {p q:Prop}:chB true p q=p:=rfl
theorem zbx {p q:Prop}:chB false p q=q:=rfl
def frA (d:Nat) (H:Ac) (xs:List AV):List AV:=xs.map (frzV d H)
theorem zo1 {d:Nat}:frA d H []=[]:=rfl
theorem zhk {d:Nat} {x:AV}:frA d H (x::xs)=frzV d H x::frA d H xs:=rfl
theorem cK {K:AV→Ac→Prop} (h:PC P f ys y) (hh:chB (Ak xs) (leSL [] xs ys∧Ak ys=true∧@nx y (hl l) ⟨K⟩)
   (chB y.flat (okA 4 (hl l) xs∧leSL [] (frA 4 (hl l) xs) ys∧@nx y (hl l) ⟨K⟩)
     (okA 4 ((hl l).only (Bz xs)) xs∧leSL [] (frA 4 ((hl l).only (Bz xs)) xs) ys∧Ak ys=true∧@nx y (hl (D1 0 (Bz xs) l)) ⟨K⟩))):@Vd P f xs (hl l) ⟨K⟩:=by
 cases hp:Ak xs<;>rw[hp] at hh
 · cases hy:y.flat<;>rw[hy] at hh
   · obtain⟨h1,h2,h3,h4⟩:=hh
     exact S6 4 (Bz xs) (Pu h1) (Hh (Kt h2) (Ia h h3 h4))
   · obtain⟨h1,h2,h3⟩:=hh
     exact zak (Ku h (Kt h2)) 4 (Pu h1) rfl hy h3
 · obtain⟨h1,h2,h3⟩:=hh
   exact Hh (Kt h1) (Ia h h2 h3)
theorem eK {K:AV→Ac→Prop} (h:PC P f xs y) (hh:Ak xs=true∧@nx y H ⟨K⟩):@Vd P f xs H ⟨K⟩:=Ia h hh.1 hh.2
theorem eQ {K:AV→Prop} (h:PC P f xs y) (hh:Ak xs=true∧@nq y ⟨K⟩):@zgf P f xs H ⟨K⟩:=⟨y,Ia h hh.1 ⟨rfl,rfl⟩,hh.2⟩
theorem cQ {K:AV→Prop} (h:PC P f ys y) (hh:chB (Ak xs) (leSL [] xs ys∧Ak ys=true∧@nq y ⟨K⟩)
   (y.flat=true∧okA 4 (hl l) xs∧leSL [] (frA 4 (hl l) xs) ys∧@nq y ⟨K⟩)):@zgf P f xs (hl l) ⟨K⟩:=by
 cases hp:Ak xs<;>rw[hp] at hh
 · obtain⟨hy,h1,h2,h3⟩:=hh
   exact⟨y,zak (Ku h (Kt h2)) 4 (Pu h1) rfl hy ⟨rfl,rfl⟩,h3⟩
 · obtain⟨h1,h2,h3⟩:=hh
   exact⟨y,Hh (Kt h1) (Ia h h2 ⟨rfl,rfl⟩),h3⟩
end
attribute [push_cast] zo0 zhi zo1 zhk zhj zbx AV.flat zah
section
variable {d:Nat} {H:Ac}
def okL (d:Nat) (H:Ac) (xs:List AV):Prop:=∀ y∈xs,Cp d H y
def frL (d:Nat) (H:Ac) (xs:List AV):List AV:=xs.map (frzV d H)
def okM (d:Nat) (H:Ac) (xs:List AV):Prop:=okL d H xs
def frM (d:Nat) (H:Ac) (xs:List AV):List AV:=frL d H xs
def ifB (b:Bool) (p:Prop):Prop:=b=true∨p
theorem zhl (p:Prop):ifB true p=True:=by simp[ifB]
theorem zby (p:Prop):ifB false p=p:=by simp[ifB]
theorem zs7 (xs:List AV):okL d H xs=ifB (Ak xs) (okM d H xs):=propext ⟨fun h=>.inr h,fun h=>h.elim (fun h=>(Gs H d h).1) id⟩
theorem zs8 (xs:List AV):frL d H xs=bif Ak xs then xs else frM d H xs:=by
 cases h:Ak xs
 · rfl
 · exact (Gs H d h).2
theorem zo2:okM d H []=True:=by simp[okM,okL]
theorem zhm (x:AV) (xs:List AV):okM d H (x::xs)=(Cp d H x∧okM d H xs):=by simp[okM,okL]
theorem zo3:frM d H []=[]:=rfl
theorem zhn (x:AV) (xs:List AV):frM d H (x::xs)=frzV d H x::frM d H xs:=rfl
theorem zs9 (g v off len:Nat):Cp (d+1) H (.ref g v off len)=((H.at_ g).ver=v∧0<(H.at_ g).w∧off+len≤(H.at_ g).xs.length∧okL d H (((H.at_ g).xs.drop off).take len)):=rfl
theorem zsa (g v i o:Nat):Cp (d+1) H (.ptr g v i o)=((H.at_ g).ver=v∧i<(H.at_ g).xs.length∧0<(H.at_ g).w∧o=0∧Cp d H ((H.at_ g).xs.getD i .any)):=rfl
theorem zsb (cs:List AV):Cp (d+1) H (.agg cs)=okL d H cs:=rfl
theorem zsc (cs:List AV):Cp (d+1) H (.tup cs)=okL d H cs:=rfl
theorem ok_fn (f:Nat) (cs:List AV):Cp (d+1) H (.fn f cs)=okL d H cs:=rfl
theorem zsd:Cp (d+1) H .any=True:=eq_true rfl
theorem zo4 (b:Bool):Cp (d+1) H (.bool b)=True:=eq_true rfl
theorem ok_int (k:IntKind) (n:Int):Cp (d+1) H (.int k n)=True:=eq_true rfl
theorem zse (s:List UInt8):Cp (d+1) H (.str s)=True:=eq_true rfl
theorem zo5:Cp (d+1) H .nilS=True:=eq_true rfl
theorem zsf:Cp (d+1) H .nul=True:=eq_true rfl
theorem zsg:Cp (d+1) H .emp=True:=eq_true rfl
theorem zo6:Cp (d+1) H .nilP=True:=eq_true rfl
theorem zo7:Cp (d+1) H .nilF=True:=eq_true rfl
theorem zsh (l:Nat):Cp (d+1) H (.yld l)=True:=eq_true rfl
theorem zo8 (w:Nat) (xs:List AV):Cp (d+1) H (.full w xs)=(Ak xs=true):=rfl
theorem zo9 (w:Nat) (xs:List AV):frzV (d+1) H (.full w xs)=.full w xs:=rfl
theorem zsi (w:Nat) (xs:List AV):Cp (d+1) H (.lst w xs)=(Ak xs=true):=rfl
theorem zoa (x:AV):Cp (d+1) H (.cptr x)=(x.pure=true):=rfl
theorem zsj (g v off len:Nat):frzV (d+1) H (.ref g v off len)=.lst (H.at_ g).w (frL d H (((H.at_ g).xs.drop off).take len)):=rfl
theorem zsk (g v i o:Nat):frzV (d+1) H (.ptr g v i o)=if o=0 then .cptr (frzV d H ((H.at_ g).xs.getD i .any)) else .any:=rfl
theorem zsl (cs:List AV):frzV (d+1) H (.agg cs)=.agg (frL d H cs):=rfl
theorem zsm (cs:List AV):frzV (d+1) H (.tup cs)=.tup (frL d H cs):=rfl
theorem fr_fn (f:Nat) (cs:List AV):frzV (d+1) H (.fn f cs)=.fn f (frL d H cs):=rfl
theorem zsn:frzV (d+1) H .any=.any:=rfl
theorem zob (b:Bool):frzV (d+1) H (.bool b)=.bool b:=rfl
theorem zso (k:IntKind) (n:Int):frzV (d+1) H (.int k n)=.int k n:=rfl
theorem zsp (s:List UInt8):frzV (d+1) H (.str s)=.str s:=rfl
theorem zoc:frzV (d+1) H .nilS=.nilS:=rfl
theorem zsq:frzV (d+1) H .nul=.nul:=rfl
theorem zsr:frzV (d+1) H .emp=.emp:=rfl
theorem zod:frzV (d+1) H .nilP=.nilP:=rfl
theorem zoe:frzV (d+1) H .nilF=.nilF:=rfl
theorem zss (l:Nat):frzV (d+1) H (.yld l)=.yld l:=rfl
theorem zst (w:Nat) (xs:List AV):frzV (d+1) H (.lst w xs)=.lst w xs:=rfl
theorem zof (x:AV):frzV (d+1) H (.cptr x)=.cptr x:=rfl
end
attribute [push_cast] zhl zby zs7 zs8 zo2 zhm zo3 zhn zs9 zsa zsb zsc ok_fn zsd zo4 ok_int zse zo5 zsf zsg zo6 zo7 zsh zss zsi zo8 zo9 zoa zsj zsk zsl zsm fr_fn zsn zob zso zsp zoc zsq zsr zod zoe zst zof List.take_length
section
variable {P:Program} {l:List Grp} {xs cs:List AV} {K:AV→List Grp→Prop} {z:AV} {w len n:Nat}
theorem Cq {k:AK} (h:k.still=true):@opG P k l xs ⟨K⟩=(Bi (·<l.length) xs∧@opK P k (hl l) xs ⟨fun x _=>K x l⟩):=by
 rw[z4g];have hn:¬k.still=false:=by rw[h];simp
 cases k<;>first|(exact propext ⟨fun hh=>hh.elim (fun hh=>⟨hh.2.1,hh.2.2⟩) (fun hh=>absurd hh.1 hn),fun hh=>.inl ⟨h,hh.1,hh.2⟩⟩)|(simp[AK.still] at h)
theorem z84 {k:AK} (h:k.still=false) (he:k.eff.isSome=true):@opG P k l xs ⟨K⟩=(k.appOk=true∧Uy k xs∧@opK P k (hl l) xs ⟨fun x H'=>∀ l',H'=hl l'→K x l'⟩):=by
 rw[z4g];have hn:¬k.still=true:=by rw[h];simp
 cases k<;>first|(exact propext ⟨fun hh=>hh.elim (fun hh=>absurd hh.1 hn) (fun hh=>⟨hh.2.2.1,hh.2.2.2⟩),fun hh=>.inr ⟨h,he,hh.1,hh.2⟩⟩)|(simp[AK.eff] at he)
theorem G_mv  : @opG P .mv l xs ⟨K⟩=(Bi (·<l.length) xs∧@opK P .mv (hl l) xs ⟨fun x _=>K x l⟩):=Cq rfl
theorem zsu  : @opG P .pick l xs ⟨K⟩=(Bi (·<l.length) xs∧@opK P .pick (hl l) xs ⟨fun x _=>K x l⟩):=Cq rfl
theorem zog {zs:List AV} {pl:List (Nat × Nat)} {idx:List Nat}:@opG P (.build zs pl idx) l xs ⟨K⟩=(Bi (·<l.length) xs∧@opK P (.build zs pl idx) (hl l) xs ⟨fun x _=>K x l⟩):=Cq rfl
theorem zsv {a:Bool} {s:Nat}:@opG P (.load a s) l xs ⟨K⟩=(Bi (·<l.length) xs∧@opK P (.load a s) (hl l) xs ⟨fun x _=>K x l⟩):=Cq rfl
theorem z85  : @opG P .nilCheck l xs ⟨K⟩=(Bi (·<l.length) xs∧@opK P .nilCheck (hl l) xs ⟨fun x _=>K x l⟩):=Cq rfl
theorem G_bin {op:BinOp}:@opG P (.bin op) l xs ⟨K⟩=(Bi (·<l.length) xs∧@opK P (.bin op) (hl l) xs ⟨fun x _=>K x l⟩):=Cq rfl
theorem G_eqb {n:Bool}:@opG P (.eqb n) l xs ⟨K⟩=(Bi (·<l.length) xs∧@opK P (.eqb n) (hl l) xs ⟨fun x _=>K x l⟩):=Cq rfl
theorem G_eqs {n:Bool} {ks:List Nat}:@opG P (.eqs n ks) l xs ⟨K⟩=(Bi (·<l.length) xs∧@opK P (.eqs n ks) (hl l) xs ⟨fun x _=>K x l⟩):=Cq rfl
theorem G_eqn {n:Bool}:@opG P (.eqn n) l xs ⟨K⟩=(Bi (·<l.length) xs∧@opK P (.eqn n) (hl l) xs ⟨fun x _=>K x l⟩):=Cq rfl
theorem G_un {op:UnOp}:@opG P (.un op) l xs ⟨K⟩=(Bi (·<l.length) xs∧@opK P (.un op) (hl l) xs ⟨fun x _=>K x l⟩):=Cq rfl
theorem zsw {k:IntKind}:@opG P (.conv k) l xs ⟨K⟩=(Bi (·<l.length) xs∧@opK P (.conv k) (hl l) xs ⟨fun x _=>K x l⟩):=Cq rfl
theorem zoh {w:Nat} {lo hi mx:Bool}:@opG P (.slice w lo hi mx) l xs ⟨K⟩=(Bi (·<l.length) xs∧@opK P (.slice w lo hi mx) (hl l) xs ⟨fun x _=>K x l⟩):=Cq rfl
theorem zoi {a:Bool} {o s:Nat}:@opG P (.faddr a o s) l xs ⟨K⟩=(Bi (·<l.length) xs∧@opK P (.faddr a o s) (hl l) xs ⟨fun x _=>K x l⟩):=Cq rfl
theorem zoj {a:Bool} {o s:Nat}:@opG P (.field a o s) l xs ⟨K⟩=(Bi (·<l.length) xs∧@opK P (.field a o s) (hl l) xs ⟨fun x _=>K x l⟩):=Cq rfl
theorem zok {w:Nat}:@opG P (.iaddr w) l xs ⟨K⟩=(Bi (·<l.length) xs∧@opK P (.iaddr w) (hl l) xs ⟨fun x _=>K x l⟩):=Cq rfl
theorem zho {n w:Nat} {a:Bool}:@opG P (.iaddrA n w a) l xs ⟨K⟩=(Bi (·<l.length) xs∧@opK P (.iaddrA n w a) (hl l) xs ⟨fun x _=>K x l⟩):=Cq rfl
theorem zol {n w:Nat} {a:Bool}:@opG P (.index n w a) l xs ⟨K⟩=(Bi (·<l.length) xs∧@opK P (.index n w a) (hl l) xs ⟨fun x _=>K x l⟩):=Cq rfl
theorem z86  : @opG P .indexStr l xs ⟨K⟩=(Bi (·<l.length) xs∧@opK P .indexStr (hl l) xs ⟨fun x _=>K x l⟩):=Cq rfl
theorem zbz {i:Nat}:@opG P (.extract i) l xs ⟨K⟩=(Bi (·<l.length) xs∧@opK P (.extract i) (hl l) xs ⟨fun x _=>K x l⟩):=Cq rfl
theorem G_len {b:Bool}:@opG P (.len b) l xs ⟨K⟩=(Bi (·<l.length) xs∧@opK P (.len b) (hl l) xs ⟨fun x _=>K x l⟩):=Cq rfl
theorem G_max  : @opG P .max l xs ⟨K⟩=(Bi (·<l.length) xs∧@opK P .max (hl l) xs ⟨fun x _=>K x l⟩):=Cq rfl
theorem G_min  : @opG P .min l xs ⟨K⟩=(Bi (·<l.length) xs∧@opK P .min (hl l) xs ⟨fun x _=>K x l⟩):=Cq rfl
theorem zhp:@opG P (.mapGet z) l xs ⟨K⟩=(Bi (·<l.length) xs∧@opK P (.mapGet z) (hl l) xs ⟨fun x _=>K x l⟩):=Cq rfl
theorem zhq {f:Nat}:@opG P (.mkFunc f) l xs ⟨K⟩=(Bi (·<l.length) xs∧@opK P (.mkFunc f) (hl l) xs ⟨fun x _=>K x l⟩):=Cq rfl
theorem zom  : @opG P .toStr l xs ⟨K⟩=(Bi (·<l.length) xs∧@opK P .toStr (hl l) xs ⟨fun x _=>K x l⟩):=Cq rfl
theorem zhr  : @opG P .runStr l xs ⟨K⟩=(Bi (·<l.length) xs∧@opK P .runStr (hl l) xs ⟨fun x _=>K x l⟩):=Cq rfl
theorem zon  : @opG P (.alloc z w) l xs ⟨K⟩=@opK P (.alloc z w) (hl l) xs ⟨fun x H'=>∀ l',H'=hl l'→K x l'⟩:=(z84 rfl rfl).trans (by simp only[AK.appOk,Uy,true_and])
theorem G_box  : @opG P .box l xs ⟨K⟩=@opK P .box (hl l) xs ⟨fun x H'=>∀ l',H'=hl l'→K x l'⟩:=(z84 rfl rfl).trans (by simp only[AK.appOk,Uy,true_and])
theorem zoo  : @opG P (.store w) l xs ⟨K⟩=@opK P (.store w) (hl l) xs ⟨fun x H'=>∀ l',H'=hl l'→K x l'⟩:=(z84 rfl rfl).trans (by simp only[AK.appOk,Uy,true_and])
theorem zc0  : @opG P (.mkSlice w n z) l xs ⟨K⟩=@opK P (.mkSlice w n z) (hl l) xs ⟨fun x H'=>∀ l',H'=hl l'→K x l'⟩:=(z84 rfl rfl).trans (by simp only[AK.appOk,Uy,true_and])
theorem G_app:@opG P (.app w n z) l xs ⟨K⟩=(0<w∧offA xs∧@opK P (.app w n z) (hl l) xs ⟨fun x H'=>∀ l',H'=hl l'→K x l'⟩):=(z84 rfl rfl).trans (by simp only[AK.appOk,Uy,decide_eq_true_eq])
theorem zhs {g v o n:Nat}:offA (.ref g v o n::xs)=(o=0):=rfl
theorem zc1:offA (.nilS::xs)=True:=rfl
theorem zht:offA (.nul::xs)=True:=rfl
theorem zhu:offA (.emp::xs)=True:=rfl
theorem zc2 {w:Nat} {ys:List AV}:offA (.full w ys::xs)=True:=rfl
theorem zhv {w:Nat} {ys:List AV}:offA (.lst w ys::xs)=True:=rfl
theorem zsx {f:Nat}:@opG P .call l (.fn f cs::xs) ⟨K⟩=@zgg P f (xs++cs) l ⟨K⟩:=(rfl)
theorem G_bsl {idx:List Nat}:@opG P (.bslice w len z idx) l xs ⟨K⟩=(Hf w len idx xs∧0<w∧Ak (D7 idx xs (List.replicate len z))=true∧@nx (.full w (D7 idx xs (List.replicate len z))) (hl l) ⟨fun x _=>K x l⟩):=(rfl)
theorem hl_eq {l l':List Grp}:(hl l=hl l')=(l=l'):=propext ⟨zkw,fun h=>h ▸ rfl⟩
theorem eG {f:Nat} {y:AV} (h:PC P f xs y) (hh:Ak xs=true∧@nx y (hl l) ⟨fun y _=>K y l⟩):@zgg P f xs l ⟨K⟩:=⟨y,fun H=>Ia h hh.1 ⟨rfl,rfl⟩,hh.2⟩
theorem cG {f:Nat} {ys:List AV} {y:AV} (h:PC P f ys y) (hh:leSL [] xs ys∧Ak ys=true∧@nx y (hl l) ⟨fun y _=>K y l⟩):@zgg P f xs l ⟨K⟩:=⟨y,fun H=>Hh (Kt hh.1) (Ia h hh.2.1 ⟨rfl,rfl⟩),hh.2.2⟩
end
theorem A7 {P:Program} {f m np:Nat} {xs:List AV} {y:AV} {res:List ARes} {B:AC} (hf:Ar P f xs.length=some ⟨m,np,res,B⟩) (h:W P m 0 B (entry xs) (hl []) (Ret P res fun z H=>Cp 4 H z∧ansW (frzV 4 H z) y)):PC P f xs y:=by
 refine zr4 hf 4 ?_;rw[z4k];exact T.mono (W_T h) fun x env H hh=>z4h (fun z H hh=>⟨hh.1,zkx hh.2⟩) hh
theorem zc3 {P:Program} {f w:Nat} {y:AV} (h1:PC P f [.nilS] y) (h2:PC P f [.emp] y):PC P f [.lst w []] y:=by
 refine⟨h1.1,fun S cargs hS hx=>?_⟩;obtain⟨v,r,rfl,⟨_,_,a,cap,vs,rfl,⟨_,hn⟩,_,_⟩,hr⟩:=hx;cases a with
 | none=>exact h1.2 S _ hS ⟨_,r,rfl,by rw[hn rfl];rfl,hr⟩
 | some a=>exact h2.2 S _ hS ⟨_,r,rfl,⟨a,cap,rfl⟩,hr⟩
section
variable {P:Program} {H:Ac} {K:AV→Ac→Prop} {n:Bool} {b d:Nat} {ks:List Nat}
theorem zc4:@opK P (.eqn n) H [.emp,.nilS] ⟨K⟩=@nx (.bool n) H ⟨K⟩:=(rfl)
theorem zc5:@opK P (.len false) H [.emp] ⟨K⟩=@nx (.int .i64 0) H ⟨K⟩:=(rfl)
theorem zsy:rnV b H ks (d+1) .emp=.emp:=rfl
end
theorem Ax {P:Program} {n b:Nat} {c:AC} {env:Env} {H:Ac} {Q:Ex→Env→Ac→Prop} (h:T P n b (.loop c) env H Q):@J6 ⟨T P n b (.loop c) env H Q⟩:=h
attribute [push_cast] zc4 zc5 zsy z4k hl_n Cy D8 znb zbk zbl Xy znc zh7 zrj znd zh8 zrk zrl zrm zrn rn_fn zro znf zrp zrq zng zrr znh zni zrs zrt znj
attribute [push_cast] zru znk g_le zhb zbn zhc zbo zbp z7y zbq zbr z80 zbs z7z z0v z81 zs1 zs2 znq zs3 znr zn9 head1 head2 head3 zs4 zns zs5 znt zs6 z4m Hk znu znv znw Pt zny Bz List.cons_append List.nil_append
attribute [push_cast] zhs zc1 zht zhu zc2 zhv G_mv zsu zog zsv z85 G_bin G_eqb G_eqs G_eqn G_un zsw zoh zoi zoj zok zho zol z86 zbz G_len G_max G_min zhq zom zhr zon G_box zoo zc0 G_app zsx G_bsl hl_eq Bi forall_eq' forall_eq
attribute [push_cast] List.isEmpty_nil List.isEmpty_cons List.map_eq_nil_iff Option.isSome_some Option.isSome_none
attribute [push_cast] List.map_append List.length_append Option.map_some Option.map_none znx z0w Int.add_sub_cancel Int.sub_add_cancel z82 z83 zbt Nat.not_lt_zero Nat.zero_le
open IntWalk in
attribute [push_cast] i64_in i32_in u8_in u32_in u64_in zbe
theorem zz:type_of% (And.intro @z1 <| And.intro @z2 <| And.intro @z3 <| And.intro @z4 <| And.intro @z5 <| And.intro @z6 <| And.intro @z7 <| And.intro @z8 <| And.intro @z9 <| And.intro @z10 <| And.intro @z11 <| And.intro @z12 <| And.intro @z13 <| And.intro @z14 <| And.intro @z15 <| And.intro @z16 <| And.intro @z17 <| And.intro @z18 <| And.intro @z19 <| And.intro @z20 <| And.intro @z21 <| And.intro @z22 <| And.intro @z23 <| And.intro @z24 <| And.intro @z25 <| And.intro @z26 <| And.intro @z27 <| And.intro @z28 <| And.intro @z29 <| And.intro @z30 <| And.intro @z31 <| And.intro @z32 <| @z33):=And.intro @z1 <| And.intro @z2 <| And.intro @z3 <| And.intro @z4 <| And.intro @z5 <| And.intro @z6 <| And.intro @z7 <| And.intro @z8 <| And.intro @z9 <| And.intro @z10 <| And.intro @z11 <| And.intro @z12 <| And.intro @z13 <| And.intro @z14 <| And.intro @z15 <| And.intro @z16 <| And.intro @z17 <| And.intro @z18 <| And.intro @z19 <| And.intro @z20 <| And.intro @z21 <| And.intro @z22 <| And.intro @z23 <| And.intro @z24 <| And.intro @z25 <| And.intro @z26 <| And.intro @z27 <| And.intro @z28 <| And.intro @z29 <| And.intro @z30 <| And.intro @z31 <| And.intro @z32 <| @z33
open Go.RowKit
inductive Sh where
 | bool
 | int (k:IntKind)
 | str
 | sl (agg:Bool) (fs:List Sh)
mutual
def Is:Sh→AV→Prop
 | .bool,x=>∃ b,x=.bool b
 | .int k,x=>∃ n,x=.int k n∧(Lit.int k n).wf=true
 | .str,x=>∃ s:List UInt8,x=.str s∧s.length≤maxLen
 | .sl agg fs,x=>x=.nilS∨∃ xs,x=.lst fs.length xs∧xs.length≤maxLen∧∀ y∈xs,∃ cs,y=(if agg then .agg cs else cs.headD .any)∧IsL fs cs
def IsL:List Sh→List AV→Prop
 | [],cs=>cs=[]
 | s::fs,cs=>∃ c r,cs=c::r∧Is s c∧IsL fs r
end
theorem zc6:∀ {fs:List Sh} {cs:List AV},IsL fs cs→cs.length=fs.length
 | [],_,h=>by rw[show _=[] from h];rfl
 | _::_,_,⟨_,_,h,_,k⟩=>by rw[h];simp[zc6 k]
mutual
def Sb (P:Program):Sh→TypeId→Bool
 | .bool,t=>match P.underlying t with|some .bool=>true|_=>false
 | .int k,t=>match P.underlying t with|some (.int k')=>k' == k|_=>false
 | .str,t=>match P.underlying t with|some .string=>true|_=>false
 | .sl agg fs,t=>match P.underlying t with
   | some (.slice e)=>P.cellsOf e == fs.length&&!fs.isEmpty&&(match agg,P.underlying e with
     | true,some (.struct fl)=>Sc P fs 0 fl.toList
     | true,some (.array n u)=>fs.length == n&&P.cellsOf u == 1&&zc7 P fs u
     | false,_=>fs.length == 1&&zc7 P fs e
     | _,_=>false)
   | _=>false
def Sc (P:Program):List Sh→Nat→List Field→Bool
 | [],_,[]=>true
 | s::ss,i,f::fl=>f.offset == i&&P.cellsOf f.type == 1&&Sb P s f.type&&Sc P ss (i+1) fl
 | _,_,_=>false
def zc7 (P:Program):List Sh→TypeId→Bool
 | [],_=>true
 | s::ss,u=>Sb P s u&&zc7 P ss u
end
section
variable {H:Type} {enc:TypeId × Value→H} {P:Program} {w:World} {base:Nat} {spare:Nat→Bool} {held:Bool}
def Got (w:World) (s:Sh) (v:Value):Prop:=∃ x,Is s x∧VRel (MS.start w) x v∧x.pure=true∧x.one=true
def GotL (w:World) (fs:List Sh) (vs:List Value):Prop:=∃ xs,IsL fs xs∧Ad (MS.start w) xs vs∧Ak xs=true∧Et xs=true
theorem z4n:GotL w [] []:=⟨[],rfl,rfl,rfl,rfl⟩
theorem X4 {s:Sh} {fs:List Sh} {v:Value} {vs:List Value} (h:Got w s v) (k:GotL w fs vs):GotL w (s::fs) (v::vs):=by
 obtain⟨x,h1,h2,h3,h4⟩:=h;obtain⟨xs,k1,k2,k3,k4⟩:=k;exact⟨x::xs,⟨x,xs,rfl,h1,k1⟩,⟨v,vs,rfl,h2,k2⟩,by simp[Ak,h3,k3],by simp[Et,h4,k4]⟩
theorem z0x {a:Addr} {v:Value} (h:w.cell? a=some v):(MS.start w).im a.block:=z7k h
theorem zop {agg:Bool} {fs:List Sh} {a:Addr} {len cap sz:Nat} (hsz:sz=fs.length) (hpos:0<fs.length) (hagg:agg=false→fs.length=1) (hlc:len≤cap) (hcap:cap≤maxLen)
   (h:∀ i,i<len→∃ cs',w.cells? base (a.add (i * sz)) sz=some cs'∧GotL w fs cs'):Got w (.sl agg fs) (.slice (some a) len cap):=by
 subst hsz
 have h':∀ i:Nat,∃ p:List AV × List Value,i<len→(w.cells? base (a.add (i * fs.length)) fs.length=some p.2∧IsL fs p.1∧Ad (MS.start w) p.1 p.2∧Ak p.1=true∧Et p.1=true):=by
   intro i;by_cases hi:i<len
   · obtain⟨cs',h1,xs,h2,h3,h4,h5⟩:=h i hi
     exact⟨(xs,cs'),fun _=>⟨h1,h2,h3,h4,h5⟩⟩
   · exact⟨([],[]),fun h=>absurd h hi⟩
 obtain⟨p,hp⟩:=Classical.axiomOfChoice h'
 let E:List AV→AV:=fun cs=>if agg then .agg cs else cs.headD .any
 let V:List Value→Value:=fun cs=>if agg then .agg cs.toArray else cs.headD undef
 let xs:List AV:=(List.range len).map fun i=>E (p i).1
 let vs:List Value:=(List.range len).map fun i=>V (p i).2
 have hone:∀ i,i<len→(V (p i).2).cells.toList=(p i).2∧VRel (MS.start w) (E (p i).1) (V (p i).2)∧(E (p i).1).pure=true:=by
   intro i hi;obtain⟨q1,q2,q3,q4,q5⟩:=hp i hi;have hl1:(p i).1.length=fs.length:=zc6 q2;cases agg with
   | true=>exact⟨by simp[V,Value.cells],⟨_,rfl,q3⟩,by simp[E,AV.pure,q4]⟩
   | false =>
     have h1:=hagg rfl;rw[h1] at hl1
     match hc:(p i).1,(p i).2,q3,q4,q5,hl1 with
     | [c],[v],⟨v',r,hv,hr,hr2⟩,q4,q5,_ =>
       cases hv;have hno:c.one=true:=by simpa [Et] using q5
       have hcc:c.cells=[c]:=by cases c<;>first|rfl|(simp[AV.one] at hno)
       have hca:c.isAny=false:=by cases c<;>first|rfl|(simp[AV.one] at hno)
       have hcl:=VRel.cells hca hr;rw[hcc] at hcl;obtain⟨u,r2,hu,hu2,hu3⟩:=hcl;rw[show r2=[] from hu3] at hu
       have hv1:v.cells.toList=[v]:=by
         have:=one_cell hr hno;cases v<;>first|rfl|(simp[Value.oneCell'] at this)
       exact⟨by simpa [V] using hv1,by simpa [E,V] using hr,by simpa [E,Ak] using q4⟩
 have hxl:xs.length=len:=by simp[xs]
 have hvl:vs.length=len:=by simp[vs]
 have hxi:∀ i,i<len→xs[i]? = some (E (p i).1):=fun i hi=>by simp[xs,hi]
 have hvi:∀ i,i<len→vs[i]? = some (V (p i).2):=fun i hi=>by simp[vs,hi]
 have hvs:Ad (MS.start w) xs vs:=Ad.of_get (by rw[hxl,hvl]) fun i x v hx hv=>by
   have hi:i<len:=by rw[←hxl];exact (List.getElem?_eq_some_iff.1 hx).1
   rw[hxi i hi] at hx;rw[hvi i hi] at hv;cases hx;cases hv;exact (hone i hi).2.1
 have hpu:Ak xs=true:=Bn.2 fun x hx=>by
   obtain⟨i,hi,rfl⟩:=List.mem_map.1 hx;exact (hone i (List.mem_range.1 hi)).2.2
 refine⟨.lst fs.length xs,.inr ⟨xs,rfl,by rw[hxl];omega,fun y hy=>?_⟩,⟨hpu,hpos,some a,cap,vs,by rw[hxl],⟨by rw[hxl];exact hlc,fun hn=>by cases hn⟩,hvs,fun hne=>?_⟩,by simpa [AV.pure] using hpu,rfl⟩
 · obtain⟨i,hi,rfl⟩:=List.mem_map.1 hy
   exact⟨_,rfl,(hp i (List.mem_range.1 hi)).2.1⟩
 · have h0:0<len:=by rw[←hxl];exact List.length_pos_iff.2 hne
   obtain⟨b,o,spot⟩:=a
   have hcell:∀ i,i<len→∀ j,j<fs.length→w.cell? ((⟨b,o,spot⟩:Addr).add (i * fs.length+j))=(p i).2[j]? := fun i hi j hj=>by
     obtain⟨_,_,hat⟩:=World.cells?_some (hp i hi).1;rw[←hat j hj,←Go.Deep.add_add]
   have hlen2:∀ i,i<len→(p i).2.length=fs.length:=fun i hi=>(World.cells?_some (hp i hi).1).2.1;have hc0:=hcell 0 h0 0 hpos;rw[List.getElem?_eq_getElem (by rw[hlen2 0 h0];exact hpos)] at hc0;have hspot:spot=none:=by simpa [Addr.add] using World.cell?_spot hc0
   subst hspot;have hbk:∀ k:Nat,((⟨b,o,none⟩:Addr).add k).block=b:=fun k=>by unfold Addr.add;split<;>rfl
   refine⟨b,o,rfl,by have:=z0x hc0;rwa [hbk] at this,fun i v hv=>?_⟩;have hi:i<len:=by rw[←hvl];exact (List.getElem?_eq_some_iff.1 hv).1
   rw[hvi i hi] at hv;cases hv;obtain⟨e1,_,_⟩:=hone i hi;have e1':(V (p i).2).cells=(p i).2.toArray:=by simpa using congrArg List.toArray e1
   obtain⟨_,q2,q3,_,q5⟩:=hp i hi;refine⟨by rw[e1'];simp[hlen2 i hi],fun c hc=>?_,fun j hj=>?_⟩
   · rw[e1'] at hc
     exact O6 q3 q5 c (by simpa using hc)
   · rw[e1']
     have:=hcell i hi j hj
     have ea:(⟨b,o,none⟩:Addr).add (i * fs.length+j)=⟨b,o+i * fs.length+j,none⟩:=by
       unfold Addr.add;split
       · rename_i hz
         have:i * fs.length=0∧j=0:=by simpa using hz
         rw[this.1,this.2];rfl
       · simp[Nat.add_assoc]
     rw[ea] at this;refine this.trans ?_;simp
theorem Pv:∀ {fs:List Sh} {i:Nat} {fl:List Field},Sc P fs i fl=true→fl.length=fs.length
 | [],_,[],_=>rfl
 | [],_,_::_,h=>by simp[Sc] at h
 | _::_,_,[],h=>by simp[Sc] at h
 | s::fs,i,f::fl,h=>by
   simp only[Sc,Bool.and_eq_true] at h;simp[Pv h.2]
mutual
theorem zoq:∀ (s:Sh) {t:TypeId} {fuel:Nat} {v:Value} {d:DataW H × List MemPlace},Sb P s t=true→DataW.trod enc P w base spare held fuel t [v]=some d→Got w s v
 | .bool,t,fuel,v,d,hf,h=>by
   cases fuel with
   | zero=>simp[DataW.trod] at h
   | succ n =>
     simp only[Sb] at hf;split at hf
     · rename_i ht
       unfold DataW.trod at h;rw[ht] at h;cases v<;>simp at h;rename_i b;exact⟨.bool b,⟨b,rfl⟩,rfl,rfl,rfl⟩
     · cases hf
 | .int k,t,fuel,v,d,hf,h=>by
   cases fuel with
   | zero=>simp[DataW.trod] at h
   | succ n =>
     simp only[Sb] at hf;split at hf
     · rename_i k' ht
       obtain rfl:k'=k:=by simpa using hf
       unfold DataW.trod at h;rw[ht] at h;cases v<;>simp at h;rename_i k2 m;obtain⟨⟨rfl,hw⟩,_⟩:=h;exact⟨.int k2 m,⟨m,rfl,hw⟩,rfl,rfl,rfl⟩
     · cases hf
 | .str,t,fuel,v,d,hf,h=>by
   cases fuel with
   | zero=>simp[DataW.trod] at h
   | succ n =>
     simp only[Sb] at hf;split at hf
     · rename_i ht
       unfold DataW.trod at h;rw[ht] at h;cases v<;>simp at h;rename_i s;exact⟨.str s.data.toList,⟨_,rfl,by simpa using h.1⟩,rfl,rfl,rfl⟩
     · cases hf
 | .sl agg fs,t,fuel,v,d,hf,h=>by
   simp only[Sb] at hf;split at hf
   · rename_i e ht
     simp only[Bool.and_eq_true,beq_iff_eq,Bool.not_eq_true',List.isEmpty_eq_false_iff] at hf;obtain⟨⟨hsz,hne⟩,hfe⟩:=hf;have hpos:0<fs.length:=List.length_pos_iff.2 hne;rcases Go.Deep.open_slice ht h with⟨hv,_⟩|⟨a,len,cap,m,n,D,Pl,hv,hb,hl,hm,hmm,hx,hi⟩
     · cases hv
       exact⟨.nilS,.inl rfl,rfl,rfl,rfl⟩
     · cases hv
       have hlm:len≤m:=by rw[hmm];split<;>omega
       have hag:agg=false→fs.length=1:=fun ha=>by
         subst ha;simp only[Bool.and_eq_true,beq_iff_eq] at hfe;exact hfe.1
       refine zop (base:=base) hsz hpos hag hl hm fun i hil=>?_;obtain⟨cs',hc,ht'⟩:=hi i (by omega);refine⟨cs',hc,?_⟩;have hcl:=(World.cells?_some hc).2.1;cases agg with
       | true =>
         split at hfe
         · rename_i fl _ he
           obtain⟨ys,n',_,_,_,hlen,hg⟩:=DataW.trod_struct he ht';have hfl:=Pv hfe
           exact zor fs (fl:=fl.toList) (i:=0) (cs:=cs') hfe (by rw[hcl,hsz];omega) fun j f hj=>by
             have:=hg j f (by simpa using hj);have hj2:j<ys.length:=by rw[hlen];have:=(List.getElem?_eq_some_iff.1 hj).1;simpa using this
             rw[List.getElem?_eq_getElem hj2] at this;exact⟨n',_,this,rfl⟩
         · rename_i n2 u _ he
           simp only[Bool.and_eq_true,beq_iff_eq] at hfe;obtain⟨⟨hn,hu⟩,hfa⟩:=hfe;obtain⟨ys,n',_,_,hlen,hyl,hg⟩:=DataW.trod_array he ht';refine zos fs (u:=u) (cs:=cs') (i:=0) hfa (by omega) fun j hj=>?_;have h1:=hg j (by omega);rw[hu,Nat.mul_one] at h1;have h2:ys[j]? = some (ys[j]'(by omega)):=List.getElem?_eq_getElem (by omega);rw[h2] at h1;exact⟨n',_,by rw[Nat.zero_add];exact h1⟩
         · rename_i hh;cases hh
         · cases hfe
       | false =>
         simp only[Bool.and_eq_true,beq_iff_eq] at hfe;refine zos fs (u:=e) (cs:=cs') (i:=0) hfe.2 (by omega) fun j hj=>?_;obtain rfl:j=0:=by omega
         exact⟨n,_,by rw[List.drop_zero,List.take_of_length_le (by omega)];exact ht'⟩
   · cases hf
theorem zor:∀ (fs:List Sh) {fl:List Field} {i:Nat} {cs:List Value},Sc P fs i fl=true→cs.length=i+fs.length →
   (∀ (j:Nat) (f:Field),fl[j]? = some f→∃ n y,DataW.trod enc P w base spare held n f.type ((cs.drop f.offset).take (P.cellsOf f.type))=y∧y.isSome=true)→GotL w fs (cs.drop i)
 | [],fl,i,cs,hf,hl,h=>by
   rw[List.drop_of_length_le (by rw[hl];simp)];exact z4n
 | s::fs,fl,i,cs,hf,hl,h=>by
   cases fl with
   | nil=>simp[Sc] at hf
   | cons f fl =>
     simp only[Sc,Bool.and_eq_true,beq_iff_eq] at hf;obtain⟨⟨⟨ho,hc⟩,hs⟩,hr⟩:=hf;have hi:i<cs.length:=by rw[hl];simp
     rw[List.drop_eq_getElem_cons hi];obtain⟨n,y,h1,h2⟩:=h 0 f rfl;obtain⟨d,rfl⟩:=Option.isSome_iff_exists.1 h2;rw[ho,hc,List.drop_eq_getElem_cons hi,List.take_succ_cons,List.take_zero] at h1;refine X4 (zoq s hs h1) (zor fs hr (by rw[hl];simp;omega) fun j g hj=>h (j+1) g (by simpa using hj))
theorem zos:∀ (fs:List Sh) {u:TypeId} {i:Nat} {cs:List Value},zc7 P fs u=true→cs.length=i+fs.length →
   (∀ j,j<fs.length→∃ n d,DataW.trod enc P w base spare held n u ((cs.drop (i+j)).take 1)=some d)→GotL w fs (cs.drop i)
 | [],u,i,cs,hf,hl,h=>by
   rw[List.drop_of_length_le (by rw[hl];simp)];exact z4n
 | s::fs,u,i,cs,hf,hl,h=>by
   simp only[zc7,Bool.and_eq_true] at hf;have hi:i<cs.length:=by rw[hl];simp
   rw[List.drop_eq_getElem_cons hi];obtain⟨n,d,h1⟩:=h 0 (by simp);rw[Nat.add_zero,List.drop_eq_getElem_cons hi,List.take_succ_cons,List.take_zero] at h1;refine X4 (zoq s hf.1 h1) (zos fs hf.2 (by rw[hl];simp;omega) fun j hj=>?_);have:=h (j+1) (by simp;omega)
   rwa [show i+(j+1)=i+1+j by omega] at this
end
end
open Go.RowKit Go.ChangeShapes Go.WideShapes
inductive PSh where
 | cell (s:Sh)
 | rcd (fs:List Sh)
def IsP:PSh→AV→Prop
 | .cell s,x=>Is s x
 | .rcd fs,x=>∃ cs,x=.agg cs∧IsL fs cs
def IsPs:List PSh→List AV→Prop
 | [],xs=>xs=[]
 | p::ps,xs=>∃ x r,xs=x::r∧IsP p x∧IsPs ps r
def zot (P:Program):PSh→TypeId→Bool
 | .cell s,t=>Sb P s t
 | .rcd fs,t=>match P.underlying t with
   | some (.struct fl)=>P.cellsOf t == fs.length&&Sc P fs 0 fl.toList
   | _=>false
def Ti (P:Program):List PSh→List TypeId→Bool
 | [],[]=>true
 | p::ps,t::ts=>zot P p t&&Ti P ps ts
 | _,_=>false
section
variable {H:Type} {enc:TypeId × Value→H} {P:Program} {w:World} {spare:Nat→Bool} {held:Bool}
theorem z0y {s:Sh} {t:TypeId} {r:Reach} {b0:Nat} {v:Value} (hf:Sb P s t=true) (h:Value.okWide P w r b0 t v):v.cells.toList=[v]:=by
 cases s<;>simp only[Sb] at hf<;>split at hf<;>first|(cases hf;done)|skip
 · obtain⟨b,rfl⟩:=okWide_bool ‹_› h;rfl
 · obtain⟨b,rfl⟩:=okWide_int ‹_› h;rfl
 · obtain⟨b,rfl⟩:=okWide_string ‹_› h;rfl
 · obtain⟨a,l,c,rfl⟩:=okWide_slice ‹_› h;rfl
theorem zou {p:PSh} {t:TypeId} {r:Reach} {b0:Nat} {v:Value} {d:DataW H} {ps:List MemPlace} (hf:zot P p t=true) (hw:Value.okWide P w r b0 t v) (h:DataW.Trod enc P w 0 spare held t v d ps):∃ x,IsP p x∧VRel (MS.start w) x v:=by
 obtain⟨fuel,h⟩:=h;cases p with
 | cell s =>
   rw[z0y hf hw] at h;obtain⟨x,h1,h2,_⟩:=zoq s hf h;exact⟨x,h1,h2⟩
 | rcd fs =>
   simp only[zot] at hf;split at hf
   · rename_i fl ht
     simp only[Bool.and_eq_true,beq_iff_eq] at hf;obtain⟨cs,rfl,hc⟩:=okWide_struct ht hw;obtain⟨ys,n',_,_,_,hlen,hg⟩:=DataW.trod_struct ht h;have hfl:=Pv hf.2
     obtain⟨xs,h1,h2,_⟩:=zor fs (fl:=fl.toList) (i:=0) (cs:=cs.toList) hf.2 (by simp;omega) fun j f hj=>by
       have:=hg j f (by simpa using hj);have hj2:j<ys.length:=by rw[hlen];have:=(List.getElem?_eq_some_iff.1 hj).1;simpa using this
       rw[List.getElem?_eq_getElem hj2] at this;exact⟨n',_,this,rfl⟩
     exact⟨.agg xs,⟨xs,rfl,h1⟩,cs.toList,by simp,by simpa using h2⟩
   · cases hf
theorem z4o:∀ {ps:List PSh} {ts:List TypeId} {vs:List Value} {ds:List (DataW H)} {q:List MemPlace} {r:Reach} {b0:Nat},Ti P ps ts=true→(∀ (j:Nat) t v,ts[j]? = some t→vs[j]? = some v→Value.okWide P w r b0 t v) →
   DataW.TrodAll enc P w 0 spare held ts vs ds q→∃ xs,IsPs ps xs∧Ad (MS.start w) xs vs
 | [],[],[],[],_,_,_,_,_,_=>⟨[],rfl,rfl⟩
 | p::ps,t::ts,v::vs,d::ds,_,_,_,hf,hw,⟨a,b,h1,h2,_⟩=>by
   simp only[Ti,Bool.and_eq_true] at hf;obtain⟨x,k1,k2⟩:=zou hf.1 (hw 0 t v rfl rfl) h1;obtain⟨xs,k3,k4⟩:=z4o hf.2 (fun j t v ht hv=>hw (j+1) t v (by simpa using ht) (by simpa using hv)) h2;exact⟨x::xs,⟨x,xs,rfl,k1,k3⟩,v,vs,rfl,k2,k4⟩
 | [],_::_,_,_,_,_,_,hf,_,_=>by simp[Ti] at hf
 | _::_,[],_,_,_,_,_,hf,_,_=>by simp[Ti] at hf
 | [],[],_::_,_,_,_,_,_,_,h=>h.elim
 | [],[],[],_::_,_,_,_,_,_,h=>h.elim
 | _::_,_::_,[],_,_,_,_,_,_,h=>by cases ‹List (DataW H)›<;>exact h.elim
 | _::_,_::_,_::_,[],_,_,_,_,_,h=>h.elim
def zc8 (P:Program) (ts:List TypeId):Bool:=ts.all fun t=>P.readableRec t&&decide (t<P.types.size)
theorem Lp {W W':World} (hl:laidOutB P=true) (hb:Below W.heap.size W W'):∀ {ts:List TypeId} {vs:List Value} {ds:List (DataW H)} {ps:List MemPlace},zc8 P ts=true→(∀ x∈ps,x.block<W.heap.size) →
   DataW.TrodAll enc P W 0 (fun _=>true) true ts vs ds ps→DataW.TrodAll enc P W' 0 (fun b=>decide (b<W.heap.size)) true ts vs ds ps
 | [],[],[],_,_,_,h=>h
 | t::ts,v::vs,d::ds,_,hr,hlt,⟨a,b,h1,h2,e⟩=>by
   subst e;simp only[zc8,List.all_cons,Bool.and_eq_true,decide_eq_true_eq] at hr;exact⟨a,b,Below.trod hl hr.1.1 hr.1.2 h1 hb (fun x hx=>hlt x (List.mem_append_left _ hx)),Lp hl hb (by simpa [zc8] using hr.2) (fun x hx=>hlt x (List.mem_append_right _ hx)) h2,rfl⟩
 | [],[],_::_,_,_,_,h=>h.elim
 | [],_::_,_,_,_,_,h=>by cases ‹List (DataW H)›<;>exact h.elim
 | _::_,[],_,_,_,_,h=>by cases ‹List (DataW H)›<;>exact h.elim
 | _::_,_::_,[],_,_,_,h=>h.elim
theorem Pw {f:Nat} {ps:List PSh} {ts:List TypeId} (hf:Ti P ps ts=true) (h:∀ xs,IsPs ps xs→PC P f xs (.bool true)) {args:Array Value} {ds:List (DataW H)} {q:List MemPlace} {r:Reach} {b0:Nat}
   (hw:∀ (j:Nat) t v,ts[j]? = some t→args.toList[j]? = some v→Value.okWide P w r b0 t v) (hA:DataW.TrodAll enc P w 0 spare held ts args.toList ds q) :
   Calls P f args w fun e w'=>e=.returned (.bool true)∧Below w.heap.size w w':=by
 obtain⟨xs,h1,h2⟩:=z4o hf hw hA;have:=(h xs h1).below h2;simpa using this
end
mutual
def valOf:AV→Value
 | .int k a=>.int k a
 | .bool b=>.bool b
 | .agg xs=>.agg (zky xs).toArray
 | _=>undef
def zky:List AV→List Value
 | []=>[]
 | x::xs=>valOf x::zky xs
end
def Flat (x:AV):Prop:=∀ S:MS,VRel S x (valOf x)
abbrev encI (r:List AV):Array Value:=(r.map valOf).toArray
def Clo (J:Nat→(Nat→Prop)→World→Prop):Prop :=
 ∀ k O W W',J k O W→W'.os=W.os→Kh W' W→W'.output=W.output→W.heap.size≤W'.heap.size →
   (∀ b,b<W.heap.size→¬O b→W'.heap[b]? = W.heap[b]?)→J k (fun b=>O b∨(W.heap.size≤b∧b<W'.heap.size)) W'
def X5 (P:Program) (gf:Nat) (caps:List AV) (rows:List (List AV)):Prop :=
 Enters P gf∧∀ (m l:Nat) (S:MS) (lb:List Value) (J Jx:Nat→(Nat→Prop)→World→Prop),
   SRel S Ac.nil→Ad S caps lb→Clo J→Clo Jx→J 0 (fun _=>False) S.w →
   (∀ k O W,J k O W∨Jx k O W→(∀ b,S.im b→¬O b∧W.heap[b]? = S.w.heap[b]?)∧(W.os=S.w.os∧Kh W S.w∧W.output=S.w.output)∧S.w.heap.size≤W.heap.size∧∀ b,O b→S.w.heap.size≤b∧b<W.heap.size) →
   (∀ k row O W,rows[k]? = some row→J k O W→YieldAt Fence.wide m P l (encI row) W fun e W'=>W.heap.size≤W'.heap.size∧(∀ b,O b→W'.heap[b]? = W.heap[b]?)∧(e=.returned (.bool true)∧J (k+1) O W'∨e=.returned (.bool false)∧Jx (k+1) O W')) →
   CallsIn Fence.wide (m+1) P gf (#[.func (.yield l) #[] #[]]++lb.toArray) S.w fun e W'=>(∃ v,e=.returned v)∧((∃ O,J rows.length O W')∨∃ k O,Jx k O W')
def setL:Env→List Nat→List AV→Env
 | env,p::ps,x::r=>setL (env.put (some p) x) ps r
 | env,_,_=>env
section
variable {P:Program} {n b:Nat} {env:Env} {H:Ac} {Q:Ex→Env→Ac→Prop}
theorem SRel.turn2 {S S':MS} {H:Ac} (h:SRel S H) (hw:∀ b,S.im b→S'.w.heap[b]? = S.w.heap[b]?) (hi:S'.im=S.im) (hn:S'.n=S.n) (hc:S'.cur=S.cur) (hp:S'.place=S.place) (hcap:S'.cap=S.cap) (hwid:S'.wid=S.wid)
   (hk:∀ b,S'.keep b→S.keep b∨S.w.heap.size≤b) (hkb:∀ b,S'.keep b→b<S'.w.heap.size) (hg:∀ b,¬(S.im b∨S.keep b)→b<S.w.heap.size→S'.w.heap[b]? = S.w.heap[b]?) (hsz:S.w.heap.size≤S'.w.heap.size):SRel S' H:=by
 have ev:=Evi.of hw hi hn hc hp hcap hwid;refine⟨hn.trans h.n,fun g hgn=>?_,fun g g' h1 h2 h3 h4 h5=>?_,fun b hb=>?_⟩
 · have hG:=h.grp g hgn
   have hni:¬(S.im (S.place g)∨S.keep (S.place g))→S.place g<S.w.heap.size→¬(S'.im (S'.place g)∨S'.keep (S'.place g)):=fun hn hlt hh=>by
     rw[hi,hp] at hh;rcases hh with hh|hh
     · exact hn (.inl hh)
     · rcases hk _ hh with hh|hh
       · exact hn (.inr hh)
       · omega
   refine⟨by rw[hc];exact hG.ver,by rw[hwid];exact hG.wid,fun hw0 hc0=>?_,fun hw0=>by rw[hcap];exact hG.len hw0,fun hw0 he=>by rw[hcap];exact hG.full hw0 he,fun hw0 he=>?_⟩
   · rw[hcap] at hc0 ⊢
     obtain⟨⟨cells,T,vs,a1,a2,a3,a4⟩,a5⟩:=hG.live hw0 hc0;exact⟨⟨cells,T,vs,by rw[hp,hg _ a5 (hG.lt hw0 hc0)];exact a1,a2,Ad.moni ev _ a3,a4⟩,hni a5 (hG.lt hw0 hc0)⟩
   · obtain⟨⟨es,clock,a1,a2⟩,a5⟩:=hG.mlive hw0 he
     exact⟨⟨es,clock,by rw[hp,hg _ a5 (hG.mlt hw0 he)];exact a1,Ad.moni ev _ a2⟩,hni a5 (hG.mlt hw0 he)⟩
 · rw[hp]
   rw[hcap] at h4 h5;exact h.apart g g' h1 h2 h3 h4 h5
 · rcases hb with hb|hb
   · rw[hi] at hb;exact Nat.lt_of_lt_of_le (h.im b (.inl hb)) hsz
   · exact hkb b hb
theorem z4p {S:MS} {ds:List Deferred} (hd:Marks S ds):∀ {ps:List Nat} {row:List AV} {env:Env} {tmps:Array Value} {ds':List Deferred},FRel S n env { tmps:=tmps,defers:=ds' }→(∀ p∈ps,p<n)→(∀ x∈row,Flat x) →
   FRel S n (setL env ps row) { tmps:=(ps.zip (row.map valOf)).foldl (fun t (p,v)=>t.setIfInBounds p v) tmps,defers:=ds }
 | [],row,env,tmps,_,hF,_,_=>by
   rw[show setL env [] row=env from by cases row<;>rfl];exact⟨hF.size,hd,hF.val⟩
 | p::ps,[],env,tmps,_,hF,_,_=>⟨hF.size,hd,hF.val⟩
 | p::ps,x::row,env,tmps,ds',hF,hp,hx=>by
   have:=hF.put (dst:=some p) (by simpa using hp p (by simp)) (x:=x) (v:=valOf x) (hx x (by simp) S);exact z4p hd (ps:=ps) (row:=row) this (fun q hq=>hp q (by simp[hq])) (fun y hy=>hx y (by simp[hy]))
def codeOf:Ex→Code
 | .normal=>.skip
 | .exit id=>.exit id
 | .ret=>.ret
structure Lo (S:MS) (rec:LoopState→Option Code→Loop) (W1:Nat) (st:LoopState) (pe:Option Code) (O:Nat→Prop) (S':MS) (H':Ac):Prop where
 evo:Evo S S'
 rel:SRel S' H'
 own:∀ b,O b→S'.keep b∧¬S'.im b∧W1≤b∧b<S'.w.heap.size
 size:W1≤S'.w.heap.size
 loop:S'.w.heap[S.w.heap.size+1]? = some (.loop (rec st pe))
 defd:S'.w.heap[S.w.heap.size]? = some (.deferred (some []))
 k1:S'.keep S.w.heap.size∧¬S'.im S.w.heap.size
 k2:S'.keep (S.w.heap.size+1)∧¬S'.im (S.w.heap.size+1)
theorem Lo.clo {S S':MS} {rec:LoopState→Option Code→Loop} {st:LoopState} {pe:Option Code} {O:Nat→Prop} {H':Ac} (hS:∀ b,S.im b∨S.keep b→b<S.w.heap.size) (h:Lo S rec (S.w.heap.size+2) st pe O S' H') {W':World}
   (h1:W'.os=S'.w.os) (h2:Kh W' S'.w) (h3:W'.output=S'.w.output) (h4:S'.w.heap.size≤W'.heap.size) (h5:∀ b,b<S'.w.heap.size→¬O b→W'.heap[b]? = S'.w.heap[b]?) :
   ∃ S'':MS,S''.w=W'∧Lo S rec (S.w.heap.size+2) st pe (fun b=>O b∨(S'.w.heap.size≤b∧b<W'.heap.size)) S'' H':=by
 obtain⟨S'',hd⟩:∃ S'':MS,S''={ S' with w:=W',keep:=fun b=>S'.keep b∨(S'.w.heap.size≤b∧b<W'.heap.size) }:=⟨_,rfl⟩;have him:∀ b,S'.im b→b<S'.w.heap.size:=fun b hb=>h.rel.im b (.inl hb);have hio:∀ b,S'.im b→¬O b:=fun b hb ho=>(h.own b ho).2.1 hb;have hlt:∀ b,S.im b∨S.keep b→¬O b:=fun b hb ho=>by have:=(h.own b ho).2.2.1;have:=hS b hb;omega
 have hsz:=h.size;refine⟨S'',by rw[hd],?_⟩
 have hrel:SRel S'' H':=by
   subst hd
   exact h.rel.turn2 (fun b hb=>h5 b (him b hb) (hio b hb)) rfl rfl rfl rfl rfl rfl (fun b hb=>hb.imp id And.left) (fun b hb=>hb.elim (fun hh=>Nat.lt_of_lt_of_le (h.rel.im b (.inr hh)) h4) And.right)
     (fun b hb hl=>h5 b hl (fun ho=>hb (.inr (h.own b ho).1))) h4
 have hevo:Evo S S'':=by
   have e:=h.evo;subst hd;refine⟨e.base,h1.trans e.os,h2.trans e.tape,h3.trans e.output,Nat.le_trans e.size h4,fun b hb=>?_,e.im,fun b hb=>.inl (e.keep b hb),e.fresh,e.n,e.cur,e.same⟩;exact (h5 b (Nat.lt_of_lt_of_le (hS b hb) e.size) (hlt b hb)).trans (e.kept b hb)
 have hw:S''.w=W':=by rw[hd]
 have hkeep:S''.keep=fun b=>S'.keep b∨(S'.w.heap.size≤b∧b<W'.heap.size):=by rw[hd]
 have himm:S''.im=S'.im:=by rw[hd]
 have hnO:∀ b,b<S.w.heap.size+2→¬O b:=fun b hb ho=>by have:=(h.own b ho).2.2.1;omega
 refine⟨hevo,hrel,fun b hb=>?_,by rw[hw];omega,?_,?_,?_,?_⟩
 · rw[hkeep,himm,hw]
   rcases hb with hb|⟨hb1,hb2⟩
   · obtain⟨q1,q2,q3,q4⟩:=h.own b hb
     exact⟨.inl q1,q2,q3,by omega⟩
   · exact⟨.inr ⟨hb1,hb2⟩,fun hi=>by have:=him b hi;omega,by omega,hb2⟩
 · rw[hw,h5 _ (by omega) (hnO _ (by omega))];exact h.loop
 · rw[hw,h5 _ (by omega) (hnO _ (by omega))];exact h.defd
 · rw[hkeep,himm];exact⟨.inl h.k1.1,h.k1.2⟩
 · rw[hkeep,himm];exact⟨.inl h.k2.1,h.k2.2⟩
theorem Lo.turn {S S':MS} {rec:LoopState→Option Code→Loop} {st:LoopState} {pe:Option Code} {O:Nat→Prop} {H':Ac} (hS:∀ b,S.im b∨S.keep b→b<S.w.heap.size) (h:Lo S rec (S.w.heap.size+2) st pe O S' H') (st':LoopState) (pe':Option Code) :
   ∃ S'':MS,S''.w=S'.w.putObj (S.w.heap.size+1) (.loop (rec st' pe'))∧Lo S rec (S.w.heap.size+2) st' pe' O S'' H'∧Evi S' S''∧S''.n=S'.n∧S''.base=S'.base∧S''.keep=S'.keep∧S''.im=S'.im:=by
 obtain⟨S'',hd⟩:∃ S'':MS,S''={ S' with w:=S'.w.putObj (S.w.heap.size+1) (.loop (rec st' pe')) }:=⟨_,rfl⟩;have hne:∀ b,S'.im b→b≠S.w.heap.size+1:=fun b hb hh=>h.k2.2 (hh ▸ hb);have hsz:=h.size;have hw:S''.w=S'.w.putObj (S.w.heap.size+1) (.loop (rec st' pe')):=by rw[hd]
 refine⟨S'',hw,⟨?_,?_,fun b hb=>?_,by rw[hw,World.putObj_size];exact hsz,?_,?_,?_,?_⟩,?_,by rw[hd],by rw[hd],by rw[hd],by rw[hd]⟩
 · have e:=h.evo
   subst hd;refine⟨e.base,e.os,e.tape,e.output,by show _≤(World.putObj _ _ _).heap.size;rw[World.putObj_size];exact e.size,fun b hb=>?_,e.im,e.keep,e.fresh,e.n,e.cur,e.same⟩;show (World.putObj _ _ _).heap[b]? = _;rw[World.putObj_heap_other (by have:=hS b hb;omega)];exact e.kept b hb
 · subst hd
   refine h.rel.turn (fun b hb=>World.putObj_heap_other (hne b hb)) rfl rfl rfl rfl rfl rfl (fun _ h=>h) (fun b hb _=>World.putObj_heap_other fun hh=>hb (.inr (hh ▸ h.k2.1))) (by show _≤(World.putObj _ _ _).heap.size;rw[World.putObj_size];exact Nat.le_refl _)
 · obtain⟨q1,q2,q3,q4⟩:=h.own b hb
   rw[hd];exact⟨q1,q2,q3,by show _<(World.putObj _ _ _).heap.size;rw[World.putObj_size];exact q4⟩
 · rw[hw];exact World.putObj_heap_same (by omega)
 · rw[hw,World.putObj_heap_other (by omega)];exact h.defd
 · rw[hd];exact h.k1
 · rw[hd];exact h.k2
 · subst hd
   exact Evi.of (fun b hb=>World.putObj_heap_other (hne b hb)) rfl rfl rfl rfl rfl rfl
theorem Lo.on {S S' S2:MS} {rec:LoopState→Option Code→Loop} {W1:Nat} {st:LoopState} {pe:Option Code} {O:Nat→Prop} {H' H2:Ac} (h:Lo S rec W1 st pe O S' H') (e:BEvo S.n S' S2) (hr:SRel S2 H2):Lo S rec W1 st pe O S2 H2∧∀ b,O b→S2.w.heap[b]? = S'.w.heap[b]? := by
 have hk:∀ b,S'.keep b→¬S'.im b→S2.keep b∧¬S2.im b∧S2.w.heap[b]? = S'.w.heap[b]? := fun b h1 h2=>⟨e.keep b h1,fun hi=>(e.fresh b hi).elim h2 (fun hh=>hh h1),e.kept b (.inr h1)⟩;refine⟨⟨((h.evo.down (Nat.le_refl _)).trans e).up,hr,fun b hb=>?_,Nat.le_trans h.size e.size,?_,?_,?_,?_⟩,fun b hb=>?_⟩
 · obtain⟨q1,q2,q3,q4⟩:=h.own b hb
   obtain⟨r1,r2,_⟩:=hk b q1 q2;exact⟨r1,r2,q3,Nat.lt_of_lt_of_le q4 e.size⟩
 · rw[(hk _ h.k2.1 h.k2.2).2.2];exact h.loop
 · rw[(hk _ h.k1.1 h.k1.2).2.2];exact h.defd
 · obtain⟨r1,r2,_⟩:=hk _ h.k1.1 h.k1.2;exact⟨r1,r2⟩
 · obtain⟨r1,r2,_⟩:=hk _ h.k2.1 h.k2.2;exact⟨r1,r2⟩
 · obtain⟨q1,q2,_,_⟩:=h.own b hb
   exact (hk b q1 q2).2.2
theorem T_rng {f:AArg} {ps:List Nat} {asg body:AC} {gf:Nat} {caps:List AV} (hf:f.eval env=.fn gf caps) (hpure:Ak caps=true) (hfr1:asg.free=true) (hfr2:body.free=true) {rows:List (List AV)} (hit:X5 P gf caps rows) (hfl:∀ r∈rows,∀ x∈r,Flat x)
   (hps:∀ r∈rows,r.length=ps.length) (hpn:∀ p∈ps,p<n) (Inv:Nat→Ac→Prop) (Qx:Ex→Ac→Prop) (h0:Inv 0 H) (hn:∀ k H',Inv k H'→H'.n=H.n) (hnx:∀ x H',Qx x H'→H'.n=H.n)
   (round:∀ k row H1,rows[k]? = some row→Inv k H1→T P n H.n asg (setL env ps row) H1 (fun x env1 H2=>x=.normal∧T P n H.n body env1 H2 (fun x _ H3=>(x=.normal∧Inv (k+1) H3)∨(x≠.normal∧Qx x H3))))
   (done:∀ H1,Inv rows.length H1→Q .normal env H1) (out:∀ x H1,Qx x H1→Q x env H1):T P n b (.rng f ps asg body) env H Q:=T_of fun rd mm hrd code hc hs S a hb hS hF=>by
 obtain rfl:rd=none:=by
   rcases hrd with h|h
   · cases h
   · exact h
 cases code<;>simp only[C7,reduceCtorEq,Option.some.injEq] at hc
 case rangeFunc g pps asgc bodyc =>
   split at hc
   · rename_i z x y hz hx hy
     cases hc;have hSim:=hS.im;have hv:=U7 hF hz;rw[hf] at hv;obtain⟨lb,hgv,hlb⟩:=hv;obtain⟨hent,hit⟩:=hit;have hFn:S.n=H.n:=hS.n;refine wpIn_rangeFunc (F:=fen none) fun fn _=>?_;obtain⟨rec,hrec⟩:∃ rec:LoopState→Option Code→Loop,rec=fun st pe=>{ state:=st,pending:=pe,fn,tmps:=a.tmps,params:=pps,assign:=asgc,body:=bodyc,defers:=S.w.heap.size }:=⟨_,rfl⟩;obtain⟨W1,hW1⟩:∃ W1,(S.w.alloc (.deferred (some []))).alloc (.loop (rec .ready none))=W1:=⟨_,rfl⟩;have hW1s:W1.heap.size=S.w.heap.size+2:=by rw[←hW1,size_alloc,size_alloc]
     have hW1o:∀ b,b<S.w.heap.size→W1.heap[b]? = S.w.heap[b]? := fun b hb=>by
       rw[←hW1,heap_alloc_lt _ _ _ (by rw[size_alloc];omega),heap_alloc_lt _ _ _ hb]
     have hL1:W1.heap[S.w.heap.size+1]? = some (.loop (rec .ready none)):=by
       rw[←hW1];have:=heap_alloc_new (S.w.alloc (.deferred (some []))) (.loop (rec .ready none));rwa [size_alloc] at this
     have hK1:W1.heap[S.w.heap.size]? = some (.deferred (some [])):=by
       rw[←hW1,heap_alloc_lt _ _ _ (by rw[size_alloc];omega)];exact heap_alloc_new _ _
     -- the state at the loop's beginning
     obtain⟨S1,hS1d⟩:∃ S1:MS,S1={ S with w:=W1,keep:=fun b=>S.keep b∨b=S.w.heap.size∨b=S.w.heap.size+1 }:=⟨_,rfl⟩;have hw1:S1.w=W1:=by rw[hS1d]
     have hlo:Lo S rec (S.w.heap.size+2) .ready none (fun _=>False) S1 H:=by
       refine⟨?_,?_,fun b hb=>hb.elim,by rw[hw1,hW1s];exact Nat.le_refl _,by rw[hw1];exact hL1,by rw[hw1];exact hK1,?_,?_⟩
       · subst hS1d hW1
         exact⟨rfl,rfl,⟨rfl,Nat.le_refl _⟩,rfl,by rw[hW1s];omega,fun b hb=>hW1o b (hSim b hb),fun _ h=>h,fun _ h=>.inl h,fun _ h=>.inl h,Nat.le_refl _,fun _ _=>Nat.le_refl _,fun _ _ _=>⟨rfl,rfl,rfl⟩⟩
       · subst hS1d
         exact hS.turn2 (fun b hb=>hW1o b (hSim b (.inl hb))) rfl rfl rfl rfl rfl rfl (fun b hb=>hb.imp id (fun h=>by omega)) (fun b hb=>by
           show b<W1.heap.size;rw[hW1s];rcases hb with hb|hb
           · have:=hSim b (.inr hb);omega
           · omega) (fun b _ hl=>hW1o b hl) (by show _≤W1.heap.size;rw[hW1s];omega)
       · rw[hS1d];exact⟨.inr (.inl rfl),fun hi=>by have:=hSim _ (.inl hi);omega⟩
       · rw[hS1d];exact⟨.inr (.inr rfl),fun hi=>by have:=hSim _ (.inl hi);omega⟩
     obtain⟨Sit,hSid⟩:∃ Sit:MS,Sit={ S1 with n:=0,keep:=fun _=>False }:=⟨_,rfl⟩
     have hSit:SRel Sit Ac.nil:=by
       subst hSid;exact⟨rfl,fun g hg=>absurd hg (Nat.not_lt_zero _),fun g _ hg=>absurd hg (Nat.not_lt_zero _),fun b hb=>hlo.rel.im b (hb.imp id False.elim)⟩
     have hlb':Ad Sit caps lb:=by
       have:=Ad.mono hlo.evo _ hlb;subst hSid;exact Ad.of_pure (S:=S1) (S':={ S1 with n:=0,keep:=fun _=>False }) rfl (fun _ h=>h) hpure this
     have hwit:Sit.w=W1:=by rw[hSid];exact hw1
     have himit:Sit.im=S.im:=by rw[hSid,hS1d]
     refine⟨S.w.heap.size+1,[mark S.w.heap.size],W1,{ target:=.fn (.func gf) lb.toArray,args:=#[.func (.yield (S.w.heap.size+1)) #[] #[]] },W1,gf,#[.func (.yield (S.w.heap.size+1)) #[] #[]]++lb.toArray,W1,?_,?_,fun _ _=>trivial,?_,fun h=>(by cases h),?_⟩
     · rw[←hW1,hrec];exact run_enterLoop_outer _ _ _ _ _
     · simp only[rangeCall,resolve,hgv]
       simp[go_sem,Act.eval]
     · simpa [invoke,go_sem] using hent (Value.func (.yield (S.w.heap.size+1)) #[] #[]::lb).toArray W1
     -- the iterator
     have hcall:=hit (mm+1) (S.w.heap.size+1) Sit lb
       (fun k O W=>∃ S' H',S'.w=W∧Lo S rec (S.w.heap.size+2) .ready none O S' H'∧Inv k H')
       (fun k O W=>∃ x S' H',S'.w=W∧Lo S rec (S.w.heap.size+2) .done (some (codeOf x)) O S' H'∧x≠.normal∧Qx x H')
       hSit hlb'
       (fun k O W W' ⟨S',H',hw,hl,hi⟩ h1 h2 h3 h4 h5=>by
         subst hw;obtain⟨S'',hw',hl'⟩:=hl.clo hSim h1 h2 h3 h4 h5
         exact⟨S'',H',hw',hl',hi⟩)
       (fun k O W W' ⟨x,S',H',hw,hl,hi⟩ h1 h2 h3 h4 h5=>by
         subst hw;obtain⟨S'',hw',hl'⟩:=hl.clo hSim h1 h2 h3 h4 h5
         exact⟨x,S'',H',hw',hl',hi⟩)
       ⟨S1,H,by rw[hwit,hw1],hlo,h0⟩
       (fun k O W hJ=>by
         have hW1e:W1.os=S.w.os∧(W1.tape=S.w.tape∧W1.drawn=S.w.drawn)∧W1.output=S.w.output:=by rw[←hW1];exact⟨rfl,⟨rfl,rfl⟩,rfl⟩
         have key:∀ {st:LoopState} {pe:Option Code} {S':MS} {H':Ac},Lo S rec (S.w.heap.size+2) st pe O S' H'→(∀ b,Sit.im b→¬O b∧S'.w.heap[b]? = Sit.w.heap[b]?)∧(S'.w.os=Sit.w.os∧Kh S'.w Sit.w∧S'.w.output=Sit.w.output)∧Sit.w.heap.size≤S'.w.heap.size∧∀ b,O b→Sit.w.heap.size≤b∧b<S'.w.heap.size:=fun hl=>by
           refine⟨fun b hb=>?_,⟨by rw[hwit,hW1e.1];exact hl.evo.os,⟨by rw[hwit,hW1e.2.1.1];exact hl.evo.tape.1,by rw[hwit,hW1e.2.1.2];exact hl.evo.tape.2⟩,by rw[hwit,hW1e.2.2];exact hl.evo.output⟩,by rw[hwit,hW1s];exact hl.size,fun b hb=>?_⟩
           · rw[himit] at hb
             refine⟨fun ho=>by have:=(hl.own b ho).2.2.1;have:=hSim b (.inl hb);omega,?_⟩;rw[hwit,hW1o b (hSim b (.inl hb))];exact hl.evo.kept b (.inl hb)
           · obtain⟨_,_,q3,q4⟩:=hl.own b hb
             rw[hwit,hW1s];exact⟨q3,q4⟩
         rcases hJ with⟨S',H',hw,hl,_⟩|⟨x,S',H',hw,hl,_,_⟩
         · subst hw;exact key hl
         · subst hw;exact key hl)
       (fun k row O W hrow ⟨S',H',hw,hl,hi⟩=>by
         subst hw
         have hlen:(encI row).size=(rec .ready none).params.size:=by
           rw[hrec];have:=hps row (List.mem_of_getElem? hrow);simp[this]
         refine⟨_,_,_,_,run_yield hl.loop hlen,?_⟩;have hrf:rec .ready none={ state:=.ready,pending:=none,fn,tmps:=a.tmps,params:=pps,assign:=asgc,body:=bodyc,defers:=S.w.heap.size }:=by rw[hrec]
         rw[hrf];refine roundIn_of_wpIn (F:=Fence.wide) trivial ?_;have hF':FRel S' n env a:=hF.mono hl.evo;have hFr:=z4p (n:=n) (Marks.nil hF'.defers.1) (ps:=pps.toList) (row:=row) (env:=env) (tmps:=a.tmps) (ds':=a.defers) hF' hpn (hfl row (List.mem_of_getElem? hrow));have hTa':=(round k row H' hrow hi) (some (S.w.heap.size+1)) (mm+1) (.inl hfr1) asgc hx S' _ (by rw[hl.rel.n,hn k H' hi];exact Nat.le_refl _) hl.rel hFr
         have hzip:(pps.zip (encI row)).foldl (fun t (p,v)=>t.setIfInBounds p v) a.tmps=(pps.toList.zip (row.map valOf)).foldl (fun t (p,v)=>t.setIfInBounds p v) a.tmps:=by
           rw[←Array.foldl_toList];simp
         rw[hzip];refine wpIn_mono hTa' fun e a1 w1 hh=>?_;obtain⟨S2,env1,H2,x1,rfl,e2,hS2,hF2,rfl,rfl,hbody⟩:=hh;have hn':H'.n=H.n:=hn k H' hi;have hsz2:=hl.size;obtain⟨hl2,ho2⟩:=hl.on (by rw[hFn];exact e2) hS2;obtain⟨S3,hw3,hl3,ev3,hn3,hb3,hk3,hi3⟩:=hl2.turn hSim .busy none;have hbr:=run_beginRound (P:=P) hl2.loop (by rw[hrec]);have hrb:({ rec .ready none with state:=.busy }:Loop)=rec .busy none:=by rw[hrec]
         rw[hrb] at hbr;refine⟨_,hbr,?_⟩;rw[←hw3]
         have hMs:Marks S3 a1.defers:=by
           obtain⟨q0,Ds,q1,q2,q3⟩:=hF2.defers;refine⟨by rw[hb3,hw3,World.putObj_size];exact q0,Ds,q1,q2,fun D hD=>?_⟩;obtain⟨r1,r2,r3,r4⟩:=q3 D hD;refine⟨by rw[hb3];exact r1,by rw[hk3];exact r2,by rw[hi3];exact r3,?_⟩;rw[hw3,World.putObj_heap_other,r4];intro hDl;rw[hDl,hl2.loop] at r4;cases r4
         have hF3:FRel S3 n env1 a1:=⟨hF2.size,hMs,fun i hi=>VRel.moni ev3 _ (hF2.val i hi)⟩;have hTb:=hbody (some (S.w.heap.size+1)) (mm+1) (.inl hfr2) bodyc hy S3 a1 (by rw[←hFn];exact hl3.evo.n) hl3.rel hF3;refine wpIn_mono hTb fun e a4 w4 hh=>?_;obtain⟨S4,env4,H4,x4,rfl,e4,hS4,hF4,rfl,hx4⟩:=hh;obtain⟨hl4,ho4⟩:=hl3.on (by rw[hFn];exact e4) hS4
         have hob:∀ b,O b→S4.w.heap[b]? = S'.w.heap[b]? := fun b hb=>by
           have hne:b≠S.w.heap.size+1:=by have:=(hl.own b hb).2.2.1;omega
           rw[ho4 b hb,hw3,World.putObj_heap_other hne,ho2 b hb]
         have hput:∀ (o:Obj) b,O b→(S4.w.putObj (S.w.heap.size+1) o).heap[b]? = S'.w.heap[b]? := fun o b hb=>by
           have hne:b≠S.w.heap.size+1:=by have:=(hl.own b hb).2.2.1;omega
           rw[World.putObj_heap_other hne,hob b hb]
         have hend:=fun j=>run_endRound (P:=P) j hl4.loop
         have hgrow:∀ o:Obj,S'.w.heap.size≤(S4.w.putObj (S.w.heap.size+1) o).heap.size:=fun o=>by
           have g1:=e2.size;have g2:=e4.size;rw[hw3,World.putObj_size] at g2;rw[World.putObj_size];omega
         have hr1:({ rec .busy none with state:=.ready,pending:=none }:Loop)=rec .ready none:=by rw[hrec]
         have hr2:∀ c,({ rec .busy none with state:=.done,pending:=some c }:Loop)=rec .done (some c):=fun c=>by rw[hrec]
         rcases hx4 with⟨rfl,hinv⟩|⟨hxn,hqx⟩
         · obtain⟨S5,hw5,hl5,_⟩:=hl4.turn hSim .ready none
           have:=hend none;simp only[Option.isNone_none,if_true,hr1] at this;exact⟨_,_,this,hgrow _,hput _,.inl ⟨rfl,S5,H4,hw5,hl5,hinv⟩⟩
         · obtain⟨S5,hw5,hl5,_⟩:=hl4.turn hSim .done (some (codeOf x4))
           have:=hend (some (codeOf x4));simp only[Option.isNone_some,Bool.false_eq_true,if_false,hr2] at this;cases x4 with
           | normal=>exact absurd rfl hxn
           | exit id=>exact⟨_,_,this,hgrow _,hput _,.inr ⟨rfl,.exit id,S5,H4,hw5,hl5,hxn,hqx⟩⟩
           | ret=>exact⟨_,_,this,hgrow _,hput _,.inr ⟨rfl,.ret,S5,H4,hw5,hl5,hxn,hqx⟩⟩)
     rw[hwit] at hcall
     have hmk:∀ (S':MS) (H':Ac),Evo S S'→SRel S' H'→S'.keep S.w.heap.size∧¬S'.im S.w.heap.size→S'.w.heap[S.w.heap.size]? = some (.deferred (some []))→FRel S' n env { a with defers:=[mark S.w.heap.size]++a.defers }:=fun S' H' ev _ hk hd=>by
       have hF':=hF.mono ev;refine⟨hF'.size,?_,hF'.val⟩;obtain⟨q0,Ds,q1,q2,q3⟩:=hF'.defers;obtain⟨_,Ds',p1,_,p3⟩:=hF.defers
       have hDs:Ds'=Ds:=by
         rw[q1] at p1
         have hinj:∀ {l l':List Nat},l.map mark=l'.map mark→l=l':=by
           intro l
           induction l with
           | nil=>intro l' h;cases l' with
             | nil=>rfl
             | cons=>simp at h
           | cons x l ih=>intro l' h;cases l' with
             | nil=>simp at h
             | cons y l' =>
               simp only[List.map_cons,List.cons.injEq,mark,Deferred.mk.injEq,and_true,Target.collected.injEq] at h;rw[h.1,ih h.2]
         exact (hinj p1).symm
       subst hDs;refine⟨q0,S.w.heap.size::Ds',by rw[q1];rfl,List.nodup_cons.2 ⟨fun hm=>by have:=hSim _ (.inr (p3 _ hm).2.1);omega,q2⟩,fun D hD=>?_⟩;rcases List.mem_cons.1 hD with rfl|hD
       · exact⟨by rw[ev.base];exact hF.defers.1,hk.1,hk.2,hd⟩
       · exact q3 D hD
     refine CallsIn.mono (callsIn_wide.2 (callsIn_wide.1 hcall)) fun e w3 hh=>?_;obtain⟨⟨v,rfl⟩,hh⟩:=hh;rcases hh with⟨O,S',H',rfl,hl,hinv⟩|⟨k,O,x,S',H',rfl,hl,hxn,hqx⟩
     · obtain⟨S5,hw5,hl5,_⟩:=hl.turn hSim .exhausted none
       have:=run_endLoop (P:=P) hl.loop (by rw[hrec];intro hh;cases hh);have hr1:({ rec .ready none with state:=.exhausted }:Loop)=rec .exhausted none:=by rw[hrec]
       rw[hr1] at this;have hpn':(rec .ready none).pending=none:=by rw[hrec]
       rw[hpn'] at this;exact⟨_,_,this,S5,env,H',.normal,hw5,hl5.evo.down hb,hl5.rel,hmk S5 H' hl5.evo hl5.rel hl5.k1 hl5.defd,rfl,done H' hinv⟩
     · obtain⟨S5,hw5,hl5,_⟩:=hl.turn hSim .exhausted (some (codeOf x))
       have:=run_endLoop (P:=P) hl.loop (by rw[hrec];intro hh;cases hh);have hr1:({ rec .done (some (codeOf x)) with state:=.exhausted }:Loop)=rec .exhausted (some (codeOf x)):=by rw[hrec]
       rw[hr1] at this;have hpn':(rec .done (some (codeOf x))).pending=some (codeOf x):=by rw[hrec]
       rw[hpn'] at this;refine⟨_,_,this,?_⟩
       have hAft:After S n b Q (Ex.up x) { a with defers:=[mark S.w.heap.size]++a.defers } (S'.w.putObj (S.w.heap.size+1) (.loop (rec .exhausted (some (codeOf x))))) :=
         ⟨S5,env,H',x,hw5,hl5.evo.down hb,hl5.rel,hmk S5 H' hl5.evo hl5.rel hl5.k1 hl5.defd,rfl,out x H' hqx⟩
       cases x with
       | normal=>exact absurd rfl hxn
       | exit id=>exact wpIn_exit hAft
       | ret=>exact wpIn_ret hAft
   · cases hc
 case region=>exact absurd hc Cf
 case seq=>split at hc<;>cases hc
 case cond=>split at hc<;>cases hc
 case block=>obtain⟨_,_,h⟩:=Option.map_eq_some_iff.1 hc;cases h
 case loop=>obtain⟨_,_,h⟩:=Option.map_eq_some_iff.1 hc;cases h
 case scope d=>exact absurd rfl (hs d)
end
section
variable {P:Program} {n b:Nat} {env:Env} {H:Ac} {Q:Ex→Env→Ac→Prop}
theorem z4q {a:Act}:∀ (ws:List Nat) {S:MS} {l:List Grp},(∀ w∈ws,0<w)→SRel S (hl l)→FRel S n env a→∃ S',S'.w=S.w∧Evo S S'∧SRel S' (hl (l++ws.map Iu))∧FRel S' n env a
 | [],S,l,_,hS,hF=>⟨S,rfl,.refl S,by simpa using hS,hF⟩
 | w::ws,S,l,hw,hS,hF=>by
   have h1:=hS.virt w (hw w (by simp));rw[D8] at h1;obtain⟨S',e1,e2,e3,e4⟩:=z4q ws (S:=S.virt w) (l:=l++[Iu w]) (fun w' h'=>hw w' (by simp[h'])) h1 ⟨hF.size,hF.defers.mono (Evo.virt _),fun j hj=>VRel.mono (Evo.virt _) _ (hF.val j hj)⟩;exact⟨S',e1,(Evo.virt _).trans e2,by simpa using e3,e4⟩
theorem zhw {srcs:List Src} {live:List (Nat × AV)} {heap:List Grp} {S:MS} {a:Act} (hh:Head b env H srcs live heap) (hbS:b≤S.n) (hS:SRel S H) (hF:FRel S n env a) :
   ∃ S',S'.w=S.w∧BEvo b S S'∧SRel S' (hl heap)∧FRel S' n (De live) a:=by
 obtain⟨hb,hh⟩:=hh;have hgn:H.groups.length=H.n:=by simp[Ac.groups]
 have hS1:SRel S (hl H.groups):=hS.congr hgn (fun g hg=>by
   show H.groups.getD g default=_
   simp[Ac.groups,List.getD,hg])
 obtain⟨S2,e1,e2,e3,e4⟩:=z4q (Ey H.n srcs).2 (Jt hh.1) hS1 hF;replace hh:=hh.2;generalize hl1:H.groups++(Ey H.n srcs).2.map Iu=l1 at *;obtain⟨h1,h2,h3,h4⟩:=hh;have hb1:b≤l1.length:=by rw[←hl1,List.length_append];omega
 have hbS2:b≤S2.n:=Nat.le_trans hbS e2.n;obtain⟨k1,k2⟩:=Pp (ks:=(Ey H.n srcs).1) hb1;have hev:=Js (ks:=(Ey H.n srcs).1) e3 hbS2;have hrel:=(Mu (ks:=(Ey H.n srcs).1) 6 e3 hb1 (fun k hk=>Oy h1 k hk) (Ib h2)).congr k1 k2;have hF3:FRel (S2.repack b (hl l1) (Ey H.n srcs).1) n (fun i=>rnV b (hl l1) (Ey H.n srcs).1 6 (env i)) a:=⟨e4.size,e4.defers.of hev.base hev.size hev.keep hev.fresh (fun b hb=>hev.kept b (.inr hb)),fun j hj=>z7u e3 6 (e4.val j hj)⟩;exact⟨S2.repack b (hl l1) (Ey H.n srcs).1,e1,(e2.down hbS).trans hev,Hj hrel h4,⟨hF3.size,hF3.defers,Pq hrel hF3 h3⟩⟩
theorem zsz {c:AC} {Q':Ex→Env→Ac→Prop} (h:T P n b c env H Q') (hq:∀ x env' H',Q' x env' H'→∃ srcs live heap,Head b env' H' srcs live heap∧Q x (De live) (hl heap)):T P n b c env H Q :=
 fun rd mm hrd code hc S a hb hS hF=>wpIn_mono (h rd mm hrd code hc S a hb hS hF) fun e a w hh=>by
   obtain⟨S',env',H',x,e1,e2,e3,e4,e5,e6⟩:=hh;obtain⟨srcs,live,heap,k1,k2⟩:=hq _ _ _ e6;obtain⟨S2,q1,q2,q3,q4⟩:=zhw k1 e2.n e3 e4;exact⟨S2,_,_,x,q1.trans e1,e2.trans q2,q3,q4,e5,k2⟩
theorem z4r {σ:Type} (Fact:Nat→σ→Prop) (live:List (Nat × AV)) (heap:σ→List Grp) (srcs:List Src) (N:Nat) {f:AArg} {ps:List Nat} {asg body:AC} {gf:Nat} {caps:List AV} {rows:List (List AV)} (s0:σ)
   (hit:X5 P gf caps rows) (he:Head b env H srcs live (heap s0)) (hN:∀ s,(heap s).length=N) (hf:f.eval (De live)=.fn gf caps) (hpure:Ak caps=true) (hfr1:asg.free=true) (hfr2:body.free=true)
   (hfl:∀ r∈rows,∀ x∈r,Flat x) (hps:∀ r∈rows,r.length=ps.length) (hpn:∀ p∈ps,p<n) (h0:Fact 0 s0)
   (round:∀ k row s,rows[k]? = some row→Fact k s→T P n N asg (setL (De live) ps row) (hl (heap s)) (fun x env1 H2=>x=.normal∧T P n N body env1 H2 (Ex.then (fun env3 H3=>∃ s',Head N env3 H3 [] [] (heap s')∧Fact (k+1) s') (fun _ _ _=>False))))
   (done:∀ s,Fact rows.length s→Q .normal (De live) (hl (heap s))):T P n b (.rng f ps asg body) env H Q:=by
 refine Ta he ?_;refine T_rng hf hpure hfr1 hfr2 hit hfl hps hpn (fun k H'=>∃ s,H'=hl (heap s)∧Fact k s) (fun _ _=>False) ⟨s0,rfl,h0⟩ (fun k H' hh=>?_) (fun _ _ hh=>hh.elim) (fun k row H1 hrow hh=>?_) (fun H1 hh=>?_) (fun _ _ hh=>hh.elim)
 · obtain⟨s,rfl,_⟩:=hh
   show (heap s).length=(heap s0).length;rw[hN,hN]
 · obtain⟨s,rfl,hs⟩:=hh
   have hn0:(hl (heap s0)).n=N:=hN s0;rw[hn0];refine T.mono (round k row s hrow hs) fun x env1 H2 hh=>⟨hh.1,?_⟩;refine zsz hh.2 fun x env3 H3 hq=>?_;cases x with
   | normal =>
     obtain⟨s',q1,q2⟩:=hq;exact⟨[],[],heap s',q1,.inl ⟨rfl,s',rfl,q2⟩⟩
   | exit id=>exact hq.elim
   | ret=>exact hq.elim
 · obtain⟨s,rfl,hs⟩:=hh
   exact done s hs
theorem Vh {f:AArg} {ps:List Nat} {asg body:AC} (h:T P n b (.rng f ps asg body) env H Q):@J6 ⟨T P n b (.rng f ps asg body) env H Q⟩:=h
end
mutual
def ren (σ:Nat→Nat):AV→AV
 | .any=>.any
 | .bool b=>.bool b
 | .int k n=>.int k n
 | .str s=>.str s
 | .nilS=>.nilS
 | .nul=>.nul
 | .emp=>.emp
 | .lst w xs=>.lst w xs
 | .full w xs=>.full w xs
 | .map g v=>.map (σ g) v
 | .ref g v o n=>.ref (σ g) v o n
 | .cptr x=>.cptr x
 | .ptr g v i o=>.ptr (σ g) v i o
 | .nilP=>.nilP
 | .agg cs=>.agg (renL σ cs)
 | .tup cs=>.tup (renL σ cs)
 | .fn f cs=>.fn f (renL σ cs)
 | .nilF=>.nilF
 | .yld l=>.yld l
def renL (σ:Nat→Nat):List AV→List AV
 | []=>[]
 | x::xs=>ren σ x::renL σ xs
end
mutual
def ltV (m:Nat):AV→Prop
 | .map g _|.ref g _ _ _|.ptr g _ _ _=>g<m
 | .agg cs|.tup cs|.fn _ cs=>ltL m cs
 | .any|.bool _|.int ..|.str _|.nilS|.nul|.emp|.lst ..|.full ..|.cptr _|.nilP|.nilF|.yld _=>True
def ltL (m:Nat):List AV→Prop
 | []=>True
 | x::xs=>ltV m x∧ltL m xs
end
def renG (σ:Nat→Nat) (G:Grp):Grp:=⟨G.w,G.ver,G.exact,renL σ G.xs⟩
mutual
theorem zkz {A B:MS} {σ:Nat→Nat} (hw:B.w=A.w) (hi:∀ b,A.im b→B.im b) (hg:∀ g,g<A.n→σ g<B.n∧B.cur (σ g)=A.cur g∧B.place (σ g)=A.place g∧B.cap (σ g)=A.cap g∧B.wid (σ g)=A.wid g):∀ (x:AV) {v:Value},VRel A x v→VRel B (ren σ x) v
 | .any,_,_=>trivial
 | .bool _,_,h=>h
 | .int _ _,_,h=>h
 | .str _,_,h=>h
 | .nilS,_,h=>h
 | .nul,_,h=>h
 | .emp,_,h=>h
 | .nilP,_,h=>h
 | .nilF,_,h=>h
 | .yld _,_,h=>h
 | .lst wd xs,v,h=>by
   obtain⟨hp,h0,a,cap,vs,hv,hc,hl,hr⟩:=h;refine⟨hp,h0,a,cap,vs,hv,hc,Ad.of_pure hw hi hp hl,fun hne=>?_⟩;obtain⟨b,o,ha,hb,hrow⟩:=hr hne;exact⟨b,o,ha,hi b hb,by rw[hw];exact hrow⟩
 | .full wd xs,v,h=>by
   obtain⟨hp,h0,a,vs,hv,hc,hl,hr⟩:=h;refine⟨hp,h0,a,vs,hv,hc,Ad.of_pure hw hi hp hl,fun hne=>?_⟩;obtain⟨b,o,ha,hb,hrow⟩:=hr hne;exact⟨b,o,ha,hi b hb,by rw[hw];exact hrow⟩
 | .cptr x,v,h=>by
   obtain⟨hp,b,o,u,hv,hb,hx,hl⟩:=h;exact⟨hp,b,o,u,hv,hi b hb,VRel.of_pure hw hi hp hx,by rw[hw];exact hl⟩
 | .map g vn,v,h=>by
   obtain⟨hs,hgn,hc,hv⟩:=h;obtain⟨k1,k2,k3,k4,k5⟩:=hg g hgn;exact⟨hs,k1,by rw[k2];exact hc,fun h'=>by rw[k3];exact hv (by rw[←k2];exact h')⟩
 | .ref g vn off len,v,h=>by
   obtain⟨hs,hgn,hc,hv⟩:=h;obtain⟨k1,k2,k3,k4,k5⟩:=hg g hgn;exact⟨hs,k1,by rw[k2];exact hc,fun h'=>by rw[k3,k4,k5];exact hv (by rw[←k2];exact h')⟩
 | .ptr g vn i o,v,h=>by
   obtain⟨hs,hgn,hc,hv⟩:=h;obtain⟨k1,k2,k3,k4,k5⟩:=hg g hgn;exact⟨hs,k1,by rw[k2];exact hc,fun h'=>by rw[k3,k5];exact hv (by rw[←k2];exact h')⟩
 | .agg cs,v,h=>by obtain⟨vs,hv,h⟩:=h;exact⟨vs,hv,Mw hw hi hg cs h⟩
 | .tup cs,v,h=>by obtain⟨vs,hv,h⟩:=h;exact⟨vs,hv,Mw hw hi hg cs h⟩
 | .fn f cs,v,h=>by obtain⟨vs,hv,h⟩:=h;exact⟨vs,hv,Mw hw hi hg cs h⟩
theorem Mw {A B:MS} {σ:Nat→Nat} (hw:B.w=A.w) (hi:∀ b,A.im b→B.im b) (hg:∀ g,g<A.n→σ g<B.n∧B.cur (σ g)=A.cur g∧B.place (σ g)=A.place g∧B.cap (σ g)=A.cap g∧B.wid (σ g)=A.wid g):∀ (xs:List AV) {vs:List Value},Ad A xs vs→Ad B (renL σ xs) vs
 | [],_,h=>h
 | x::xs,_,h=>by
   obtain⟨v,r,hv,h1,h2⟩:=h;exact⟨v,r,hv,zkz hw hi hg x h1,Mw hw hi hg xs h2⟩
end
mutual
theorem Vi {A B:MS} {σ:Nat→Nat} {m:Nat} (hw:A.w=B.w) (hi:∀ b,B.im b→A.im b) (hg:∀ g,g<m→g<A.n∧B.cur (σ g)=A.cur g∧B.place (σ g)=A.place g∧B.cap (σ g)=A.cap g∧B.wid (σ g)=A.wid g):∀ (x:AV) {v:Value},ltV m x→VRel B (ren σ x) v→VRel A x v
 | .any,_,_,_=>trivial
 | .bool _,_,_,h=>h
 | .int _ _,_,_,h=>h
 | .str _,_,_,h=>h
 | .nilS,_,_,h=>h
 | .nul,_,_,h=>h
 | .emp,_,_,h=>h
 | .nilP,_,_,h=>h
 | .nilF,_,_,h=>h
 | .yld _,_,_,h=>h
 | .lst wd xs,v,_,h=>by
   obtain⟨hp,h0,a,cap,vs,hv,hc,hl,hr⟩:=h;refine⟨hp,h0,a,cap,vs,hv,hc,Ad.of_pure hw hi hp hl,fun hne=>?_⟩;obtain⟨b,o,ha,hb,hrow⟩:=hr hne;exact⟨b,o,ha,hi b hb,by rw[hw];exact hrow⟩
 | .full wd xs,v,_,h=>by
   obtain⟨hp,h0,a,vs,hv,hc,hl,hr⟩:=h;refine⟨hp,h0,a,vs,hv,hc,Ad.of_pure hw hi hp hl,fun hne=>?_⟩;obtain⟨b,o,ha,hb,hrow⟩:=hr hne;exact⟨b,o,ha,hi b hb,by rw[hw];exact hrow⟩
 | .cptr x,v,_,h=>by
   obtain⟨hp,b,o,u,hv,hb,hx,hl⟩:=h;exact⟨hp,b,o,u,hv,hi b hb,VRel.of_pure hw hi hp hx,by rw[hw];exact hl⟩
 | .map g vn,v,hm,h=>by
   obtain⟨hs,hgn,hc,hv⟩:=h;obtain⟨k1,k2,k3,k4,k5⟩:=hg g hm;exact⟨hs,k1,by rw[←k2];exact hc,fun h'=>by rw[←k3];exact hv (by rw[k2];exact h')⟩
 | .ref g vn off len,v,hm,h=>by
   obtain⟨hs,hgn,hc,hv⟩:=h;obtain⟨k1,k2,k3,k4,k5⟩:=hg g hm;exact⟨hs,k1,by rw[←k2];exact hc,fun h'=>by rw[←k3,←k4,←k5];exact hv (by rw[k2];exact h')⟩
 | .ptr g vn i o,v,hm,h=>by
   obtain⟨hs,hgn,hc,hv⟩:=h;obtain⟨k1,k2,k3,k4,k5⟩:=hg g hm;exact⟨hs,k1,by rw[←k2];exact hc,fun h'=>by rw[←k3,←k5];exact hv (by rw[k2];exact h')⟩
 | .agg cs,v,hm,h=>by obtain⟨vs,hv,h⟩:=h;exact⟨vs,hv,F7 hw hi hg cs hm h⟩
 | .tup cs,v,hm,h=>by obtain⟨vs,hv,h⟩:=h;exact⟨vs,hv,F7 hw hi hg cs hm h⟩
 | .fn f cs,v,hm,h=>by obtain⟨vs,hv,h⟩:=h;exact⟨vs,hv,F7 hw hi hg cs hm h⟩
theorem F7 {A B:MS} {σ:Nat→Nat} {m:Nat} (hw:A.w=B.w) (hi:∀ b,B.im b→A.im b) (hg:∀ g,g<m→g<A.n∧B.cur (σ g)=A.cur g∧B.place (σ g)=A.place g∧B.cap (σ g)=A.cap g∧B.wid (σ g)=A.wid g):∀ (xs:List AV) {vs:List Value},ltL m xs→Ad B (renL σ xs) vs→Ad A xs vs
 | [],_,_,h=>h
 | x::xs,_,hm,h=>by
   obtain⟨v,r,hv,h1,h2⟩:=h;exact⟨v,r,hv,Vi hw hi hg x hm.1 h1,F7 hw hi hg xs hm.2 h2⟩
end
theorem Lq {σ:Nat→Nat}:∀ xs:List AV,(renL σ xs).length=xs.length
 | []=>rfl
 | x::xs=>by simp[renL,Lq xs]
def sg (ks:List Nat) (N i:Nat):Nat:=if i<ks.length then ks.getD i 0 else N+(i-ks.length)
def iv (ks:List Nat) (N g:Nat):Nat:=if g<N then ks.idxOf g else ks.length+(g-N)
def setG:List Nat→List Grp→List Grp→List Grp
 | [],r,l=>l++r
 | _::_,[],l=>l
 | k::ks,G::r,l=>setG ks r (l.set k G)
theorem z4s:∀ {ks:List Nat} {r l:List Grp},ks.length≤r.length→(setG ks r l).length=l.length+(r.length-ks.length)
 | [],r,l,_=>by simp[setG]
 | k::ks,[],l,h=>by simp at h
 | k::ks,G::r,l,h=>by
   rw[setG,z4s (by simpa using h)];simp
theorem Mx:∀ {ks:List Nat} {r l:List Grp} {g:Nat},g<l.length→g∉ks→(setG ks r l).getD g default=l.getD g default
 | [],r,l,g,hg,_=>by simp[setG,List.getD,List.getElem?_append_left hg]
 | k::ks,[],l,g,_,_=>rfl
 | k::ks,G::r,l,g,hg,hk=>by
   simp only[List.mem_cons,not_or] at hk;rw[setG,Mx (by simpa using hg) hk.2];simp[List.getD,List.getElem?_set_ne (fun h=>hk.1 h.symm)]
theorem zc9:∀ {ks:List Nat} {r l:List Grp} {i:Nat},ks.Nodup→(∀ k∈ks,k<l.length)→i<r.length→(setG ks r l).getD (sg ks l.length i) default=r.getD i default
 | [],r,l,i,_,_,hi=>by
   simp only[setG,sg,List.length_nil,Nat.not_lt_zero,if_false,Nat.sub_zero,List.getD];rw[List.getElem?_append_right (by omega),Nat.add_sub_cancel_left]
 | k::ks,[],l,i,_,_,hi=>by simp at hi
 | k::ks,G::r,l,0,hn,hk,_=>by
   rw[List.nodup_cons] at hn;have h1:k<l.length:=hk k (by simp);have e:sg (k::ks) l.length 0=k:=by simp[sg]
   rw[e,setG,Mx (by simpa using h1) hn.1];simp[List.getD,List.getElem?_set_self h1]
 | k::ks,G::r,l,i+1,hn,hk,hi=>by
   rw[List.nodup_cons] at hn;have e:sg (k::ks) l.length (i+1)=sg ks (l.set k G).length i:=by simp[sg]
   rw[e,setG,zc9 hn.2 (fun k' h'=>by simpa using hk k' (by simp[h'])) (by simpa using hi)];simp
theorem sg_lt {ks:List Nat} {N i n:Nat} (hk:∀ k∈ks,k<N) (hi:i<n) (hm:ks.length≤n):sg ks N i<N+(n-ks.length):=by
 unfold sg;split
 · rename_i h
   have:ks.getD i 0∈ks:=by rw[List.getD_eq_getElem?_getD,List.getElem?_eq_getElem h];exact List.getElem_mem h
   have:=hk _ this;omega
 · omega
theorem zov {ks:List Nat} {N i:Nat} (hn:ks.Nodup) (hk:∀ k∈ks,k<N):iv ks N (sg ks N i)=i:=by
 unfold sg;split
 · rename_i h
   have hmem:ks.getD i 0∈ks:=by rw[List.getD_eq_getElem?_getD,List.getElem?_eq_getElem h];exact List.getElem_mem h
   rw[iv,if_pos (hk _ hmem),List.getD_eq_getElem?_getD,List.getElem?_eq_getElem h];exact hn.idxOf_getElem i h
 · rw[iv,if_neg (by omega)];omega
theorem zca {ks:List Nat} {N g:Nat} (hg:g∈ks):∃ i,i<ks.length∧sg ks N i=g:=by
 obtain⟨i,hi,he⟩:=List.getElem_of_mem hg;exact⟨i,hi,by rw[sg,if_pos hi,List.getD_eq_getElem?_getD,List.getElem?_eq_getElem hi];exact he⟩
theorem zhx {ks:List Nat} {N g n:Nat} (hm:ks.length≤n) (hg:g<N+(n-ks.length)) (h:¬(g<N∧g∉ks)):∃ i,i<n∧sg ks N i=g:=by
 by_cases hgN:g<N
 · have hmem:g∈ks:=by
     by_cases hh:g∈ks
     · exact hh
     · exact absurd ⟨hgN,hh⟩ h
   obtain⟨i,hi,he⟩:=zca (N:=N) hmem;exact⟨i,by omega,he⟩
 · exact⟨ks.length+(g-N),by omega,by rw[sg,if_neg (by omega)];omega⟩
theorem Nl {σ:Nat→Nat} {l:List Grp} {i:Nat} (h:i<l.length):(l.map (renG σ)).getD i default=renG σ (l.getD i default):=by
 simp[List.getD,List.getElem?_eq_getElem h]
theorem X6 {P:Program} {f:Nat} {xs0 xs:List AV} {l0 l:List Grp} {K0 K:AV→Ac→Prop} (ks:List Nat) (h:Be P f xs0 (hl l0) K0) (hxs:renL (sg ks l.length) xs0=xs)
   (hl0:l0.map (renG (sg ks l.length))=ks.map (fun k=>l.getD k default)) (hn:ks.Nodup) (hk:∀ k∈ks,k<l.length) (hlt:ltL ks.length xs0) (hltG:∀ G∈l0,ltL ks.length G.xs)
   (hK:∀ y H',K0 y H'→∃ l',H'=hl l'∧ks.length≤l'.length∧K (ren (sg ks l.length) y) (hl (setG ks (l'.map (renG (sg ks l.length))) l))):Be P f xs (hl l) K:=by
 refine⟨h.1,fun S cargs hS hx=>?_⟩;have hm:l0.length=ks.length:=by simpa using congrArg List.length hl0
 have hSn:S.n=l.length:=hS.n;have hinj:∀ i j,sg ks l.length i=sg ks l.length j→i=j:=fun i j e=>by rw[←zov (i:=i) hn hk,e,zov hn hk]
 have hin:∀ i,i<ks.length→sg ks l.length i<l.length∧sg ks l.length i∈ks:=fun i hi=>by
   have e:sg ks l.length i=ks[i]:=by rw[sg,if_pos hi,List.getD_eq_getElem?_getD,List.getElem?_eq_getElem hi];rfl
   rw[e];exact⟨hk _ (List.getElem_mem hi),List.getElem_mem hi⟩
 have hat:∀ i,i<ks.length→l.getD (sg ks l.length i) default=renG (sg ks l.length) (l0.getD i default):=fun i hi=>by
   rw[←Nl (by omega),hl0,sg,if_pos hi];simp[List.getD,List.getElem?_eq_getElem hi]
 have hG:∀ i,i<ks.length→GRel S (renG (sg ks l.length) (l0.getD i default)) (sg ks l.length i):=fun i hi=>by
   have:=hS.grp (sg ks l.length i) (hin i hi).1
   rwa [Cy,hat i hi] at this
 obtain⟨O,hO⟩:∃ O:Nat→Prop,∀ b,O b↔∃ g,g<l.length∧g∉ks∧(l.getD g default).has (S.cap g)∧S.place g=b:=⟨_,fun _=>Iff.rfl⟩
 have hOfree:∀ b,O b→¬(S.im b∨S.keep b):=fun b hb=>by
   obtain⟨g,h1,h2,h3,rfl⟩:=(hO b).1 hb;exact (hS.grp g h1).has_ni (by rw[Cy];exact h3)
 obtain⟨S0,hS0d⟩:∃ S0:MS,S0={ S with keep:=fun b=>S.keep b∨O b,n:=ks.length,place:=fun i=>S.place (sg ks l.length i),cur:=fun i=>S.cur (sg ks l.length i),cap:=fun i=>S.cap (sg ks l.length i),wid:=fun i=>S.wid (sg ks l.length i) }:=⟨_,rfl⟩
 have hdn:∀ g,g<ks.length→g<S0.n∧S.cur (sg ks l.length g)=S0.cur g∧S.place (sg ks l.length g)=S0.place g∧S.cap (sg ks l.length g)=S0.cap g∧S.wid (sg ks l.length g)=S0.wid g:=fun g hg=>by
   subst hS0d;exact⟨hg,rfl,rfl,rfl,rfl⟩
 have hw0:S0.w=S.w:=by subst hS0d;rfl
 have hi0:∀ b,S.im b→S0.im b:=fun b hb=>by subst hS0d;exact hb
 have hrel0:SRel S0 (hl l0):=by
   refine⟨by subst hS0d;exact hm.symm,fun i hi=>?_,fun i j hi hj hne h1 h2=>?_,fun b hb=>?_⟩
   · have hi':i<ks.length:=by rw[←hm];exact hi
     have hg:=hG i hi';have hmem:l0.getD i default∈l0:=by rw[List.getD_eq_getElem?_getD,List.getElem?_eq_getElem (show i<l0.length from hi)];exact List.getElem_mem _
     have hlg:=hltG _ hmem;rw[Cy]
     have hnO:(l0.getD i default).has (S.cap (sg ks l.length i))→¬O (S.place (sg ks l.length i)):=fun hh ho=>by
       obtain⟨g,a1,a2,a3,a4⟩:=(hO _).1 ho;exact hS.apart g (sg ks l.length i) a1 (hin i hi').1 (fun e=>a2 (e ▸ (hin i hi').2)) (by rw[Cy];exact a3) (by rw[Cy,hat i hi'];exact hh) a4
     refine⟨by subst hS0d;exact hg.ver,by subst hS0d;exact hg.wid,fun hw hc=>?_,fun hw=>by have:=hg.len hw;subst hS0d;simpa [renG,Lq] using this,fun hw he=>by have:=hg.full hw he;subst hS0d;simpa [renG,Lq] using this,fun hw he=>?_⟩
     · have hc':0<S.cap (sg ks l.length i):=by subst hS0d;exact hc
       obtain⟨⟨cells,T,vs,b1,b2,b3,b4⟩,ni⟩:=hg.live hw hc';refine⟨⟨cells,T,vs,by subst hS0d;exact b1,by subst hS0d;exact b2,F7 hw0 hi0 hdn _ hlg b3,b4⟩,fun hh=>?_⟩;have hno:=hnO (.inl ⟨hw,hc'⟩);subst hS0d;exact hh.elim (fun hh=>ni (.inl hh)) (fun hh=>hh.elim (fun hh=>ni (.inr hh)) hno)
     · obtain⟨⟨es,clock,b1,b2⟩,ni⟩:=hg.mlive hw he
       refine⟨⟨es,clock,by subst hS0d;exact b1,F7 hw0 hi0 hdn _ hlg b2⟩,fun hh=>?_⟩;have hno:=hnO (.inr ⟨hw,he⟩);subst hS0d;exact hh.elim (fun hh=>ni (.inl hh)) (fun hh=>hh.elim (fun hh=>ni (.inr hh)) hno)
   · have hi':i<ks.length:=by rw[←hm];exact hi
     have hj':j<ks.length:=by rw[←hm];exact hj
     rw[Cy] at h1 h2;have:=hS.apart (sg ks l.length i) (sg ks l.length j) (hin i hi').1 (hin j hj').1 (fun e=>hne (hinj _ _ e)) (by rw[Cy,hat i hi'];subst hS0d;exact h1) (by rw[Cy,hat j hj'];subst hS0d;exact h2);subst hS0d;exact this
   · subst hS0d
     rcases hb with hb|hb|hb
     · exact hS.im b (.inl hb)
     · exact hS.im b (.inr hb)
     · obtain⟨g,a1,a2,a3,rfl⟩:=(hO _).1 hb
       exact (hS.grp g a1).has_lt (by rw[Cy];exact a3)
 have hx0:Ad S0 xs0 cargs:=F7 hw0 hi0 hdn xs0 hlt (by rw[hxs];exact hx);have hsz:S0.w.heap=S.w.heap:=by rw[hw0]
 have hcall:=h.2 S0 cargs hrel0 hx0;rw[hw0] at hcall;refine hcall.mono fun e w' hh=>?_;obtain⟨v,S1,y,H',he,hw1,ev,hS1,hv,hk0⟩:=hh;obtain⟨l',rfl,hml,hK'⟩:=hK y H' hk0;have hn1:S1.n=l'.length:=hS1.n
 have hnot:∀ i,¬(sg ks l.length i<l.length∧sg ks l.length i∉ks):=fun i hh=>by
   by_cases hi:i<ks.length
   · exact hh.2 (hin i hi).2
   · have:sg ks l.length i=l.length+(i-ks.length):=by rw[sg,if_neg hi]
     omega
 obtain⟨S',hS'd⟩:∃ S':MS,S'={ w:=S1.w,im:=S1.im,keep:=fun b=>S1.keep b∧¬O b,n:=l.length+(l'.length-ks.length),place:=fun g=>if g<l.length∧g∉ks then S.place g else S1.place (iv ks l.length g),cur:=fun g=>if g<l.length∧g∉ks then S.cur g else S1.cur (iv ks l.length g),cap:=fun g=>if g<l.length∧g∉ks then S.cap g else S1.cap (iv ks l.length g),wid:=fun g=>if g<l.length∧g∉ks then S.wid g else S1.wid (iv ks l.length g),base:=S1.base }:=⟨_,rfl⟩
 have hoth:∀ g,g<l.length→g∉ks→S'.place g=S.place g∧S'.cur g=S.cur g∧S'.cap g=S.cap g∧S'.wid g=S.wid g:=fun g h1 h2=>by
   subst hS'd;exact⟨if_pos ⟨h1,h2⟩,if_pos ⟨h1,h2⟩,if_pos ⟨h1,h2⟩,if_pos ⟨h1,h2⟩⟩
 have hour:∀ i,S'.place (sg ks l.length i)=S1.place i∧S'.cur (sg ks l.length i)=S1.cur i∧S'.cap (sg ks l.length i)=S1.cap i∧S'.wid (sg ks l.length i)=S1.wid i:=fun i=>by
   subst hS'd;refine⟨?_,?_,?_,?_⟩<;>simp only[if_neg (hnot i),zov hn hk]
 have hn':S'.n=l.length+(l'.length-ks.length):=by subst hS'd;rfl
 have hwS':S'.w=S1.w:=by subst hS'd;rfl
 have hup:∀ g,g<S1.n→sg ks l.length g<S'.n∧S'.cur (sg ks l.length g)=S1.cur g∧S'.place (sg ks l.length g)=S1.place g∧S'.cap (sg ks l.length g)=S1.cap g∧S'.wid (sg ks l.length g)=S1.wid g:=fun g hg=>by
   obtain⟨a1,a2,a3,a4⟩:=hour g;exact⟨by rw[hn'];exact sg_lt hk (by omega) hml,a2,a1,a3,a4⟩
 have hiS':∀ b,S1.im b→S'.im b:=fun b hb=>by subst hS'd;exact hb
 have hkS0:∀ b,O b→S0.keep b:=fun b hb=>by subst hS0d;exact .inr hb
 have hn0:S0.n=ks.length:=by subst hS0d;rfl
 have hevo:Evo S S':=by
   refine⟨?_,?_,?_,?_,?_,fun b hb=>?_,fun b hb=>?_,fun b hb=>?_,fun b hb=>?_,?_,fun g hg=>?_,fun g hg he=>?_⟩
   · have:=ev.base;subst hS'd;subst hS0d;exact this
   · have:=ev.os;rw[hw0] at this;rw[hwS'];exact this
   · have:=ev.tape;rw[hw0] at this;rw[hwS'];exact this
   · have:=ev.output;rw[hw0] at this;rw[hwS'];exact this
   · have:=ev.size;rw[hw0] at this;rw[hwS'];exact this
   · have:=ev.kept b (by subst hS0d;exact hb.imp id .inl);rw[hw0] at this;rw[hwS'];exact this
   · exact hiS' b (ev.im b (hi0 b hb))
   · have h1:=ev.keep b (by subst hS0d;exact .inl hb)
     subst hS'd;exact⟨h1,fun ho=>hOfree b ho (.inr hb)⟩
   · have h1:=ev.fresh b (by subst hS'd;exact hb)
     subst hS0d;exact h1.imp id fun hh h2=>hh (.inl h2)
   · rw[hn',hSn];omega
   · rw[hSn] at hg
     by_cases hmem:g∈ks
     · obtain⟨i,hi,rfl⟩:=zca (N:=l.length) hmem
       rw[(hour i).2.1];have:=ev.cur i (by rw[hn0];exact hi);subst hS0d;exact this
     · rw[(hoth g hg hmem).2.1];exact Nat.le_refl _
   · rw[hSn] at hg
     by_cases hmem:g∈ks
     · obtain⟨i,hi,rfl⟩:=zca (N:=l.length) hmem
       obtain⟨a1,a2,a3,a4⟩:=hour i;rw[a1,a3,a4];rw[a2] at he;have:=ev.same i (by rw[hn0];exact hi) (by subst hS0d;exact he);subst hS0d;exact this
     · obtain⟨a1,a2,a3,a4⟩:=hoth g hg hmem
       exact⟨a1,a3,a4⟩
 have hlen:(setG ks (l'.map (renG (sg ks l.length))) l).length=l.length+(l'.length-ks.length):=by rw[z4s (by simpa using hml)];simp
 have hatO:∀ g,g<l.length→g∉ks→(setG ks (l'.map (renG (sg ks l.length))) l).getD g default=l.getD g default:=fun g h1 h2=>Mx h1 h2
 have hatI:∀ i,i<l'.length→(setG ks (l'.map (renG (sg ks l.length))) l).getD (sg ks l.length i) default=renG (sg ks l.length) (l'.getD i default):=fun i hi=>by
   rw[zc9 hn hk (by simpa using hi),Nl hi]
 have hrel':SRel S' (hl (setG ks (l'.map (renG (sg ks l.length))) l)):=by
   have hcov:∀ g,g<(setG ks (l'.map (renG (sg ks l.length))) l).length→(g<l.length∧g∉ks)∨∃ i,i<l'.length∧sg ks l.length i=g:=fun g hg=>by
     by_cases hh:g<l.length∧g∉ks
     · exact .inl hh
     · exact .inr (zhx hml (by rw[←hlen];exact hg) hh)
   have hfree1:∀ i,i<l'.length→(l'.getD i default).has (S1.cap i)→¬S1.keep (S1.place i):=fun i hi hh hkk=>(hS1.grp i hi).has_ni (by rw[Cy];exact hh) (.inr hkk);refine⟨by rw[hn'];exact hlen.symm,fun g hg=>?_,fun g g' hg hg' hne h1 h2=>?_,fun b hb=>?_⟩
   · rcases hcov g hg with⟨h1,h2⟩|⟨i,hi,rfl⟩
     · have hr:=hS.grp g h1
       obtain⟨a1,a2,a3,a4⟩:=hoth g h1 h2;rw[Cy] at hr ⊢;rw[hatO g h1 h2]
       have hblk:(l.getD g default).has (S.cap g)→S'.w.heap[S.place g]? = S.w.heap[S.place g]? := fun hh=>by
         have:=ev.kept (S.place g) (.inr (hkS0 _ ((hO _).2 ⟨g,h1,h2,hh,rfl⟩)));rw[hw0] at this;rw[hwS'];exact this
       have hnik:(l.getD g default).has (S.cap g)→¬(S'.im (S.place g)∨S'.keep (S.place g)):=fun hh hik=>by
         have ho:O (S.place g):=(hO _).2 ⟨g,h1,h2,hh,rfl⟩;rcases hik with hik|hik
         · rcases ev.fresh (S.place g) (by subst hS'd;exact hik) with h3|h3
           · exact hOfree _ ho (.inl (by subst hS0d;exact h3))
           · exact h3 (hkS0 _ ho)
         · subst hS'd;exact hik.2 ho
       refine⟨by rw[a2];exact hr.ver,by rw[a4];exact hr.wid,fun hw hc=>?_,fun hw=>by rw[a3];exact hr.len hw,fun hw he=>by rw[a3];exact hr.full hw he,fun hw he=>?_⟩
       · rw[a3] at hc
         obtain⟨⟨cells,T,vs,b1,b2,b3,b4⟩,ni⟩:=hr.live hw hc;rw[a1,a3];exact⟨⟨cells,T,vs,by rw[hblk (.inl ⟨hw,hc⟩)];exact b1,b2,b3.mono hevo,b4⟩,hnik (.inl ⟨hw,hc⟩)⟩
       · obtain⟨⟨es,clock,b1,b2⟩,ni⟩:=hr.mlive hw he
         rw[a1];exact⟨⟨es,clock,by rw[hblk (.inr ⟨hw,he⟩)];exact b1,b2.mono hevo⟩,hnik (.inr ⟨hw,he⟩)⟩
     · have hr:=hS1.grp i hi
       obtain⟨a1,a2,a3,a4⟩:=hour i;rw[Cy] at hr ⊢;rw[hatI i hi]
       have hnik:¬(S1.im (S1.place i)∨S1.keep (S1.place i))→¬(S'.im (S1.place i)∨S'.keep (S1.place i)):=fun hh hik=>by
         subst hS'd;exact hh (hik.imp id fun h3=>h3.1)
       refine⟨by rw[a2];exact hr.ver,by rw[a4];exact hr.wid,fun hw hc=>?_,fun hw=>by rw[a3];have:=hr.len hw;simpa [renG,Lq] using this,fun hw he=>by rw[a3];have:=hr.full hw he;simpa [renG,Lq] using this,fun hw he=>?_⟩
       · rw[a3] at hc
         obtain⟨⟨cells,T,vs,b1,b2,b3,b4⟩,ni⟩:=hr.live hw hc;rw[a1,a3];exact⟨⟨cells,T,vs,by rw[hwS'];exact b1,b2,Mw hwS' hiS' hup _ b3,b4⟩,hnik ni⟩
       · obtain⟨⟨es,clock,b1,b2⟩,ni⟩:=hr.mlive hw he
         rw[a1];exact⟨⟨es,clock,by rw[hwS'];exact b1,Mw hwS' hiS' hup _ b2⟩,hnik ni⟩
   · have hmix:∀ g i,g<l.length→g∉ks→i<l'.length→(l.getD g default).has (S.cap g)→(l'.getD i default).has (S1.cap i)→S.place g≠S1.place i:=fun g i b1 b2 b3 b4 b5 e=>by
       have h3:=ev.keep _ (hkS0 _ ((hO _).2 ⟨g,b1,b2,b4,rfl⟩));rw[e] at h3;exact hfree1 i b3 b5 h3
     rw[Cy] at h1 h2;rcases hcov g hg with⟨c1,c2⟩|⟨i,hi,rfl⟩<;>rcases hcov g' hg' with⟨d1,d2⟩|⟨j,hj,rfl⟩
     · rw[hatO g c1 c2,(hoth g c1 c2).2.2.1] at h1
       rw[hatO g' d1 d2,(hoth g' d1 d2).2.2.1] at h2;rw[(hoth g c1 c2).1,(hoth g' d1 d2).1];exact hS.apart g g' c1 d1 hne (by rw[Cy];exact h1) (by rw[Cy];exact h2)
     · rw[hatO g c1 c2,(hoth g c1 c2).2.2.1] at h1
       rw[hatI j hj,(hour j).2.2.1] at h2;rw[(hoth g c1 c2).1,(hour j).1];exact hmix g j c1 c2 hj h1 h2
     · rw[hatI i hi,(hour i).2.2.1] at h1
       rw[hatO g' d1 d2,(hoth g' d1 d2).2.2.1] at h2;rw[(hoth g' d1 d2).1,(hour i).1];exact fun e=>hmix g' i d1 d2 hi h2 h1 e.symm
     · rw[hatI i hi,(hour i).2.2.1] at h1
       rw[hatI j hj,(hour j).2.2.1] at h2;rw[(hour i).1,(hour j).1];exact hS1.apart i j hi hj (fun e=>hne (by rw[e])) (by rw[Cy];exact h1) (by rw[Cy];exact h2)
   · rw[hwS']
     refine hS1.im b ?_;subst hS'd;exact hb.imp id fun h3=>h3.1
 exact⟨v,S',_,_,he,by rw[hwS'];exact hw1,hevo,hrel',zkz hwS' hiS' hup y hv,hK'⟩
mutual
theorem zhy (σ:Nat→Nat):∀ (x:AV),x.pure=true→ren σ x=x
 | .any,_=>rfl
 | .bool _,_=>rfl
 | .int _ _,_=>rfl
 | .str _,_=>rfl
 | .nilS,_=>rfl
 | .nul,_=>rfl
 | .emp,_=>rfl
 | .lst _ _,_=>rfl
 | .full _ _,_=>rfl
 | .cptr _,_=>rfl
 | .nilP,_=>rfl
 | .nilF,_=>rfl
 | .yld _,_=>rfl
 | .map _ _,h=>by cases h
 | .ref _ _ _ _,h=>by cases h
 | .ptr _ _ _ _,h=>by cases h
 | .agg cs,h=>by rw[ren,I1 σ cs h]
 | .tup cs,h=>by rw[ren,I1 σ cs h]
 | .fn f cs,h=>by rw[ren,I1 σ cs h]
theorem I1 (σ:Nat→Nat):∀ (xs:List AV),Ak xs=true→renL σ xs=xs
 | [],_=>rfl
 | x::xs,h=>by
   simp only[Ak,Bool.and_eq_true] at h;rw[renL,zhy σ x h.1,I1 σ xs h.2]
end
mutual
theorem Bv (m:Nat):∀ (x:AV),x.pure=true→ltV m x
 | .any,_=>trivial
 | .bool _,_=>trivial
 | .int _ _,_=>trivial
 | .str _,_=>trivial
 | .nilS,_=>trivial
 | .nul,_=>trivial
 | .emp,_=>trivial
 | .lst _ _,_=>trivial
 | .full _ _,_=>trivial
 | .cptr _,_=>trivial
 | .nilP,_=>trivial
 | .nilF,_=>trivial
 | .yld _,_=>trivial
 | .map _ _,h=>by cases h
 | .ref _ _ _ _,h=>by cases h
 | .ptr _ _ _ _,h=>by cases h
 | .agg cs,h=>Cc m cs h
 | .tup cs,h=>Cc m cs h
 | .fn f cs,h=>Cc m cs h
theorem Cc (m:Nat):∀ (xs:List AV),Ak xs=true→ltL m xs
 | [],_=>trivial
 | x::xs,h=>by
   simp only[Ak,Bool.and_eq_true] at h;exact⟨Bv m x h.1,Cc m xs h.2⟩
end
def renM (σ:Nat→Nat) (xs:List AV):List AV:=renL σ xs
def ltM (m:Nat) (xs:List AV):Prop:=ltL m xs
section
variable {ks:List Nat} {N i m g k v o n w f:Nat} {x:AV} {xs cs:List AV} {e:Bool} {G:Grp} {r l:List Grp}
theorem zow:renL (sg ks N) xs=bif Ak xs then xs else renM (sg ks N) xs:=by
 cases h:Ak xs
 · rfl
 · exact I1 _ xs h
theorem zt0:ltL m xs=ifB (Ak xs) (ltM m xs):=propext ⟨fun h=>.inr h,fun h=>h.elim (Cc m xs) id⟩
theorem zhz:renM (sg ks N) []=[]:=rfl
theorem zcb:renM (sg ks N) (x::xs)=ren (sg ks N) x::renM (sg ks N) xs:=rfl
theorem zox:ltM m []=True:=rfl
theorem zi0:ltM m (x::xs)=(ltV m x∧ltM m xs):=rfl
theorem zt1:ren (sg ks N) .any=.any:=rfl
theorem zoy {b:Bool}:ren (sg ks N) (.bool b)=.bool b:=rfl
theorem zt2 {q:IntKind} {z:Int}:ren (sg ks N) (.int q z)=.int q z:=rfl
theorem zt3 {s:List UInt8}:ren (sg ks N) (.str s)=.str s:=rfl
theorem zoz:ren (sg ks N) .nilS=.nilS:=rfl
theorem zt4:ren (sg ks N) .nul=.nul:=rfl
theorem zt5:ren (sg ks N) .emp=.emp:=rfl
theorem zp0:ren (sg ks N) .nilP=.nilP:=rfl
theorem zp1:ren (sg ks N) .nilF=.nilF:=rfl
theorem zt6:ren (sg ks N) (.lst w xs)=.lst w xs:=rfl
theorem zp2:ren (sg ks N) (.full w xs)=.full w xs:=rfl
theorem zp3:ren (sg ks N) (.cptr x)=.cptr x:=rfl
theorem zt7:ren (sg ks N) (.ref g v o n)=.ref (sg ks N g) v o n:=rfl
theorem zt8:ren (sg ks N) (.ptr g v i o)=.ptr (sg ks N g) v i o:=rfl
theorem zt9:ren (sg ks N) (.map g v)=.map (sg ks N g) v:=rfl
theorem zta:ren (sg ks N) (.agg cs)=.agg (renL (sg ks N) cs):=rfl
theorem ztb:ren (sg ks N) (.tup cs)=.tup (renL (sg ks N) cs):=rfl
theorem re_fn:ren (sg ks N) (.fn f cs)=.fn f (renL (sg ks N) cs):=rfl
theorem ztc:ltV m .any=True:=rfl
theorem zp4 {b:Bool}:ltV m (.bool b)=True:=rfl
theorem ztd {q:IntKind} {z:Int}:ltV m (.int q z)=True:=rfl
theorem zte {s:List UInt8}:ltV m (.str s)=True:=rfl
theorem zp5:ltV m .nilS=True:=rfl
theorem ztf:ltV m .nul=True:=rfl
theorem ztg:ltV m .emp=True:=rfl
theorem zp6:ltV m .nilP=True:=rfl
theorem zp7:ltV m .nilF=True:=rfl
theorem zth:ltV m (.lst w xs)=True:=rfl
theorem zp8:ltV m (.full w xs)=True:=rfl
theorem zp9:ltV m (.cptr x)=True:=rfl
theorem zti:ltV m (.ref g v o n)=(g<m):=rfl
theorem ztj:ltV m (.ptr g v i o)=(g<m):=rfl
theorem ztk:ltV m (.map g v)=(g<m):=rfl
theorem ztl:ltV m (.agg cs)=ltL m cs:=rfl
theorem ztm:ltV m (.tup cs)=ltL m cs:=rfl
theorem lv_fn:ltV m (.fn f cs)=ltL m cs:=rfl
theorem sg_eq:sg ks N i=if i<ks.length then ks.getD i 0 else N+(i-ks.length):=rfl
theorem reG {σ:Nat→Nat}:renG σ ⟨w,v,e,xs⟩=⟨w,v,e,renL σ xs⟩:=rfl
theorem ztn:setG [] r l=l++r:=rfl
theorem zcc:setG (k::ks) (G::r) l=setG ks r (l.set k G):=rfl
end
attribute [push_cast] zow zt0 zhz zcb zox zi0 zt1 zoy zt2 zt3 zoz zt4 zt5 zp0 zp1 zt6 zp2 zp3 zt7 zt8 zt9 zta ztb re_fn
attribute [push_cast] ztc zp4 ztd zte zp5 ztf ztg zp6 zp7 zth zp8 zp9 zti ztj ztk ztl ztm lv_fn sg_eq reG ztn zcc List.set_cons_zero List.set_cons_succ List.getD_cons_zero List.getD_cons_succ
theorem Vj {P:Program} {f:Nat} {xs0 xs:List AV} {l0 l:List Grp} {K0 K:AV→Ac→Prop} (ks:List Nat) (h:Be P f xs0 (hl l0) K0) (hn:ks.Nodup) (hk:∀ k∈ks,k<l.length) (hxs:renL (sg ks l.length) xs0=xs)
   (hl0:l0.map (renG (sg ks l.length))=ks.map (fun k=>l.getD k default)) (hlt:ltL ks.length xs0) (hltG:∀ G∈l0,ltL ks.length G.xs)
   (hK:∀ y H',K0 y H'→∃ l',H'=hl l'∧ks.length≤l'.length∧@nx (ren (sg ks l.length) y) (hl (setG ks (l'.map (renG (sg ks l.length))) l)) ⟨K⟩):@Vd P f xs (hl l) ⟨K⟩ :=
 X6 ks h hxs hl0 hn hk hlt hltG hK
section
variable {P:Program} {n b:Nat} {env:Env} {H:Ac}
theorem Tj {S:MS} {l2:List Grp} {H1:Ac} {ks:List Nat} {val:Nat→Value} (hS:SRel S (hl l2)) (hF:∀ i,VRel S (rnV b H1 ks 6 (env i)) (val i)):∀ {live:List (Nat × AV)},Nj l2 H1 b ks env live→∀ i,VRel S (De live i) (val i)
 | [],_,i=>trivial
 | (t,y)::r,h,i=>by
   show VRel S (if i=t then y else De r i) _;split
   · rename_i hit
     subst hit;exact Xz (.inl hS) _ h.1 (hF i)
   · exact Tj hS hF h.2 i
theorem Vk:∀ (ws:List Nat) {S:MS} {l:List Grp} {val:Nat→Value},(∀ w∈ws,0<w)→SRel S (hl l)→(∀ i,VRel S (env i) (val i))→∃ S',S'.w=S.w∧Evo S S'∧SRel S' (hl (l++ws.map Iu))∧∀ i,VRel S' (env i) (val i)
 | [],S,l,val,_,hS,hF=>⟨S,rfl,.refl S,by simpa using hS,hF⟩
 | w::ws,S,l,val,hw,hS,hF=>by
   have h1:=hS.virt w (hw w (by simp));rw[D8] at h1;obtain⟨S',e1,e2,e3,e4⟩:=Vk ws (S:=S.virt w) (l:=l++[Iu w]) (fun w' h'=>hw w' (by simp[h'])) h1 (fun j=>VRel.mono (Evo.virt _) _ (hF j));exact⟨S',e1,(Evo.virt _).trans e2,by simpa using e3,e4⟩
theorem zi1 {srcs:List Src} {live:List (Nat × AV)} {heap:List Grp} {S:MS} {val:Nat→Value} (hh:Head b env H srcs live heap) (hbS:b≤S.n) (hS:SRel S H) (hF:∀ i,VRel S (env i) (val i)) :
   ∃ S',S'.w=S.w∧BEvo b S S'∧SRel S' (hl heap)∧∀ i,VRel S' (De live i) (val i):=by
 obtain⟨hb,hh⟩:=hh;have hgn:H.groups.length=H.n:=by simp[Ac.groups]
 have hS1:SRel S (hl H.groups):=hS.congr hgn (fun g hg=>by
   show H.groups.getD g default=_
   simp[Ac.groups,List.getD,hg])
 obtain⟨S2,e1,e2,e3,e4⟩:=Vk (Ey H.n srcs).2 (Jt hh.1) hS1 hF;replace hh:=hh.2;generalize hl1:H.groups++(Ey H.n srcs).2.map Iu=l1 at *;obtain⟨h1,h2,h3,h4⟩:=hh;have hb1:b≤l1.length:=by rw[←hl1,List.length_append];omega
 have hbS2:b≤S2.n:=Nat.le_trans hbS e2.n;obtain⟨k1,k2⟩:=Pp (ks:=(Ey H.n srcs).1) hb1;have hev:=Js (ks:=(Ey H.n srcs).1) e3 hbS2;have hrel:=(Mu (ks:=(Ey H.n srcs).1) 6 e3 hb1 (fun k hk=>Oy h1 k hk) (Ib h2)).congr k1 k2;exact⟨S2.repack b (hl l1) (Ey H.n srcs).1,e1,(e2.down hbS).trans hev,Hj hrel h4,Tj hrel (fun j=>z7u e3 6 (e4 j)) h3⟩
def Drop (b:Nat) (y:AV) (H:Ac) [K:HK]:Prop:=∃ srcs y' heap,Head b (De [(0,y)]) H srcs [(0,y')] heap∧K.f y' (hl heap)
theorem X7 {y:AV} {K:AV→Ac→Prop} (srcs:List Src) (y':AV) (heap:List Grp) (h1:Head b (De [(0,y)]) H srcs [(0,y')] heap) (h2:K y' (hl heap)):@Drop b y H ⟨K⟩:=⟨srcs,y',heap,h1,h2⟩
theorem Px {f:Nat} {xs:List AV} {l:List Grp} {K:AV→Ac→Prop} (h:Be P f xs (hl l) (fun y H'=>@Drop l.length y H' ⟨K⟩)):Be P f xs (hl l) K :=
 ⟨h.1,fun S cargs hS hx=>(h.2 S cargs hS hx).mono fun e w' hh=>by
   obtain⟨v,S1,y,H',he,hw,ev,hS1,hv,srcs,y',heap,h1,h2⟩:=hh;have hn:S.n=l.length:=hS.n
   obtain⟨S2,q1,q2,q3,q4⟩:=zi1 (S:=S1) (val:=fun i=>if i=0 then v else undef) h1 (by rw[←hn];exact ev.n) hS1 (fun i=>by
     show VRel S1 (if i=0 then y else .any) _;split
     · exact hv
     · trivial)
   have hb:=(ev.down (b:=l.length) (by omega)).trans q2
   exact⟨v,S2,y',_,he,q1.trans hw,⟨hb.base,hb.os,hb.tape,hb.output,hb.size,hb.kept,hb.im,hb.keep,hb.fresh,by rw[hn];exact hb.n,fun g hg=>hb.cur g (by omega),fun g hg=>hb.same g (by omega)⟩,q3,q4 0,h2⟩⟩
theorem z4t {f m np b:Nat} {xs:List AV} {l:List Grp} {K:AV→Ac→Prop} {res:List ARes} {B:AC} (hf:Ar P f xs.length=some ⟨m,np,res,B⟩) (hb:b=l.length) (h:W P m b B (entry xs) (hl l) (Ret P res fun y H'=>@Drop b y H' ⟨K⟩)):Be P f xs (hl l) K:=by
 subst hb;exact Px (Pg hf (W_T h))
end
theorem zi2 (env:Env):setL env [] []=env:=rfl
theorem zcd (env:Env) (p:Nat) (ps:List Nat) (x:AV) (r:List AV):setL env (p::ps) (x::r)=setL (env.put (some p) x) ps r:=rfl
attribute [push_cast] zi2 zcd
end Go.Proofs.YtbcjoeadpjfcfaaGreat.Abs
