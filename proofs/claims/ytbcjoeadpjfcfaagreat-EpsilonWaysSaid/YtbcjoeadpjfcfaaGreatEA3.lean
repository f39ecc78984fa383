/-
  Parts of the proof that the law holds whatever the input; without conditions.
-/
import Derived.Below
import Derived.Deep.Slices
import Derived.OpenShut
import Derived.Carry
import Derived.WideShapes
import Derived.ProofKit
import Derived.ChangeOld
import Derived.Test.YtbcjoeadpjfcfaaGreatProg
import Derived.KernelRfl
import Derived.Test.YtbcjoeadpjfcfaaGreatEA2
set_option linter.unusedSimpArgs false
set_option linter.unusedVariables false
namespace Go.Proofs.YtbcjoeadpjfcfaaGreat.Abs
def Grp.dead (G:Grp):Grp:=⟨0,G.ver+1,false,[]⟩
def Ac.kill (H:Ac) (ks:List Nat):Ac:=⟨H.n,fun g=>if g∈ks then (H.at_ g).dead else H.at_ g⟩
def Ac.only (H:Ac) (ks:List Nat):Ac:=⟨H.n,fun g=>if g∈ks then H.at_ g else (H.at_ g).dead⟩
def MS.only (S:MS) (ks:List Nat):MS:={ S with cur:=fun g=>if g∈ks then S.cur g else S.cur g+1,wid:=fun g=>if g∈ks then S.wid g else 0 }
def MS.kill (S:MS) (H:Ac) (ks:List Nat):MS:={ S with
 im:=fun b=>S.im b∨∃ g,g<H.n∧g∈ks∧0<(H.at_ g).w∧0<S.cap g∧b=S.place g
 cur:=fun g=>if g∈ks then S.cur g+1 else S.cur g
 wid:=fun g=>if g∈ks then 0 else S.wid g }
section
variable {S:MS} {H:Ac} (ks:List Nat)
theorem Vu:Evo S (S.only ks):=by
 refine⟨rfl,rfl,rfl,rfl,Nat.le_refl _,fun _ _=>rfl,fun _ h=>h,fun _ h=>h,fun _ h=>.inl h,Nat.le_refl _,fun g _=>?_,fun g _ hc=>?_⟩
 · show S.cur g≤if g∈ks then S.cur g else S.cur g+1
   split<;>omega
 · have hc':(if g∈ks then S.cur g else S.cur g+1)=S.cur g:=hc
   refine⟨rfl,rfl,?_⟩;show (if g∈ks then S.wid g else 0)=S.wid g;by_cases h:g∈ks
   · rw[if_pos h]
   · rw[if_neg h] at hc';omega
theorem z5c {S':MS} {G:Grp} {g:Nat} (h1:S'.cur g=G.ver+1) (h2:S'.wid g=0):GRel S' G.dead g:=⟨h1,h2,fun h=>absurd h (Nat.lt_irrefl _),fun h=>absurd h (Nat.lt_irrefl _),fun h=>absurd h (Nat.lt_irrefl _),fun _ h=>by cases h⟩
theorem z5d {G:Grp} {c:Nat}:¬G.dead.has c:=by
 rintro (⟨h,_⟩|⟨_,h⟩)
 · exact absurd h (Nat.lt_irrefl _)
 · cases h
theorem zgy (h:SRel S H):SRel (S.only ks) (H.only ks) where
 n:=h.n
 grp g hg:=by
   have hG:=h.grp g hg;by_cases hk:g∈ks
   · have e1:(H.only ks).at_ g=H.at_ g:=by show (if g∈ks then _ else _)=_;rw[if_pos hk]
     have e2:(S.only ks).cur g=S.cur g:=by show (if g∈ks then _ else _)=_;rw[if_pos hk]
     have e3:(S.only ks).wid g=S.wid g:=by show (if g∈ks then _ else _)=_;rw[if_pos hk]
     rw[e1];refine⟨e2.trans hG.ver,e3.trans hG.wid,fun hw hc=>?_,hG.len,hG.full,fun hw he=>?_⟩
     · obtain⟨⟨cells,T,vs,a1,a2,a3,a4⟩,b⟩:=hG.live hw hc
       exact⟨⟨cells,T,vs,a1,a2,Ae.mono (Vu ks) _ a3,a4⟩,b⟩
     · obtain⟨⟨es,clock,a1,a2⟩,b⟩:=hG.mlive hw he
       exact⟨⟨es,clock,a1,Ae.mono (Vu ks) _ a2⟩,b⟩
   · have e1:(H.only ks).at_ g=(H.at_ g).dead:=by show (if g∈ks then _ else _)=_;rw[if_neg hk]
     have e2:(S.only ks).cur g=S.cur g+1:=by show (if g∈ks then _ else _)=_;rw[if_neg hk]
     have e3:(S.only ks).wid g=0:=by show (if g∈ks then _ else _)=_;rw[if_neg hk]
     rw[e1];exact z5c (by rw[e2,hG.ver]) e3
 apart g g' hg hg' hne hw hw':=by
   have key:∀ g,((H.only ks).at_ g).has (S.cap g)→(H.at_ g).has (S.cap g):=fun g hw=>by
     have:(if g∈ks then H.at_ g else (H.at_ g).dead).has (S.cap g):=hw;split at this
     · exact this
     · exact absurd this z5d
   exact h.apart g g' hg hg' hne (key g hw) (key g' hw')
 im:=h.im
theorem Gn (h:SRel S H):Evo S (S.kill H ks):=by
 refine⟨rfl,rfl,rfl,rfl,Nat.le_refl _,fun _ _=>rfl,fun _ h=>.inl h,fun _ h=>h,fun b hb=>?_,Nat.le_refl _,fun g _=>?_,fun g _ hc=>?_⟩
 · rcases hb with hb|⟨g,hg,_,hw,hc,rfl⟩
   · exact .inl hb
   · exact .inr fun hk=>((h.grp g hg).live hw hc).2 (.inr hk)
 · show S.cur g≤if g∈ks then S.cur g+1 else S.cur g
   split<;>omega
 · have hc':(if g∈ks then S.cur g+1 else S.cur g)=S.cur g:=hc
   refine⟨rfl,rfl,?_⟩;show (if g∈ks then 0 else S.wid g)=S.wid g;by_cases h:g∈ks
   · rw[if_pos h] at hc';omega
   · rw[if_neg h]
theorem Pg (h:SRel S H):SRel (S.kill H ks) (H.kill ks) where
 n:=h.n
 grp g hg:=by
   have hG:=h.grp g hg;by_cases hk:g∈ks
   · have e1:(H.kill ks).at_ g=(H.at_ g).dead:=by show (if g∈ks then _ else _)=_;rw[if_pos hk]
     have e2:(S.kill H ks).cur g=S.cur g+1:=by show (if g∈ks then _ else _)=_;rw[if_pos hk]
     have e3:(S.kill H ks).wid g=0:=by show (if g∈ks then _ else _)=_;rw[if_pos hk]
     rw[e1];exact z5c (by rw[e2,hG.ver]) e3
   · have e1:(H.kill ks).at_ g=H.at_ g:=by show (if g∈ks then _ else _)=_;rw[if_neg hk]
     have e2:(S.kill H ks).cur g=S.cur g:=by show (if g∈ks then _ else _)=_;rw[if_neg hk]
     have e3:(S.kill H ks).wid g=S.wid g:=by show (if g∈ks then _ else _)=_;rw[if_neg hk]
     rw[e1]
     have hni:(H.at_ g).has (S.cap g)→¬((S.kill H ks).im (S.place g)∨(S.kill H ks).keep (S.place g)):=fun hq=>by
       have b3:=hG.has_ni hq;rintro ((hi|⟨g',hg',hk',hw',hc',he⟩)|hi)
       · exact b3 (.inl hi)
       · exact h.apart g g' hg hg' (fun hgg=>hk (hgg ▸ hk')) hq (.inl ⟨hw',hc'⟩) he
       · exact b3 (.inr hi)
     refine⟨e2.trans hG.ver,e3.trans hG.wid,fun hw hc=>?_,hG.len,hG.full,fun hw he=>?_⟩
     · obtain⟨⟨cells,T,vs,a1,a2,a3,a4⟩,b3⟩:=hG.live hw hc
       exact⟨⟨cells,T,vs,a1,a2,Ae.mono (Gn ks h) _ a3,a4⟩,hni (.inl ⟨hw,hc⟩)⟩
     · obtain⟨⟨es,clock,a1,a2⟩,b3⟩:=hG.mlive hw he
       exact⟨⟨es,clock,a1,Ae.mono (Gn ks h) _ a2⟩,hni (.inr ⟨hw,he⟩)⟩
 apart g g' hg hg' hne hw hw':=by
   have key:∀ g,((H.kill ks).at_ g).has (S.cap g)→(H.at_ g).has (S.cap g):=fun g hw=>by
     have:(if g∈ks then (H.at_ g).dead else H.at_ g).has (S.cap g):=hw;split at this
     · exact absurd this z5d
     · exact this
   exact h.apart g g' hg hg' hne (key g hw) (key g' hw')
 im b hb:=by
   rcases hb with (hb|⟨g,hg,_,hw,hc,rfl⟩)|hb
   · exact h.im b (.inl hb)
   · exact (h.grp g hg).lt hw hc
   · exact h.im b (.inr hb)
theorem Ph (h:SRel S H) (d:Nat) {x:AV} {v:Value} (hok:Cn d (H.only ks) x) (hv:VRel S x v):VRel (S.kill H ks) (frzV d (H.only ks) x) v:=by
 obtain⟨k1,k2⟩:=Ys (zgy ks h) d hok (VRel.mono (Vu ks) _ hv);refine VRel.of_pure (S:=(S.only ks).shut (H.only ks)) (S':=S.kill H ks) rfl (fun b hb=>?_) k2 k1;rcases hb with hb|⟨g,hg,hw,hc,rfl⟩
 · exact .inl hb
 · have hw':0<(if g∈ks then H.at_ g else (H.at_ g).dead).w:=hw
   split at hw'
   · rename_i hk;exact .inr ⟨g,hg,hk,hw',hc,rfl⟩
   · exact absurd hw' (Nat.lt_irrefl _)
theorem Yt (h:SRel S H) (d:Nat):∀ {xs:List AV} {vs:List Value},(∀ y∈xs,Cn d (H.only ks) y)→Ae S xs vs→Ae (S.kill H ks) (xs.map (frzV d (H.only ks))) vs
 | [],_,_,hh=>hh
 | x::xs,vs,hc,hh=>by
   obtain⟨u,r,rfl,h1,h2⟩:=hh;exact⟨u,r,rfl,Ph ks h d (hc x (by simp)) h1,Yt h d (fun y hy=>hc y (by simp[hy])) h2⟩
end
theorem Vv {P:Program} {f:Nat} {xs:List AV} {H:Ac} {K:AV→Ac→Prop} (d:Nat) (ks:List Nat) (hok:∀ x∈xs,Cn d (H.only ks) x) (h:Bi P f (xs.map (frzV d (H.only ks))) (H.kill ks) K):Bi P f xs H K:=by
 refine⟨h.1,fun S cargs hS hx=>(h.2 (S.kill H ks) cargs (Pg ks hS) (Yt ks hS d hok hx)).mono fun e w' hh=>?_⟩;obtain⟨v,S',x,H',rfl,rfl,ev,hS',hv,hK⟩:=hh;exact⟨v,S',x,H',rfl,rfl,(Gn ks hS).trans ev,hS',hv,hK⟩
theorem zmg (G:Grp):G.dead=⟨0,G.ver+1,false,[]⟩:=(rfl)
theorem zr0 (H:Ac) (ks:List Nat):(H.kill ks).n=H.n:=(rfl)
theorem zr1 (H:Ac) (ks:List Nat):(H.only ks).n=H.n:=(rfl)
attribute [push_cast] zbm z8o zgx zbk zbl z8m z8n z8p z8q zbn z28 z29 z30 z31 z32 z33 zr0 zr1 zmg
attribute [push_cast] List.map_cons List.map_nil List.drop_zero List.drop_succ_cons List.take_succ_cons List.take_zero List.drop_nil List.take_nil List.length_cons List.length_nil List.getD_cons_zero List.getD_cons_succ List.set_cons_zero List.set_cons_succ Option.getD_some Option.getD_none List.length_set List.append_assoc List.nil_append List.append_nil List.cons_append List.getElem?_cons_zero List.getElem?_cons_succ List.forall_mem_cons List.not_mem_nil List.length_map Bool.false_eq_true Bool.true_eq_false false_implies true_implies forall_const true_and and_true false_and and_false cond_true cond_false Bool.not_true Bool.not_false decide_eq_true_eq decide_eq_false_iff_not not_false_eq_true not_true_eq_false imp_false Nat.lt_irrefl Nat.le_refl Nat.zero_add Nat.add_zero Nat.zero_lt_succ Nat.lt_add_one implies_true decide_true decide_false Bool.not_eq_true Bool.not_eq_false Bool.not_eq_true' Bool.not_eq_false' eq_self Bool.and_self Bool.and_true Bool.true_and Bool.and_false Bool.false_and Bool.or_true Bool.true_or Bool.or_false Bool.false_or ne_eq Int.natCast_nonneg Int.toNat_natCast or_self true_or or_true false_or or_false and_self Int.cast_ofNat_Int if_true if_false
open Go.RowKit
def MS.start (w:World):MS:=⟨w,fun b=>b<w.heap.size,fun _=>False,0,fun _=>0,fun _=>0,fun _=>0,fun _=>0,0⟩
theorem zbq (w:World):SRel (MS.start w) Ac.nil :=
 ⟨rfl,fun g hg=>absurd hg (Nat.not_lt_zero _),fun g _ hg=>absurd hg (Nat.not_lt_zero _),fun b hb=>hb.elim id False.elim⟩
theorem PC.below {P:Program} {f:Nat} {xs:List AV} {b:Bool} (h:PC P f xs (.bool b)) {w:World} {cargs:List Value} (hx:Ae (MS.start w) xs cargs) :
   Calls P f cargs.toArray w fun e w'=>e=.returned (.bool b)∧Below w.heap.size w w':=by
 refine (h.2 (MS.start w) cargs (zbq w) hx).mono fun e w' hh=>?_;obtain⟨v,S',x,H',rfl,rfl,ev,_,hv,rfl,_⟩:=hh;have hv':v=.bool b:=hv;subst hv';exact⟨rfl,ev.os,ev.tape,ev.output,ev.size,fun k hk=>ev.kept k (.inl hk)⟩
theorem z8r {w:World} {a:Addr} {v:Value} (h:w.cell? a=some v):a.block<w.heap.size:=by
 unfold World.cell? at h;split at h
 · rename_i hb;exact (Array.getElem?_eq_some_iff.1 hb).1
 · cases h
class HK where
 f:AV→Ac→Prop
class HQ where
 f:AV→Prop
class HP where
 p:Prop
class HY where
 y:AV
def Vw (P:Program) (f:Nat) (xs:List AV) (H:Ac) [K:HK]:Prop:=Bi P f xs H K.f
def zgz (P:Program) (f:Nat) (xs:List AV) (H:Ac) [K:HQ]:Prop:=∃ y,Bi P f xs H (fun z H'=>z=y∧H'=H)∧K.f y
def Kj [L:HP]:Prop:=L.p
def opK (P:Program):AK→Ac→List AV→[HK]→Prop
 | .call,H,.fn f caps::xs,K=>Vw P f (xs++caps) H
 | k,H,xs,K=>Af P k H xs K.f
def opQ (P:Program):AK→Ac→List AV→[HQ]→Prop
 | .call,H,.fn f caps::xs,K=>zgz P f (xs++caps) H
 | .bslice w len z idx,H,xs,K=>G4 w len idx xs∧0<w∧Aw (D3 idx xs (List.replicate len z))=true∧K.f (.full w (D3 idx xs (List.replicate len z)))
 | k,H,xs,K=>k.still=true∧Af P k H xs fun x _=>K.f x
def Ej (x:AV) (w:Bool) [p:HP] [q:HP] [r:HP]:Prop:=F7 x w p.p q.p r.p
def wk (P:Program):List AOp→Env→Ac→(Env→Ac→Prop)→Prop
 | [],env,H,K=>K env H
 | ⟨dst,args,none,k⟩::l,env,H,K=>@opK P k H (args.map (·.eval env)) ⟨fun x H'=>wk P l (env.put dst x) H' K⟩
 | ⟨dst,args,some (d,want),k⟩::l,env,H,K=>@Ej (env d) want
     ⟨@opK P k H (args.map (·.eval (env.put (some d) (.bool want)))) ⟨fun x H'=>wk P l ((env.put (some d) (.bool want)).put dst x) H' K⟩⟩
     ⟨wk P l ((env.put (some d) (.bool (!want))).put dst (.tup [])) H K⟩ ⟨wk P l (env.put dst (.tup [])) H K⟩
def qk (P:Program) (H:Ac):List AOp→Env→(Env→Prop)→Prop
 | [],env,K=>K env
 | ⟨dst,args,none,k⟩::l,env,K=>@opQ P k H (args.map (·.eval env)) ⟨fun x=>qk P H l (env.put dst x) K⟩
 | ⟨dst,args,some (d,want),k⟩::l,env,K=>@Ej (env d) want
     ⟨@opQ P k H (args.map (·.eval (env.put (some d) (.bool want)))) ⟨fun x=>qk P H l ((env.put (some d) (.bool want)).put dst x) K⟩⟩
     ⟨qk P H l ((env.put (some d) (.bool (!want))).put dst (.tup [])) K⟩ ⟨qk P H l (env.put dst (.tup [])) K⟩
class HG where
 f:AV→List Grp→Prop
def zh0 (P:Program) (f:Nat) (xs:List AV) (l:List Grp) [K:HG]:Prop:=∃ y,(∀ H,Bi P f xs H fun z H'=>z=y∧H'=H)∧K.f y l
def opG (P:Program):AK→List Grp→List AV→[HG]→Prop
 | .call,l,.fn f caps::xs,K=>zh0 P f (xs++caps) l
 | .bslice w len z idx,l,xs,K=>G4 w len idx xs∧0<w∧Aw (D3 idx xs (List.replicate len z))=true∧K.f (.full w (D3 idx xs (List.replicate len z))) l
 | k,l,xs,K=>(k.still=true∧Bj (·<l.length) xs∧Af P k (hl l) xs fun x _=>K.f x l)∨(k.still=false∧k.eff.isSome=true∧k.appOk=true∧Vi k xs∧Af P k (hl l) xs fun x H'=>∀ l',H'=hl l'→K.f x l')
def gk (P:Program):List AOp→Env→List Grp→(Env→List Grp→Prop)→Prop
 | [],env,l,K=>K env l
 | ⟨dst,args,none,k⟩::r,env,l,K=>@opG P k l (args.map (·.eval env)) ⟨fun x l'=>gk P r (env.put dst x) l' K⟩
 | ⟨dst,args,some (d,want),k⟩::r,env,l,K=>@Ej (env d) want
     ⟨@opG P k l (args.map (·.eval (env.put (some d) (.bool want)))) ⟨fun x l'=>gk P r ((env.put (some d) (.bool want)).put dst x) l' K⟩⟩
     ⟨gk P r ((env.put (some d) (.bool (!want))).put dst (.tup [])) l K⟩ ⟨gk P r (env.put dst (.tup [])) l K⟩
def z1u (x:AV) [p:HP] [q:HP]:Prop:=z1t x p.p q.p
def W (P:Program) (n b:Nat):AC→Env→Ac→(Ex→Env→Ac→Prop)→Prop
 | .skip,env,H,Q=>Q .normal env H
 | .reg ops,env,H,Q=>wk P ops env H fun env' H'=>Q .normal env' H'
 | .dreg ops,env,H,Q=>qk P H ops env fun env'=>Q .normal env' H
 | .dtl pre post,env,H,Q=>qk P H pre env fun env'=>wk P post env' H fun env' H'=>Q .normal env' H'
 | .greg ops,env,H,Q=>∃ l,H=hl l∧gk P ops env l fun env' l'=>Q .normal env' (hl l')
 | .grx fl ops,env,H,Q=>@Kj ⟨T P n b (.grx fl ops) env H Q⟩
 | .gry fl ops,env,H,Q=>@Kj ⟨T P n b (.gry fl ops) env H Q⟩
 | .seq x y,env,H,Q=>W P n b x env H (Ex.then (fun env' H'=>W P n b y env' H' Q) Q)
 | .cond c x y,env,H,Q=>@z1u (c.eval env) ⟨W P n b x env H Q⟩ ⟨W P n b y env H Q⟩
 | .block id c,env,H,Q=>W P n b c env H (Ex.inBlock id Q)
 | .loop c,env,H,Q=>@Kj ⟨T P n b (.loop c) env H Q⟩
 | .rng f ps a c,env,H,Q=>@Kj ⟨T P n b (.rng f ps a c) env H Q⟩
 | .exit id,env,H,Q=>Q (.exit id) env H
 | .ret,env,H,Q=>Q .ret env H
section
variable {P:Program} {n b:Nat} {env:Env} {H:Ac} {Q:Ex→Env→Ac→Prop} {K:Env→Ac→Prop}
theorem z5e (P:Program) (k:AK) (H:Ac) (xs:List AV) (K:AV→Ac→Prop):@opK P k H xs ⟨K⟩=Af P k H xs K:=by
 unfold opK;split<;>rfl
theorem zkx (P:Program) (k:AK) (H:Ac) (xs:List AV) (K:AV→Prop):@opQ P k H xs ⟨K⟩=Yd P k H xs K:=by
 unfold opQ Yd;split
 · rfl
 · rfl
 · rename_i h1 h2
   split
   · rename_i f caps ys;exact absurd rfl (h2 f caps ys rfl)
   · rename_i w len z idx;exact absurd rfl (h1 w len z idx)
   · rfl
theorem Sp (P:Program):∀ (l:List AOp) (env:Env) (H:Ac) (K:Env→Ac→Prop),wk P l env H K=runK P l env H K
 | [],_,_,_=>rfl
 | ⟨dst,args,none,k⟩::l,env,H,K=>by
   have h:(fun x H'=>wk P l (env.put dst x) H' K)=fun x H'=>runK P l (env.put dst x) H' K:=funext fun x=>funext fun H'=>Sp P l _ H' K;show @opK P k H (args.map (·.eval env)) ⟨_⟩=_;rw[h,z5e];rfl
 | ⟨dst,args,some (d,want),k⟩::l,env,H,K=>by
   have h:∀ env:Env,(fun x H'=>wk P l (env.put dst x) H' K)=fun x H'=>runK P l (env.put dst x) H' K:=fun env=>funext fun x=>funext fun H'=>Sp P l _ H' K;show @Ej (env d) want ⟨@opK P k H _ ⟨_⟩⟩ ⟨_⟩ ⟨_⟩=_;rw[h,z5e,Sp,Sp];rfl
theorem z8s (P:Program) (H:Ac):∀ (l:List AOp) (env:Env) (K:Env→Prop),qk P H l env K=runQ P H l env K
 | [],_,_=>rfl
 | ⟨dst,args,none,k⟩::l,env,K=>by
   have h:(fun x=>qk P H l (env.put dst x) K)=fun x=>runQ P H l (env.put dst x) K:=funext fun x=>z8s P H l _ K;show @opQ P k H (args.map (·.eval env)) ⟨_⟩=_;rw[h,zkx];rfl
 | ⟨dst,args,some (d,want),k⟩::l,env,K=>by
   have h:∀ env:Env,(fun x=>qk P H l (env.put dst x) K)=fun x=>runQ P H l (env.put dst x) K:=fun env=>funext fun x=>z8s P H l _ K;show @Ej (env d) want ⟨@opQ P k H _ ⟨_⟩⟩ ⟨_⟩ ⟨_⟩=_;rw[h,zkx,z8s,z8s];rfl
theorem zbr {k:AK} (h:k.still=true):k.eff=none:=by
 cases k<;>first|rfl|(simp[AK.still] at h)
theorem M4 {k:AK} {l:List Grp} {xs:List AV} {K:AV→List Grp→Prop} (h:@opG P k l xs ⟨K⟩):if k.eff.isNone then ∃ x,QG P k l xs x∧K x l else ∃ x l',Af P k (hl l) xs (fun y H'=>y=x∧H'=hl l')∧Comm P k l l'∧K x l':=by
 unfold opG at h;split at h
 · obtain⟨y,h1,h2⟩:=h
   exact⟨y,.inl ⟨_,_,_,rfl,rfl,h1⟩,h2⟩
 · exact⟨_,.inr (.inl ⟨_,_,_,_,rfl,h.1,h.2.1,h.2.2.1,rfl⟩),h.2.2.2⟩
 · rcases h with⟨h1,h2,h3⟩|⟨_,h2,ha,ho,h3⟩
   · rw[zbr h1]
     obtain⟨x,h4,h5⟩:=Py h1 h3;refine⟨x,.inr (.inr ⟨h1,h2,?_⟩),h5⟩;exact still_mono h1 (fun _ _ hh=>hh.1) h4
   · obtain⟨e,he⟩:=Option.isSome_iff_exists.1 h2
     rw[if_neg (by rw[he];simp)];obtain⟨x,l',b1,b2,b3⟩:=zmd he ha ho h3;exact⟨x,l',b1,b3,b2 l' rfl⟩
theorem La {x:AV} {w:Bool} {p q r p' q' r':Prop} (hp:p→p') (hq:q→q') (hr:r→r') (h:F7 x w p q r):F7 x w p' q' r':=by
 unfold F7 at h ⊢;split at h<;>first|exact hp h|exact hq h|exact hr h|exact h.elim
theorem P5 (P:Program):∀ (L:List AOp) (env:Env) (l:List Grp) {K:Env→List Grp→Prop},gk P L env l K→runG P L env l K
 | [],_,_,_,h=>h
 | ⟨dst,args,none,k⟩::r,env,l,K,h=>by
   have h':@opG P k l (args.map (·.eval env)) ⟨fun x l'=>gk P r (env.put dst x) l' K⟩:=h;have:=M4 h';simp only[runG,F8,AOp.vals,if_true];split at this
   · rename_i he
     rw[if_pos he];obtain⟨x,h1,h2⟩:=this;exact⟨x,h1,P5 P r _ _ h2⟩
   · rename_i he
     rw[if_neg he];obtain⟨x,l',b1,b2,b3⟩:=this;exact⟨x,l',b1,b2,P5 P r _ _ b3⟩
 | ⟨dst,args,some (d,want),k⟩::r,env,l,K,h=>by
   have h':F7 (env d) want (@opG P k l (args.map (·.eval (env.put (some d) (.bool want)))) ⟨fun x l'=>gk P r ((env.put (some d) (.bool want)).put dst x) l' K⟩)
     (gk P r ((env.put (some d) (.bool (!want))).put dst (.tup [])) l K) (gk P r (env.put dst (.tup [])) l K):=h
   simp only[runG,F8,AOp.vals,if_true,Bool.false_eq_true,if_false];refine La (fun h1=>?_) (fun h1=>P5 P r _ _ h1) (fun h1=>P5 P r _ _ h1) h';have:=M4 h1;split at this
   · rename_i he
     obtain⟨x,h1,h2⟩:=this;rw[if_pos he];exact⟨x,h1,P5 P r _ _ h2⟩
   · rename_i he
     rw[if_neg he];obtain⟨x,l',b1,b2,b3⟩:=this;exact⟨x,l',b1,b2,P5 P r _ _ b3⟩
theorem zky {l l':List Grp} (h:hl l=hl l'):l=l':=by
 have h1:l.length=l'.length:=congrArg Ac.n h;refine List.ext_getElem h1 fun i hi hi'=>?_;have h2:(hl l).at_ i=(hl l').at_ i:=by rw[h]
 rw[Ck,Ck] at h2;simpa [List.getD,hi,hi'] using h2
theorem W_T:∀ {c:AC} {env:Env} {H:Ac} {Q:Ex→Env→Ac→Prop},W P n b c env H Q→T P n b c env H Q
 | .skip,_,_,_,h=>zqt h
 | .reg ops,env,H,Q,h=>T_reg (by have h':wk P ops env H _:=h;rwa [Sp] at h')
 | .dreg ops,env,H,Q,h=>zqu (by have h':qk P H ops env _:=h;rwa [z8s] at h')
 | .dtl pre post,env,H,Q,h=>T_dtl (by
   have h':qk P H pre env _:=h;rw[z8s] at h';have e:(fun env'=>wk P post env' H fun env' H'=>Q .normal env' H')=fun env'=>runK P post env' H fun env' H'=>Q .normal env' H':=funext fun env'=>Sp P post env' H _
   rwa [e] at h')
 | .greg ops,env,H,Q,h=>by
   obtain⟨l,rfl,h'⟩:=h;exact zqv (P5 P ops env l h')
 | .grx ..,_,_,_,h=>h
 | .gry ..,_,_,_,h=>h
 | .seq x y,_,_,_,h=>zgt (T.mono (W_T (c:=x) h) fun z env H hh=>by cases z<;>first|exact W_T (c:=y) hh|exact hh)
 | .cond c x y,env,H,Q,h=>by
   have h':z1t (c.eval env) (W P n b x env H Q) (W P n b y env H Q):=h;unfold z1t at h';split at h'
   · rename_i q hq;exact zqx hq (fun hb=>W_T (h'.1 hb)) (fun hb=>W_T (h'.2 hb))
   · exact h'.elim
 | .block id c,_,_,_,h=>zmf (W_T (c:=c) h)
 | .loop c,_,_,_,h=>h
 | .rng ..,_,_,_,h=>h
 | .exit id,_,_,_,h=>zqy h
 | .ret,_,_,_,h=>T_ret h
end
section
variable {P:Program} {n b:Nat} {env:Env} {H:Ac} {Q:Ex→Env→Ac→Prop} {K:Env→Ac→Prop}
theorem z1:W P n b .skip env H Q=Q .normal env H:=(rfl)
theorem z2 {ops:List AOp}:W P n b (.reg ops) env H Q=wk P ops env H fun env' H'=>Q .normal env' H':=(rfl)
theorem z3 {ops:List AOp}:W P n b (.dreg ops) env H Q=qk P H ops env fun env'=>Q .normal env' H:=(rfl)
theorem z4 {pre post:List AOp}:W P n b (.dtl pre post) env H Q=qk P H pre env fun env'=>wk P post env' H fun env' H'=>Q .normal env' H':=(rfl)
theorem z5 {ops:List AOp} {l:List Grp}:W P n b (.greg ops) env (hl l) Q=gk P ops env l fun env' l'=>Q .normal env' (hl l') :=
 propext ⟨fun⟨l',h1,h2⟩=>by rw[←zky h1] at h2;exact h2,fun h=>⟨l,rfl,h⟩⟩
theorem z18 {l:List Grp} {K:Env→List Grp→Prop}:gk P [] env l K=K env l:=(rfl)
theorem z19 {l:List Grp} {K:Env→List Grp→Prop} {dst:Option Nat} {args:List AArg} {k:AK} {r:List AOp}:gk P (⟨dst,args,none,k⟩::r) env l K=@opG P k l (args.map (·.eval env)) ⟨fun x l'=>gk P r (env.put dst x) l' K⟩:=(rfl)
theorem z20 {l:List Grp} {K:Env→List Grp→Prop} {dst:Option Nat} {args:List AArg} {k:AK} {r:List AOp} {d:Nat} {want:Bool}:gk P (⟨dst,args,some (d,want),k⟩::r) env l K=@Ej (env d) want
     ⟨@opG P k l (args.map (·.eval (env.put (some d) (.bool want)))) ⟨fun x l'=>gk P r ((env.put (some d) (.bool want)).put dst x) l' K⟩⟩
     ⟨gk P r ((env.put (some d) (.bool (!want))).put dst (.tup [])) l K⟩ ⟨gk P r (env.put dst (.tup [])) l K⟩:=(rfl)
theorem z6 {x y:AC}:W P n b (.seq x y) env H Q=W P n b x env H (Ex.then (fun env' H'=>W P n b y env' H' Q) Q):=(rfl)
theorem z7 {c:AArg} {x y:AC}:W P n b (.cond c x y) env H Q=@z1u (c.eval env) ⟨W P n b x env H Q⟩ ⟨W P n b y env H Q⟩:=(rfl)
theorem z8 {id:Nat} {c:AC}:W P n b (.block id c) env H Q=W P n b c env H (Ex.inBlock id Q):=(rfl)
theorem z9 {c:AC}:W P n b (.loop c) env H Q=@Kj ⟨T P n b (.loop c) env H Q⟩:=(rfl)
theorem z34 {f:AArg} {ps:List Nat} {a c:AC}:W P n b (.rng f ps a c) env H Q=@Kj ⟨T P n b (.rng f ps a c) env H Q⟩:=(rfl)
theorem z35 {fl:List Bool} {ops:List AOp}:W P n b (.grx fl ops) env H Q=@Kj ⟨T P n b (.grx fl ops) env H Q⟩:=(rfl)
theorem z36 {fl:List Bool} {ops:List AOp}:W P n b (.gry fl ops) env H Q=@Kj ⟨T P n b (.gry fl ops) env H Q⟩:=(rfl)
theorem z10 {id:Nat}:W P n b (.exit id) env H Q=Q (.exit id) env H:=(rfl)
theorem z11:W P n b .ret env H Q=Q .ret env H:=(rfl)
theorem z12:wk P [] env H K=K env H:=(rfl)
theorem z13 {dst:Option Nat} {args:List AArg} {k:AK} {l:List AOp}:wk P (⟨dst,args,none,k⟩::l) env H K=@opK P k H (args.map (·.eval env)) ⟨fun x H'=>wk P l (env.put dst x) H' K⟩:=(rfl)
theorem z14 {dst:Option Nat} {args:List AArg} {k:AK} {l:List AOp} {d:Nat} {want:Bool}:wk P (⟨dst,args,some (d,want),k⟩::l) env H K=@Ej (env d) want
     ⟨@opK P k H (args.map (·.eval (env.put (some d) (.bool want)))) ⟨fun x H'=>wk P l ((env.put (some d) (.bool want)).put dst x) H' K⟩⟩
     ⟨wk P l ((env.put (some d) (.bool (!want))).put dst (.tup [])) H K⟩ ⟨wk P l (env.put dst (.tup [])) H K⟩:=(rfl)
theorem z15 {K:Env→Prop}:qk P H [] env K=K env:=(rfl)
theorem z16 {K:Env→Prop} {dst:Option Nat} {args:List AArg} {k:AK} {l:List AOp}:qk P H (⟨dst,args,none,k⟩::l) env K=@opQ P k H (args.map (·.eval env)) ⟨fun x=>qk P H l (env.put dst x) K⟩:=(rfl)
theorem z17 {K:Env→Prop} {dst:Option Nat} {args:List AArg} {k:AK} {l:List AOp} {d:Nat} {want:Bool}:qk P H (⟨dst,args,some (d,want),k⟩::l) env K=@Ej (env d) want
     ⟨@opQ P k H (args.map (·.eval (env.put (some d) (.bool want)))) ⟨fun x=>qk P H l ((env.put (some d) (.bool want)).put dst x) K⟩⟩
     ⟨qk P H l ((env.put (some d) (.bool (!want))).put dst (.tup [])) K⟩ ⟨qk P H l (env.put dst (.tup [])) K⟩:=(rfl)
theorem z21 {p q r:Prop}:@Ej (.bool true) true ⟨p⟩ ⟨q⟩ ⟨r⟩=p:=(rfl)
theorem z22 {p q r:Prop}:@Ej (.bool false) false ⟨p⟩ ⟨q⟩ ⟨r⟩=p:=(rfl)
theorem z23 {p q r:Prop}:@Ej (.bool true) false ⟨p⟩ ⟨q⟩ ⟨r⟩=q:=(rfl)
theorem z24 {p q r:Prop}:@Ej (.bool false) true ⟨p⟩ ⟨q⟩ ⟨r⟩=q:=(rfl)
theorem z25 {w:Bool} {p q r:Prop}:@Ej (.tup []) w ⟨p⟩ ⟨q⟩ ⟨r⟩=r:=by cases w<;>rfl
theorem Aa {b w:Bool} {p q r:Prop} (hp:b=w→p) (hq:b=(!w)→q):@Ej (.bool b) w ⟨p⟩ ⟨q⟩ ⟨r⟩:=Yc hp hq
theorem z26 {p q:Prop}:@z1u (.bool true) ⟨p⟩ ⟨q⟩=p:=by simp[z1u,z1t]
theorem z27 {p q:Prop}:@z1u (.bool false) ⟨p⟩ ⟨q⟩=q:=by simp[z1u,z1t]
theorem Ab {b:Bool} {p q:Prop} (hp:b=true→p) (hq:b=false→q):@z1u (.bool b) ⟨p⟩ ⟨q⟩:=⟨hp,hq⟩
end
theorem P6 {P:Program} {env:Env} {H:Ac}:∀ {res:List ARes} {K K':List AV→Prop},(∀ xs,K xs→K' xs)→resK P res env H K→resK P res env H K'
 | [],_,_,hk,h=>hk _ h
 | .slot t::l,_,_,hk,h=>P6 (res:=l) (fun xs hh=>hk _ hh) h
 | .cell t a s::l,_,_,hk,h=>still_mono (k:=.load a s) rfl (fun x _ hh=>P6 (res:=l) (fun xs hh=>hk _ hh) hh) h
theorem z5f {P:Program} {res:List ARes} {K K':AV→Ac→Prop} (hk:∀ z H,K z H→K' z H) {x:Ex} {env:Env} {H:Ac} (h:Ret P res K x env H):Ret P res K' x env H:=⟨h.1,P6 (fun xs hh=>hk _ _ hh) h.2⟩
def nx (x:AV) (H:Ac) [K:HK]:Prop:=K.f x H
theorem zmh (x:AV) (H:Ac) (f:AV→Ac→Prop):@nx x H ⟨f⟩=f x H:=(rfl)
class HF (α:Type) where
 f:α→Prop
def optN {α:Type} (o:Option α) [F:HF α]:Prop:=optK o F.f
theorem zbs {α:Type} (x:α) (f:α→Prop):@optN α (some x) ⟨f⟩=f x:=(rfl)
def ifN (c:Bool) [p:HP] [q:HP]:Prop:=match c with
 | false=>p.p
 | true=>q.p
theorem zh1 {p q:Prop}:@ifN true ⟨p⟩ ⟨q⟩=q:=(rfl)
theorem zbt {p q:Prop}:@ifN false ⟨p⟩ ⟨q⟩=p:=(rfl)
def appN (w bytes:Nat) (s:AV) (news:List AV) (H:Ac) [K:HK]:Prop:=K3 w bytes s news H K.f
def slcN (w:Nat) (x:AV) (lo hi mx:Option Int) (H:Ac) [K:HK]:Prop:=Fj w x lo hi mx H fun y=>K.f y H
def nq (x:AV) [K:HQ]:Prop:=K.f x
theorem zmi (x:AV) (f:AV→Prop):@nq x ⟨f⟩=f x:=(rfl)
section
variable {P:Program} {H:Ac} {K:AV→Ac→Prop} {k:IntKind} {a b c:Int} {x y z:AV} {xs ys cs:List AV} {w s o i g v off len n:Nat} {p q r:Bool}
theorem K_mv:@opK P .mv H [x] ⟨K⟩=@nx x H ⟨K⟩:=(rfl)
theorem zr2:@opK P .pick H [.bool p,x,y] ⟨K⟩=@nx (bif p then x else y) H ⟨K⟩:=(rfl)
theorem zmj:@opK P (.alloc z w) H [] ⟨K⟩=@nx (.ptr H.n 1 0 0) (H.push ⟨w,1,true,[z]⟩) ⟨K⟩:=(rfl)
theorem K_box:@opK P .box H [x] ⟨K⟩=(Eo x.cells=true∧0<x.cells.length∧@nx (.ptr H.n 1 0 0) (H.push ⟨x.cells.length,1,true,[x]⟩) ⟨K⟩):=(rfl)
theorem zmk {zs:List AV} {pl:List (Nat × Nat)} {idx:List Nat}:@opK P (.build zs pl idx) H xs ⟨K⟩=@optN _ (Vh pl idx xs zs) ⟨fun cs=>@nx (.agg cs) H ⟨K⟩⟩:=(rfl)
theorem zh2 {idx:List Nat}:@opK P (.bslice w len z idx) H xs ⟨K⟩=(G4 w len idx xs∧@nx (.ref H.n 1 0 len) (H.push ⟨w,1,true,D3 idx xs (List.replicate len z)⟩) ⟨K⟩):=(rfl)
theorem zh3:@opK P (.load p s) H [.cptr x] ⟨K⟩=(x.isAny=false∧x.cells.length=s∧(p=false→s=1)∧@nx (Ca p 0 s x) H ⟨K⟩):=(rfl)
theorem zh4:@opK P (.load p s) H [.ptr g v i o] ⟨K⟩=((H.at_ g).ver=v∧i<(H.at_ g).xs.length∧((H.at_ g).xs.getD i .any).isAny=false∧((H.at_ g).xs.getD i .any).cells.length=(H.at_ g).w∧0<s∧o+s≤(H.at_ g).w ∧
     (p=false→s=1)∧@nx (Ca p o s ((H.at_ g).xs.getD i .any)) H ⟨K⟩):=(rfl)
theorem zml:@opK P (.store s) H [.ptr g v i o,x] ⟨K⟩=((H.at_ g).ver=v∧i<(H.at_ g).xs.length∧0<s∧o+s≤(H.at_ g).w∧x.cells.length=s∧Eo x.cells=true ∧
     (s=(H.at_ g).w∨((H.at_ g).xs.getD i .any).isAny=false∧((H.at_ g).xs.getD i .any).cells.length=(H.at_ g).w) ∧
     @nx .any (H.set g ⟨(H.at_ g).w,v,(H.at_ g).exact,(H.at_ g).xs.set i (K2 (H.at_ g).w o s ((H.at_ g).xs.getD i .any) x)⟩) ⟨K⟩):=(rfl)
theorem zr3:@opK P .nilCheck H [.cptr x] ⟨K⟩=@nx (.cptr x) H ⟨K⟩:=(rfl)
theorem zr4:@opK P .nilCheck H [.ptr g v i o] ⟨K⟩=@nx (.ptr g v i o) H ⟨K⟩:=(rfl)
theorem zr5 {f:Nat}:@opK P .nilCheck H [.fn f xs] ⟨K⟩=@nx (.fn f xs) H ⟨K⟩:=(rfl)
theorem K_add:@opK P (.bin .add) H [.int k a,.int k b] ⟨K⟩=@nx (.int k (k.wrap (a+b))) H ⟨K⟩:=by simp[opK,Af,binI,nx]
theorem K_sub:@opK P (.bin .sub) H [.int k a,.int k b] ⟨K⟩=@nx (.int k (k.wrap (a-b))) H ⟨K⟩:=by simp[opK,Af,binI,nx]
theorem K_mul:@opK P (.bin .mul) H [.int k a,.int k b] ⟨K⟩=@nx (.int k (k.wrap (a * b))) H ⟨K⟩:=by simp[opK,Af,binI,nx]
theorem K_quo:@opK P (.bin .quo) H [.int k a,.int k b] ⟨K⟩=(b≠0∧@nx (.int k (k.wrap (a.tdiv b))) H ⟨K⟩):=by simp[opK,Af,binI,nx]
theorem K_rem:@opK P (.bin .rem) H [.int k a,.int k b] ⟨K⟩=(b≠0∧@nx (.int k (a.tmod b)) H ⟨K⟩):=by simp[opK,Af,binI,nx]
theorem K_and:@opK P (.bin .and) H [.int k a,.int k b] ⟨K⟩=@nx (.int k (Kg .and k a b)) H ⟨K⟩:=by simp[opK,Af,binI,nx]
theorem K_or:@opK P (.bin .or) H [.int k a,.int k b] ⟨K⟩=@nx (.int k (Kg .or k a b)) H ⟨K⟩:=by simp[opK,Af,binI,nx]
theorem K_xor:@opK P (.bin .xor) H [.int k a,.int k b] ⟨K⟩=@nx (.int k (Kg .xor k a b)) H ⟨K⟩:=by simp[opK,Af,binI,nx]
theorem zh5:@opK P (.bin .andNot) H [.int k a,.int k b] ⟨K⟩=@nx (.int k (Kg .andNot k a b)) H ⟨K⟩:=by simp[opK,Af,binI,nx]
theorem K_shl {k':IntKind}:@opK P (.bin .shl) H [.int k a,.int k' b] ⟨K⟩=(0≤b∧@nx (.int k (k.wrap (a * 2 ^ (Min.min b.toNat k.bits)))) H ⟨K⟩):=(rfl)
theorem K_shr {k':IntKind}:@opK P (.bin .shr) H [.int k a,.int k' b] ⟨K⟩=(0≤b∧@nx (.int k (a.fdiv (2 ^ (Min.min b.toNat k.bits)))) H ⟨K⟩):=(rfl)
theorem K_eql:@opK P (.bin .eql) H [.int k a,.int k b] ⟨K⟩=@nx (.bool (decide (a=b))) H ⟨K⟩:=by simp[opK,Af,binI,nx]
theorem K_neq:@opK P (.bin .neq) H [.int k a,.int k b] ⟨K⟩=@nx (.bool (!decide (a=b))) H ⟨K⟩:=by simp[opK,Af,binI,nx]
theorem K_lss:@opK P (.bin .lss) H [.int k a,.int k b] ⟨K⟩=@nx (.bool (decide (a<b))) H ⟨K⟩:=by simp[opK,Af,binI,nx]
theorem K_leq:@opK P (.bin .leq) H [.int k a,.int k b] ⟨K⟩=@nx (.bool (decide (a≤b))) H ⟨K⟩:=by simp[opK,Af,binI,nx]
theorem K_gtr:@opK P (.bin .gtr) H [.int k a,.int k b] ⟨K⟩=@nx (.bool (decide (b<a))) H ⟨K⟩:=by simp[opK,Af,binI,nx]
theorem K_geq:@opK P (.bin .geq) H [.int k a,.int k b] ⟨K⟩=@nx (.bool (decide (b≤a))) H ⟨K⟩:=by simp[opK,Af,binI,nx]
theorem zr6 {s t:List UInt8}:@opK P (.bin .eql) H [.str s,.str t] ⟨K⟩=@nx (.bool (decide (s=t))) H ⟨K⟩:=(rfl)
theorem zr7 {s t:List UInt8}:@opK P (.bin .neq) H [.str s,.str t] ⟨K⟩=@nx (.bool (!decide (s=t))) H ⟨K⟩:=(rfl)
theorem K_eqb:@opK P (.eqb p) H [.bool q,.bool r] ⟨K⟩=@nx (.bool (if p then !(q == r) else q == r)) H ⟨K⟩:=(rfl)
theorem K_eqs {ks:List Nat}:@opK P (.eqs p ks) H [.agg xs,.agg ys] ⟨K⟩=@optN _ (eqL ks xs ys) ⟨fun b=>@nx (.bool (if p then !b else b)) H ⟨K⟩⟩:=(rfl)
theorem zbu:@opK P (.eqn p) H [.nilS,.nilS] ⟨K⟩=@nx (.bool (!p)) H ⟨K⟩:=(rfl)
theorem zbv:@opK P (.eqn p) H [.lst w xs,.nilS] ⟨K⟩=(xs≠[]∧@nx (.bool p) H ⟨K⟩):=(rfl)
theorem zbw:@opK P (.eqn p) H [.ref g v off len,.nilS] ⟨K⟩=(0<len∧@nx (.bool p) H ⟨K⟩):=(rfl)
theorem K_not:@opK P (.un .not) H [.bool p] ⟨K⟩=@nx (.bool (!p)) H ⟨K⟩:=(rfl)
theorem K_neg:@opK P (.un .neg) H [.int k a] ⟨K⟩=@nx (.int k (k.wrap (0-a))) H ⟨K⟩:=(rfl)
theorem zr8 {k':IntKind}:@opK P (.conv k) H [.int k' a] ⟨K⟩=@nx (.int k (k.wrap a)) H ⟨K⟩:=(rfl)
theorem zmm:@opK P .toStr H [x] ⟨K⟩=(Gs H 1 x∧(match x with|.str _=>False|_=>True)∧∃ bs:List UInt8,Gr H x=some (bs.map fun b=>.int .u8 b.toNat)∧@nx (.str bs) H ⟨K⟩):=(rfl)
theorem zmn {lo hi mx:Bool}:@opK P (.slice w lo hi mx) H (x::xs) ⟨K⟩=@optN _ (optA lo xs) ⟨fun p=>@optN _ (optA hi p.2) ⟨fun q=>@optN _ (optA mx q.2) ⟨fun r=>r.2=[]∧@slcN w x p.1 q.1 r.1 H ⟨K⟩⟩⟩⟩:=(rfl)
theorem zbx:@opK P (.faddr p off s) H [.cptr x] ⟨K⟩=(x.isAny=false∧off+s≤x.cells.length∧(p=false→s=1)∧0<s∧@nx (.cptr (Ca p off s x)) H ⟨K⟩):=(rfl)
theorem zby:@opK P (.faddr p off s) H [.ptr g v i o] ⟨K⟩=((H.at_ g).ver=v∧@nx (.ptr g v i (o+off)) H ⟨K⟩):=(rfl)
theorem zmo:@opK P (.field p off s) H [.agg cs] ⟨K⟩=(off+s≤cs.length∧(p=false→s=1)∧@nx (Ca p off s (.agg cs)) H ⟨K⟩):=(rfl)
theorem zbz {w':Nat}:@opK P (.iaddr w) H [.lst w' xs,.int k a] ⟨K⟩=(w'=w∧0≤a∧a<xs.length∧@nx (.cptr (xs.getD a.toNat .any)) H ⟨K⟩):=(rfl)
theorem zc0:@opK P (.iaddr w) H [.ref g v off len,.int k a] ⟨K⟩=((H.at_ g).ver=v∧(H.at_ g).w=w∧0≤a∧a<len∧@nx (.ptr g v (off+a.toNat) 0) H ⟨K⟩):=(rfl)
theorem z8t:@opK P (.iaddrA n w p) H [.ptr g v i o,.int k a] ⟨K⟩=((H.at_ g).ver=v∧0≤a∧a<n∧@nx (.ptr g v i (o+a.toNat * w)) H ⟨K⟩):=(rfl)
theorem z8u:@opK P (.iaddrA n w p) H [.cptr x,.int k a] ⟨K⟩=(x.isAny=false∧0≤a∧a<n∧n * w≤x.cells.length∧(p=false→w=1)∧0<w∧@nx (.cptr (Ca p (a.toNat * w) w x)) H ⟨K⟩):=(rfl)
theorem zmp:@opK P (.index n w p) H [.agg cs,.int k a] ⟨K⟩=(0≤a∧a<n∧n * w≤cs.length∧(p=false→w=1)∧@nx (Ca p (a.toNat * w) w (.agg cs)) H ⟨K⟩):=(rfl)
theorem z8v {s:List UInt8}:@opK P .indexStr H [.str s,.int k a] ⟨K⟩=(0≤a∧a<s.length∧@nx (.int .u8 (s.getD a.toNat 0).toNat) H ⟨K⟩):=(rfl)
theorem zc1:@opK P (.extract i) H [.tup xs] ⟨K⟩=(i<xs.length∧@nx (xs.getD i .any) H ⟨K⟩):=(rfl)
theorem zc2:@opK P (.len false) H [.nilS] ⟨K⟩=@nx (.int .i64 0) H ⟨K⟩:=(rfl)
theorem zc3:@opK P (.len false) H [.nul] ⟨K⟩=@nx (.int .i64 0) H ⟨K⟩:=(rfl)
theorem zc4:@opK P (.len false) H [.lst w xs] ⟨K⟩=@nx (.int .i64 xs.length) H ⟨K⟩:=(rfl)
theorem zc5:@opK P (.len false) H [.ref g v off len] ⟨K⟩=@nx (.int .i64 len) H ⟨K⟩:=(rfl)
theorem zc6 {s:List UInt8}:@opK P (.len true) H [.str s] ⟨K⟩=@nx (.int .i64 s.length) H ⟨K⟩:=(rfl)
theorem K_app:@opK P (.app w n z) H [x,y] ⟨K⟩=(Gs H w y∧@optN _ (Gr H y) ⟨fun news=>@appN w n x news H ⟨K⟩⟩):=(rfl)
theorem zh6:@appN w n .nilS xs H ⟨K⟩=(xs.length * n≤140737488355328∧@nx (.ref H.n 1 0 xs.length) (H.push ⟨w,1,xs.isEmpty,xs⟩) ⟨K⟩):=(rfl)
theorem zmq:@appN w n .nul xs H ⟨K⟩=(xs.length * n≤140737488355328∧@nx (.ref H.n 1 0 xs.length) (H.push ⟨w,1,xs.isEmpty,xs⟩) ⟨K⟩):=(rfl)
theorem zmr:@appN w n (.ref g v off len) xs H ⟨K⟩=((H.at_ g).ver=v∧(H.at_ g).w=w∧(len+xs.length) * n≤140737488355328∧off+len≤(H.at_ g).xs.length∧@ifN (!(H.at_ g).exact||(H.at_ g).xs.isEmpty)
    ⟨(off+len+xs.length≤(H.at_ g).xs.length→@nx (.ref g v off (len+xs.length)) (H.set g ⟨w,v,true,(H.at_ g).xs.take (off+len)++xs++(H.at_ g).xs.drop (off+len+xs.length)⟩) ⟨K⟩) ∧
      ((H.at_ g).xs.length<off+len+xs.length→@nx (.ref H.n 1 0 (len+xs.length)) (H.push ⟨w,1,false,((H.at_ g).xs.drop off).take len++xs⟩) ⟨K⟩)⟩
    ⟨(off=0∨off+len=(H.at_ g).xs.length)∧(off+len=(H.at_ g).xs.length→@nx (.ref g (v+1) off (len+xs.length)) (H.set g ⟨w,v+1,(H.at_ g).exact&&xs.isEmpty,(H.at_ g).xs++xs⟩) ⟨K⟩) ∧
      (off+len<(H.at_ g).xs.length→off+len+xs.length≤(H.at_ g).xs.length∧@nx (.ref g v off (len+xs.length)) (H.set g ⟨w,v,(H.at_ g).exact,(H.at_ g).xs.take (off+len)++xs++(H.at_ g).xs.drop (off+len+xs.length)⟩) ⟨K⟩) ∧
      (off≠0→@nx (.ref g (v+1) 0 (len+xs.length)) (H.set g ⟨w,v+1,(H.at_ g).exact&&xs.isEmpty,(H.at_ g).xs.drop off++xs⟩) ⟨K⟩)⟩):=by
 simp only[appN,K3,ifN];generalize (!(H.at_ g).exact||(H.at_ g).xs.isEmpty)=c;cases c<;>rfl
theorem zms {w':Nat} {lo hi:Option Int}:@slcN w (.lst w' xs) lo hi none H ⟨K⟩=(w'=w∧0≤lo.getD 0∧lo.getD 0≤hi.getD xs.length∧hi.getD xs.length≤xs.length∧@nx (.lst w' ((xs.take (hi.getD xs.length).toNat).drop (lo.getD 0).toNat)) H ⟨K⟩):=(rfl)
theorem zmt {lo hi:Option Int}:@slcN w .nilS lo hi none H ⟨K⟩=((lo=none∨lo=some 0)∧(hi=none∨hi=some 0)∧@nx .nilS H ⟨K⟩):=(rfl)
theorem zmu {lo hi:Option Int}:@slcN w (.ref g v off len) lo hi none H ⟨K⟩=((H.at_ g).ver=v∧(H.at_ g).w=w∧0<w∧0≤lo.getD 0∧lo.getD 0≤hi.getD len∧(hi.getD len≤len∨(H.at_ g).exact=true∧off+hi.getD len≤(H.at_ g).xs.length) ∧
     @nx (.ref g v (off+(lo.getD 0).toNat) ((hi.getD len).toNat-(lo.getD 0).toNat)) H ⟨K⟩):=(rfl)
theorem zh7 {w':Nat} {lo hi:Option Int} {m:Int}:@slcN w (.lst w' xs) lo hi (some m) H ⟨K⟩=(m=0∧hi=some 0∧(lo=none∨lo=some 0)∧@nx .nul H ⟨K⟩):=(rfl)
theorem zh8 {lo hi:Option Int} {m:Int}:@slcN w .nilS lo hi (some m) H ⟨K⟩=(m=0∧hi=some 0∧(lo=none∨lo=some 0)∧@nx .nilS H ⟨K⟩):=(rfl)
theorem zh9 {lo hi:Option Int} {m:Int}:@slcN w .nul lo hi (some m) H ⟨K⟩=(m=0∧hi=some 0∧(lo=none∨lo=some 0)∧@nx .nul H ⟨K⟩):=(rfl)
theorem zha {lo hi:Option Int} {m:Int}:@slcN w (.ref g v off len) lo hi (some m) H ⟨K⟩=(m=0∧hi=some 0∧(lo=none∨lo=some 0)∧@nx .nul H ⟨K⟩):=(rfl)
theorem K_cap:@opK P .cap H [.nilS] ⟨K⟩=@nx (.int .i64 0) H ⟨K⟩:=(rfl)
theorem K_clr {g v off len:Nat}:@opK P (.clr w z) H [.ref g v off len] ⟨K⟩=((H.at_ g).ver=v∧(H.at_ g).w=w∧off+len≤(H.at_ g).xs.length∧@nx (.tup []) (H.set g ⟨w,v,(H.at_ g).exact,(H.at_ g).xs.take off++List.replicate len z++(H.at_ g).xs.drop (off+len)⟩) ⟨K⟩):=(rfl)
theorem zr9 {m:Nat} {k:IntKind}:@opK P (.appZ w m z) H [.nilS,.int k a] ⟨K⟩=(0<a∧a * m≤140737488355328∧@nx (.ref H.n 1 0 a.toNat) (H.push ⟨w,1,false,List.replicate a.toNat z⟩) ⟨K⟩):=(rfl)
theorem K_max:@opK P .max H [.int k a,.int k b] ⟨K⟩=@nx (.int k (Max.max a b)) H ⟨K⟩:=by simp[opK,Af,nx]
theorem K_min:@opK P .min H [.int k a,.int k b] ⟨K⟩=@nx (.int k (Min.min a b)) H ⟨K⟩:=by simp[opK,Af,nx]
theorem zc7 {k':IntKind}:@opK P (.mkSlice w n z) H [.int k a,.int k' b] ⟨K⟩=(0≤a∧a≤b∧b * n≤140737488355328∧@nx (.ref H.n 1 0 a.toNat) (H.push ⟨w,1,true,List.replicate b.toNat z⟩) ⟨K⟩):=(rfl)
theorem zhb {f:Nat}:@opK P (.mkFunc f) H xs ⟨K⟩=@nx (.fn f xs) H ⟨K⟩:=(rfl)
theorem zmv:@opK P .mkMap H [] ⟨K⟩=@nx (.map H.n 1) (H.push ⟨0,1,true,[]⟩) ⟨K⟩:=(rfl)
theorem zhc:@opK P (.mapGet z) H [.map g v,.int k a] ⟨K⟩=(k=.i64∧(H.at_ g).ver=v∧(H.at_ g).w=0∧(H.at_ g).exact=true∧@optN _ (Cb z a (H.at_ g).xs) ⟨fun y=>@nx y H ⟨K⟩⟩):=(rfl)
theorem zhd:@opK P .mapSet H [.map g v,.int k a,x] ⟨K⟩=(k=.i64∧(H.at_ g).ver=v∧(H.at_ g).w=0∧(H.at_ g).exact=true∧@optN _ (setM a x (H.at_ g).xs) ⟨fun ys=>@nx .any (H.set g ⟨0,v,true,ys⟩) ⟨K⟩⟩):=(rfl)
theorem z8w:@opK P (.len false) H [.full w xs] ⟨K⟩=@nx (.int .i64 xs.length) H ⟨K⟩:=(rfl)
theorem zc8 {w':Nat}:@opK P (.iaddr w) H [.full w' xs,.int k a] ⟨K⟩=(w'=w∧0≤a∧a<xs.length∧@nx (.cptr (xs.getD a.toNat .any)) H ⟨K⟩):=(rfl)
theorem z8x:@opK P (.eqn p) H [.full w xs,.nilS] ⟨K⟩=(xs≠[]∧@nx (.bool p) H ⟨K⟩):=(rfl)
theorem zhe {w':Nat} {lo hi:Option Int}:@slcN w (.full w' xs) lo hi none H ⟨K⟩=(w'=w∧0≤lo.getD 0∧lo.getD 0≤hi.getD xs.length∧hi.getD xs.length≤xs.length∧@nx (.lst w' ((xs.take (hi.getD xs.length).toNat).drop (lo.getD 0).toNat)) H ⟨K⟩):=(rfl)
theorem zc9 {w':Nat} {lo hi:Option Int} {m:Int}:@slcN w (.full w' xs) lo hi (some m) H ⟨K⟩=(m=0∧hi=some 0∧(lo=none∨lo=some 0)∧@nx .nul H ⟨K⟩):=(rfl)
theorem zhf {w':Nat}:@appN w n (.full w' xs) ys H ⟨K⟩=(w'=w∧0<ys.length∧(xs.length+ys.length) * n≤140737488355328∧@nx (.ref H.n 1 0 (xs.length+ys.length)) (H.push ⟨w,1,false,xs++ys⟩) ⟨K⟩):=(rfl)
theorem zca:Cb z a []=some z:=rfl
theorem z8y:Cb z a (.int .i64 b::y::xs)=if b=a then some y else Cb z a xs:=rfl
theorem zhg:setM a x []=some [.int .i64 a,x]:=rfl
theorem zcb:setM a x (.int .i64 b::y::xs)=if b=a then some (.int .i64 b::x::xs) else (setM a x xs).map fun r'=>.int .i64 b::y::r':=rfl
theorem zra {f:Nat}:@opK P .call H (.fn f cs::xs) ⟨K⟩=@Vw P f (xs++cs) H ⟨K⟩:=(rfl)
end
section
variable {P:Program} {H:Ac} {K:AV→Prop} {xs cs:List AV} {z:AV} {w len:Nat}
theorem Cl {k:AK} (h:k.still=true):@opQ P k H xs ⟨K⟩=@opK P k H xs ⟨fun x _=>K x⟩:=by
 cases k<;>first|(exact propext ⟨fun h=>h.2,fun h=>⟨rfl,h⟩⟩)|(simp[AK.still] at h)
theorem Q_mv  : @opQ P .mv H xs ⟨K⟩=@opK P .mv H xs ⟨fun x _=>K x⟩:=Cl rfl
theorem zrb  : @opQ P .pick H xs ⟨K⟩=@opK P .pick H xs ⟨fun x _=>K x⟩:=Cl rfl
theorem zmw {zs:List AV} {pl:List (Nat × Nat)} {idx:List Nat}:@opQ P (.build zs pl idx) H xs ⟨K⟩=@opK P (.build zs pl idx) H xs ⟨fun x _=>K x⟩:=Cl rfl
theorem zrc {a:Bool} {s:Nat}:@opQ P (.load a s) H xs ⟨K⟩=@opK P (.load a s) H xs ⟨fun x _=>K x⟩:=Cl rfl
theorem z8z  : @opQ P .nilCheck H xs ⟨K⟩=@opK P .nilCheck H xs ⟨fun x _=>K x⟩:=Cl rfl
theorem Q_bin {op:BinOp}:@opQ P (.bin op) H xs ⟨K⟩=@opK P (.bin op) H xs ⟨fun x _=>K x⟩:=Cl rfl
theorem Q_eqb {n:Bool}:@opQ P (.eqb n) H xs ⟨K⟩=@opK P (.eqb n) H xs ⟨fun x _=>K x⟩:=Cl rfl
theorem Q_eqs {n:Bool} {ks:List Nat}:@opQ P (.eqs n ks) H xs ⟨K⟩=@opK P (.eqs n ks) H xs ⟨fun x _=>K x⟩:=Cl rfl
theorem Q_eqn {n:Bool}:@opQ P (.eqn n) H xs ⟨K⟩=@opK P (.eqn n) H xs ⟨fun x _=>K x⟩:=Cl rfl
theorem Q_un {op:UnOp}:@opQ P (.un op) H xs ⟨K⟩=@opK P (.un op) H xs ⟨fun x _=>K x⟩:=Cl rfl
theorem zrd {k:IntKind}:@opQ P (.conv k) H xs ⟨K⟩=@opK P (.conv k) H xs ⟨fun x _=>K x⟩:=Cl rfl
theorem zmx {w:Nat} {lo hi mx:Bool}:@opQ P (.slice w lo hi mx) H xs ⟨K⟩=@opK P (.slice w lo hi mx) H xs ⟨fun x _=>K x⟩:=Cl rfl
theorem zmy {a:Bool} {o s:Nat}:@opQ P (.faddr a o s) H xs ⟨K⟩=@opK P (.faddr a o s) H xs ⟨fun x _=>K x⟩:=Cl rfl
theorem zmz {a:Bool} {o s:Nat}:@opQ P (.field a o s) H xs ⟨K⟩=@opK P (.field a o s) H xs ⟨fun x _=>K x⟩:=Cl rfl
theorem zn0 {w:Nat}:@opQ P (.iaddr w) H xs ⟨K⟩=@opK P (.iaddr w) H xs ⟨fun x _=>K x⟩:=Cl rfl
theorem zhh {n w:Nat} {a:Bool}:@opQ P (.iaddrA n w a) H xs ⟨K⟩=@opK P (.iaddrA n w a) H xs ⟨fun x _=>K x⟩:=Cl rfl
theorem zn1 {n w:Nat} {a:Bool}:@opQ P (.index n w a) H xs ⟨K⟩=@opK P (.index n w a) H xs ⟨fun x _=>K x⟩:=Cl rfl
theorem z90  : @opQ P .indexStr H xs ⟨K⟩=@opK P .indexStr H xs ⟨fun x _=>K x⟩:=Cl rfl
theorem zcc {i:Nat}:@opQ P (.extract i) H xs ⟨K⟩=@opK P (.extract i) H xs ⟨fun x _=>K x⟩:=Cl rfl
theorem Q_cap:@opQ P .cap H xs ⟨K⟩=@opK P .cap H xs ⟨fun x _=>K x⟩:=Cl rfl
theorem Q_len {b:Bool}:@opQ P (.len b) H xs ⟨K⟩=@opK P (.len b) H xs ⟨fun x _=>K x⟩:=Cl rfl
theorem Q_max  : @opQ P .max H xs ⟨K⟩=@opK P .max H xs ⟨fun x _=>K x⟩:=Cl rfl
theorem Q_min  : @opQ P .min H xs ⟨K⟩=@opK P .min H xs ⟨fun x _=>K x⟩:=Cl rfl
theorem zhi:@opQ P (.mapGet z) H xs ⟨K⟩=@opK P (.mapGet z) H xs ⟨fun x _=>K x⟩:=Cl rfl
theorem zhj {f:Nat}:@opQ P (.mkFunc f) H xs ⟨K⟩=@opK P (.mkFunc f) H xs ⟨fun x _=>K x⟩:=Cl rfl
theorem zn2  : @opQ P .toStr H xs ⟨K⟩=@opK P .toStr H xs ⟨fun x _=>K x⟩:=Cl rfl
theorem zn3 {f:Nat}:@opQ P .call H (.fn f cs::xs) ⟨K⟩=@zgz P f (xs++cs) H ⟨K⟩:=(rfl)
theorem Q_bsl {idx:List Nat}:@opQ P (.bslice w len z idx) H xs ⟨K⟩=(G4 w len idx xs∧0<w∧Aw (D3 idx xs (List.replicate len z))=true∧@nq (.full w (D3 idx xs (List.replicate len z))) ⟨K⟩):=(rfl)
end
section
variable {H:Ac} {G:Grp} {g j:Nat}
end
section
variable {P:Program} {H:Ac} {env:Env} {K:List AV→Prop} {l:List ARes} {t s:Nat} {a:Bool}
theorem zn4:resK P [] env H K=K []:=(rfl)
theorem zhk:resK P (.slot t::l) env H K=resK P l env H fun xs=>K (env t::xs):=(rfl)
theorem zhl:resK P (.cell t a s::l) env H K=@opK P (.load a s) H [env t] ⟨fun x _=>resK P l env H fun xs=>K (x::xs)⟩:=(rfl)
end
theorem Yu {p:Prop} [Decidable p] (h:p):true=decide p:=(decide_eq_true h).symm
theorem Yv {p:Prop} [Decidable p] (h:¬p):false=decide p:=(decide_eq_false h).symm
theorem M5 {p q:Prop} [Decidable p] [Decidable q] (h:p↔q):decide p=decide q:=decide_eq_decide.2 h
theorem getD_map {α:Type} [Inhabited α] (f:α→AV) (l:List α) (i:Nat):(l.map f).getD i .any=if i<l.length then f (l.getD i default) else .any:=by
 by_cases h:i<l.length<;>simp[List.getD,h]
def nth {α:Type} [Inhabited α] (l:List α) (i:Nat):α:=l.getD i default
theorem zcd {α:Type} [Inhabited α] (f:α→AV) (l:List α) (i:Nat) (h:i<l.length):(l.map f).getD i .any=f (nth l i):=by rw[getD_map,if_pos h];rfl
theorem zhm {α:Type} (f:α→AV) (l:List α) (i:Nat):(l.map f).drop i=(l.drop i).map f:=List.map_drop.symm
theorem zhn {α:Type} (f:α→AV) (l:List α) (i:Nat):(l.map f).take i=(l.take i).map f:=List.map_take.symm
theorem Er {α:Type} {f:α→AV} (h:∀ x,(f x).pure=true):∀ l:List α,Aw (l.map f)=true
 | []=>rfl
 | x::l=>by simp[Aw,h x,Er h l]
theorem E3 (k:IntKind) (l:List Int):Aw (l.map (AV.int k))=true:=Er (fun _=>rfl) l
theorem zce (k:IntKind) (l:List Int):Aw (l.map fun x=>AV.int k x)=true:=Er (fun _=>rfl) l
theorem zcf (l:List Bool):Aw (l.map AV.bool)=true:=Er (fun _=>rfl) l
attribute [push_cast] z34 z35 z36 zmv zhc zhd z8w zc8 z8x zhe zc9 zhf zca z8y zhg zcb zhi
attribute [push_cast] K_clr zr9 K_cap Q_cap zmh zmi zbs zh1 zbt zh6 zmq zmr zms zmt zmu zh7 zh8 zh9 zha K_mv zr2 zmj K_box zmk zh2 zh3 zh4 zml zr3 zr4 zr5 K_add K_sub K_mul K_quo K_rem K_and K_or K_xor zh5 K_shl K_shr K_eql K_neq K_lss K_leq K_gtr K_geq zr6 zr7 K_eqb K_eqs zbu zbv zbw K_not K_neg zr8 zmm zmn zbx zby zmo zbz zc0 z8t z8u zmp z8v zc1 zc2 zc3 zc4 zc5 zc6 K_app K_max K_min zc7 zhb zra Q_mv zrb zmw zrc z8z Q_bin Q_eqb Q_eqs Q_eqn Q_un zrd zmx zmy zmz zn0 zhh zn1 z90 zcc Q_len Q_max Q_min zhj zn2 zn3 Q_bsl
attribute [push_cast] z21 z22 z23 z24 z25 z26 z27 zgw
attribute [push_cast] Ca AV.cells AV.isAny Eo AV.one K2 eqL eq1 Gs Gr G4 D3 Vh optA List.replicate Aw AV.pure Ret zn4 zhk zhl resV zhm zhn E3 zce zcf
def pos:List Nat→Nat→Option Nat
 | [],_=>none
 | k::ks,g=>if g=k then some 0 else (pos ks g).map (·+1)
theorem Pi:∀ {ks:List Nat} {g j:Nat},pos ks g=some j→j<ks.length∧ks.getD j 0=g
 | [],g,j,h=>by simp[pos] at h
 | k::ks,g,j,h=>by
   rw[pos] at h;split at h
   · rename_i hk;cases h;exact⟨by simp,by simp[hk]⟩
   · obtain⟨i,hi,rfl⟩:=Option.map_eq_some_iff.1 h
     obtain⟨h1,h2⟩:=Pi hi;exact⟨by simp;omega,by simpa using h2⟩
theorem Vx:∀ {ks:List Nat} {g:Nat},pos ks g=none→g∉ks
 | [],g,_=>by simp
 | k::ks,g,h=>by
   rw[pos] at h;split at h
   · cases h
   · rename_i hk
     have:=Vx (Option.map_eq_none_iff.1 h);simp[hk,this]
def frzL (w:Nat) (ys:List AV):AV:=bif Aw ys then .lst w ys else .any
def frzP (y:AV):AV:=bif y.pure then .cptr y else .any
def rnV (b:Nat) (H:Ac) (ks:List Nat):Nat→AV→AV
 | 0,x=>bif x.pure then x else .any
 | d+1,.ref g v off len=>if g<b then .ref g v off len else if v=(H.at_ g).ver then
     (match pos ks g with
      | some j=>.ref (b+j) 1 off len
      | none=>if 0<(H.at_ g).w∧off+len≤(H.at_ g).xs.length then frzL (H.at_ g).w ((((H.at_ g).xs.drop off).take len).map (rnV b H ks d)) else .any)
     else .any
 | d+1,.ptr g v i o=>if g<b then .ptr g v i o else if v=(H.at_ g).ver then
     (match pos ks g with
      | some j=>.ptr (b+j) 1 i o
      | none=>if o=0∧i<(H.at_ g).xs.length∧0<(H.at_ g).w then frzP (rnV b H ks d ((H.at_ g).xs.getD i .any)) else .any)
     else .any
 | _+1,.map g v=>if g<b then .map g v else if v=(H.at_ g).ver then (match pos ks g with|some j=>.map (b+j) 1|none=>.any) else .any
 | d+1,.agg cs=>.agg (cs.map (rnV b H ks d))
 | d+1,.tup cs=>.tup (cs.map (rnV b H ks d))
 | d+1,.fn f cs=>.fn f (cs.map (rnV b H ks d))
 | _+1,x=>x
def inv (b:Nat) (ks:List Nat) (j:Nat):Nat:=if j<b then j else ks.getD (j-b) 0
def MS.repack (S:MS) (b:Nat) (H:Ac) (ks:List Nat):MS where
 w:=S.w
 im:=fun c=>S.im c∨∃ g,g<H.n∧b≤g∧g∉ks∧0<(H.at_ g).w∧0<S.cap g∧c=S.place g
 keep:=S.keep
 n:=b+ks.length
 place:=fun j=>S.place (inv b ks j)
 cur:=fun j=>if j<b then S.cur j else 1
 cap:=fun j=>S.cap (inv b ks j)
 wid:=fun j=>S.wid (inv b ks j)
 base:=S.base
def Ac.repack (H:Ac) (b:Nat) (ks:List Nat) (d:Nat):Ac:=⟨b+ks.length,fun j=>⟨(H.at_ (inv b ks j)).w,if j<b then (H.at_ j).ver else 1,(H.at_ (inv b ks j)).exact,(H.at_ (inv b ks j)).xs.map (rnV b H ks d)⟩⟩
section
variable {S:MS} {H:Ac} {b:Nat} {ks:List Nat}
theorem E4 {j:Nat} (h:j<b):inv b ks j=j:=if_pos h
theorem z1v {j:Nat}:inv b ks (b+j)=ks.getD j 0:=by
 have h1:b+j-b=j:=by omega
 have h2:¬b+j<b:=by omega
 rw[inv,if_neg h2,h1]
theorem Vy {x:AV} {v:Value} (hx:x.pure=true) (h:VRel S x v):VRel (S.repack b H ks) x v:=VRel.of_pure (S:=S) (S':=S.repack b H ks) rfl (fun _ hb=>.inl hb) hx h
theorem z91 (hS:SRel S H):∀ (d:Nat) {x:AV} {v:Value},VRel S x v→VRel (S.repack b H ks) (rnV b H ks d x) v
 | 0,x,v,h=>by
   rw[rnV];cases hp:x.pure
   · trivial
   · exact Vy hp h
 | d+1,x,v,h=>by
   have keyL:∀ {cs:List AV} {vs:List Value},Ae S cs vs→Ae (S.repack b H ks) (cs.map (rnV b H ks d)) vs:=by
     intro cs
     induction cs with
     | nil=>intro vs hh;exact hh
     | cons c cs ih =>
       intro vs hh;obtain⟨u,r,rfl,h1,h2⟩:=hh;exact⟨u,r,rfl,z91 hS d h1,ih h2⟩
   cases x with
   | ref g vn off len =>
     obtain⟨⟨a,c,rfl,ha⟩,hg,hvn,hcur⟩:=h;have hG:=hS.live_of hg;rw[rnV];split
     · rename_i hgb
       refine⟨⟨a,c,rfl,ha⟩,by show g<b+_;omega,by show vn≤if g<b then _ else _;rw[if_pos hgb];exact hvn,fun he=>?_⟩;have he':(if g<b then S.cur g else 1)=vn:=he;rw[if_pos hgb] at he';show ∃ a cap',_=Value.slice a len cap'∧((a=some ⟨S.place (inv b ks g),off * S.wid (inv b ks g),none⟩∧cap'=S.cap (inv b ks g)-off∧off+len≤S.cap (inv b ks g))∨(len=0∧cap'=0∧S.cap (inv b ks g)≤off));rw[E4 hgb];exact hcur he'
     · split
       · rename_i hver
         have hh:=hcur (by rw[hG.ver,hver]);split
         · rename_i j hj
           obtain⟨h1,h2⟩:=Pi hj;refine⟨⟨a,c,rfl,ha⟩,by show b+j<b+_;omega,by show 1≤if b+j<b then _ else 1;rw[if_neg (by omega)];exact Nat.le_refl 1,fun _=>?_⟩;show ∃ a cap',_=Value.slice a len cap'∧((a=some ⟨S.place (inv b ks (b+j)),off * S.wid (inv b ks (b+j)),none⟩∧cap'=S.cap (inv b ks (b+j))-off∧off+len≤S.cap (inv b ks (b+j)))∨(len=0∧cap'=0∧S.cap (inv b ks (b+j))≤off));rw[z1v,h2];exact hh
         · rename_i hb hj
           have hnk:=Vx hj;split
           · rename_i hw
             obtain⟨hw,hol⟩:=hw;unfold frzL;cases hpu:Aw ((((H.at_ g).xs.drop off).take len).map (rnV b H ks d))
             · trivial
             · obtain⟨a',cap',hv,hcase⟩:=hh
               obtain⟨rfl,-,rfl⟩:a=a'∧len=len∧c=cap':=by cases hv;exact⟨rfl,rfl,rfl⟩
               have hl:((((H.at_ g).xs.drop off).take len).map (rnV b H ks d)).length=len:=by simp;omega
               show VRel _ (.lst _ _) _
               have hnone:a=none→c=0:=fun hn=>by
                 rcases hcase with⟨rfl,_⟩|⟨_,hh,_⟩
                 · cases hn
                 · exact hh
               by_cases hc0:S.cap g=0
               · have hlen:=hG.len hw
                 have hnil:((H.at_ g).xs.drop off).take len=[]:=List.eq_nil_of_length_eq_zero (by simp;omega);simp only[hnil,List.map_nil] at hl ⊢;exact⟨rfl,hw,a,c,[],by rw[←hl],⟨Nat.zero_le _,hnone⟩,rfl,fun hne=>absurd rfl hne⟩
               obtain⟨⟨cells,TT,us,hb2,hcs,hus,hfl⟩,_⟩:=hG.live hw (by omega);refine⟨hpu,hw,a,c,_,by rw[hl],⟨?_,hnone⟩,keyL ((hus.drop off).take len),fun hne=>?_⟩
               · rw[hl];rcases hcase with⟨_,c2,c3⟩|⟨c1,c2,_⟩<;>omega
               · rcases hcase with⟨rfl,_,_⟩|⟨c1,_,_⟩
                 · refine⟨_,_,rfl,.inr ⟨g,by rw[←hS.n];exact hg,by omega,hnk,hw,by omega,rfl⟩,fun j u hu=>?_⟩
                   rw[List.getElem?_take] at hu;split at hu
                   · rw[List.getElem?_drop] at hu
                     have:=hfl.row hb2 (off+j) u hu;rw[Nat.zero_add,Nat.add_mul] at this;rw[hG.wid];exact this
                   · cases hu
                 · exact absurd (List.eq_nil_of_length_eq_zero (by rw[hl];exact c1)) hne
           · trivial
       · trivial
   | ptr g vn i o =>
     obtain⟨⟨a,rfl⟩,hg,hvn,hcur⟩:=h;have hG:=hS.live_of hg;rw[rnV];split
     · rename_i hgb
       refine⟨⟨a,rfl⟩,by show g<b+_;omega,by show vn≤if g<b then _ else _;rw[if_pos hgb];exact hvn,fun he=>?_⟩;have he':(if g<b then S.cur g else 1)=vn:=he;rw[if_pos hgb] at he';show _=Value.pointer (some ⟨S.place (inv b ks g),i * S.wid (inv b ks g)+o,none⟩);rw[E4 hgb];exact hcur he'
     · split
       · rename_i hver
         have hh:=hcur (by rw[hG.ver,hver]);split
         · rename_i j hj
           obtain⟨h1,h2⟩:=Pi hj;refine⟨⟨a,rfl⟩,by show b+j<b+_;omega,by show 1≤if b+j<b then _ else 1;rw[if_neg (by omega)];exact Nat.le_refl 1,fun _=>?_⟩;show _=Value.pointer (some ⟨S.place (inv b ks (b+j)),i * S.wid (inv b ks (b+j))+o,none⟩);rw[z1v,h2];exact hh
         · rename_i hb hj
           have hnk:=Vx hj;split
           · rename_i hc
             obtain⟨rfl,hi,hw⟩:=hc;unfold frzP;cases hpu:(rnV b H ks d ((H.at_ g).xs.getD i .any)).pure
             · trivial
             · show VRel _ (.cptr _) _
               obtain⟨u,hu,hl⟩:=hG.elem hw hi;have k1:=z91 hS d hu;refine⟨hpu,S.place g,i * (H.at_ g).w,u,?_,.inr ⟨g,by rw[←hS.n];exact hg,by omega,hnk,hw,by have:=hG.len hw;omega,rfl⟩,k1,?_⟩
               · rw[hh,hG.wid];rfl
               · rw[hl.1];exact hl
           · trivial
       · trivial
   | agg cs=>obtain⟨vs,rfl,hr⟩:=h;exact⟨vs,rfl,keyL hr⟩
   | tup cs=>obtain⟨vs,rfl,hr⟩:=h;exact⟨vs,rfl,keyL hr⟩
   | fn f cs=>obtain⟨vs,rfl,hr⟩:=h;exact⟨vs,rfl,keyL hr⟩
   | full w xs=>exact Vy h.1 h
   | map g vn =>
     obtain⟨⟨a,rfl⟩,hg,hvn,hcur⟩:=h;have hG:=hS.live_of hg;rw[rnV];split
     · rename_i hgb
       refine⟨⟨a,rfl⟩,by show g<b+_;omega,by show vn≤if g<b then _ else _;rw[if_pos hgb];exact hvn,fun he=>?_⟩;have he':(if g<b then S.cur g else 1)=vn:=he;rw[if_pos hgb] at he';show _=Value.map (some (S.place (inv b ks g)));rw[E4 hgb];exact hcur he'
     · split
       · rename_i hver
         have hh:=hcur (by rw[hG.ver,hver]);split
         · rename_i j hj
           obtain⟨h1,h2⟩:=Pi hj;refine⟨⟨a,rfl⟩,by show b+j<b+_;omega,by show 1≤if b+j<b then _ else 1;rw[if_neg (by omega)];exact Nat.le_refl 1,fun _=>?_⟩;show _=Value.map (some (S.place (inv b ks (b+j))));rw[z1v,h2];exact hh
         · trivial
       · trivial
   | lst w xs=>exact Vy h.1 h
   | cptr x=>exact Vy h.1 h
   | any=>trivial
   | bool _=>exact h
   | int _ _=>exact h
   | str _=>exact h
   | nilS=>exact h
   | nul=>exact h
   | emp=>exact h
   | nilP=>exact h
   | nilF=>exact h
   | yld l=>exact h
theorem Jw (hS:SRel S H) (hb:b≤S.n):BEvo b S (S.repack b H ks) where
 base:=rfl
 os:=rfl
 tape:=rfl
 output:=rfl
 size:=Nat.le_refl _
 kept _ _:=rfl
 im _ h:=.inl h
 keep _ h:=h
 fresh c hc:=by
   rcases hc with hc|⟨g,hg,_,_,hw,hcap,rfl⟩
   · exact .inl hc
   · exact .inr fun hk=>((hS.grp g hg).live hw hcap).2 (.inr hk)
 n:=Nat.le_add_right _ _
 cur g hg:=by show _≤if g<b then S.cur g else 1;rw[if_pos hg];exact Nat.le_refl _
 same g hg _:=by
   show S.place (inv b ks g)=_∧S.cap (inv b ks g)=_∧S.wid (inv b ks g)=_;rw[E4 hg];exact⟨rfl,rfl,rfl⟩
theorem M6 (d:Nat) (hS:SRel S H) (hb:b≤H.n) (hk:∀ k∈ks,b≤k∧k<H.n) (hn:ks.Nodup):SRel (S.repack b H ks) (H.repack b ks d):=by
 have keyL:∀ {cs:List AV} {vs:List Value},Ae S cs vs→Ae (S.repack b H ks) (cs.map (rnV b H ks d)) vs:=by
   intro cs
   induction cs with
   | nil=>intro vs hh;exact hh
   | cons c cs ih =>
     intro vs hh;obtain⟨u,r,rfl,h1,h2⟩:=hh;exact⟨u,r,rfl,z91 hS d h1,ih h2⟩
 have hinv:∀ j,j<b+ks.length→inv b ks j<H.n∧(j<b∨b≤inv b ks j∧inv b ks j∈ks):=by
   intro j hj;by_cases hjb:j<b
   · rw[E4 hjb];exact⟨by omega,.inl hjb⟩
   · have h1:j-b<ks.length:=by omega
     have:inv b ks j=ks[j-b]:=by simp[inv,hjb,List.getD,List.getElem?_eq_getElem h1]
     rw[this];have:=hk _ (List.getElem_mem h1);exact⟨this.2,.inr ⟨this.1,List.getElem_mem h1⟩⟩
 refine⟨rfl,fun j hj=>?_,fun j j' hj hj' hne hw hw'=>?_,fun c hc=>?_⟩
 · obtain⟨h1,h2⟩:=hinv j hj
   have hG:=hS.grp _ h1
   have hni:(H.at_ (inv b ks j)).has (S.cap (inv b ks j))→¬((S.repack b H ks).im (S.place (inv b ks j))∨(S.repack b H ks).keep (S.place (inv b ks j))):=fun hq=>by
     have a5:=hG.has_ni hq;rintro ((hi|⟨g,hg,hbg,hnk,hw',hc',he⟩)|hi)
     · exact a5 (.inl hi)
     · have hne:inv b ks j≠g:=by
         intro hh;rcases h2 with h2|h2
         · rw[E4 h2] at hh;omega
         · exact hnk (hh ▸ h2.2)
       exact hS.apart _ g h1 hg hne hq (.inl ⟨hw',hc'⟩) he
     · exact a5 (.inr hi)
   refine⟨?_,hG.wid,fun hw hc=>?_,fun hw=>?_,fun hw he=>?_,fun hw he=>?_⟩
   · show (if j<b then S.cur j else 1)=if j<b then (H.at_ j).ver else 1
     split
     · rename_i hjb;rw[E4 hjb] at hG;exact hG.ver
     · rfl
   · obtain⟨⟨cells,TT,us,a1,a2,a3,a4⟩,a5⟩:=hG.live hw hc
     exact⟨⟨cells,TT,us,a1,a2,keyL a3,a4⟩,hni (.inl ⟨hw,hc⟩)⟩
   · show ((H.at_ (inv b ks j)).xs.map _).length≤_;rw[List.length_map];exact hG.len hw
   · show ((H.at_ (inv b ks j)).xs.map _).length=_;rw[List.length_map];exact hG.full hw he
   · obtain⟨⟨es,clock,a1,a2⟩,a5⟩:=hG.mlive hw he
     exact⟨⟨es,clock,a1,keyL a2⟩,hni (.inr ⟨hw,he⟩)⟩
 · obtain⟨h1,h2⟩:=hinv j hj
   obtain⟨h1',h2'⟩:=hinv j' hj';refine hS.apart _ _ h1 h1' ?_ hw hw';intro hh;rcases h2 with h2|⟨h2,h3⟩<;>rcases h2' with h2'|⟨h2',h3'⟩
   · rw[E4 h2,E4 h2'] at hh;exact hne hh
   · rw[E4 h2] at hh;omega
   · rw[E4 h2'] at hh;omega
   · have hjb:¬j<b:=fun h=>by rw[E4 h] at h2;omega
     have hjb':¬j'<b:=fun h=>by rw[E4 h] at h2';omega
     have e1:j-b<ks.length:=by have:j<b+ks.length:=hj;omega
     have e2:j'-b<ks.length:=by have:j'<b+ks.length:=hj';omega
     have f1:inv b ks j=ks[j-b]:=by simp[inv,hjb,List.getD,List.getElem?_eq_getElem e1]
     have f2:inv b ks j'=ks[j'-b]:=by simp[inv,hjb',List.getD,List.getElem?_eq_getElem e2]
     rw[f1,f2] at hh;have:=(List.getElem_inj hn).1 hh;omega
 · rcases hc with (hc|⟨g,hg,_,_,hw,hcap,rfl⟩)|hc
   · exact hS.im c (.inl hc)
   · exact (hS.grp g hg).lt hw hcap
   · exact hS.im c (.inr hc)
theorem zho {P:Program} {n:Nat} {c:AC} {env:Env} {Q:Ex→Env→Ac→Prop} (ks:List Nat) (d:Nat) (hb:b≤H.n) (hk:∀ k∈ks,b≤k∧k<H.n) (hn:ks.Nodup)
   (h:T P n b c (fun i=>rnV b H ks d (env i)) (H.repack b ks d) Q):T P n b c env H Q:=by
 intro rd mm hrd code hc S a hbS hS hF;have hev:=Jw (ks:=ks) hS hbS;refine wpIn_mono (h rd mm hrd code hc (S.repack b H ks) a (Nat.le_add_right _ _) (M6 d hS hb hk hn) ⟨hF.size,hF.defers.of hev.base hev.size hev.keep hev.fresh (fun b hb=>hev.kept b (.inr hb)),fun j hj=>z91 hS d (hF.val j hj)⟩) fun e a w hh=>hh.trans (Jw hS hbS)
end
theorem z5g:Ac.nil=hl []:=by
 simp[Ac.nil,hl]
theorem hl_n (l:List Grp):(hl l).n=l.length:=rfl
theorem SRel.congr {S:MS} {H H':Ac} (hn:H'.n=H.n) (h:∀ g,g<H.n→H'.at_ g=H.at_ g) (hS:SRel S H):SRel S H' :=
 ⟨hS.n.trans hn.symm,fun g hg=>by rw[h g (by omega)];exact hS.grp g (by omega),fun g g' hg hg' hne hw hw'=>by
   rw[h g (by omega)] at hw;rw[h g' (by omega)] at hw'
   exact hS.apart g g' (by omega) (by omega) hne hw hw',hS.im⟩
theorem Bi.congr {P:Program} {f:Nat} {xs:List AV} {H H':Ac} {K:AV→Ac→Prop} (hn:H'.n=H.n) (h:∀ g,g<H.n→H'.at_ g=H.at_ g) (k:Bi P f xs H' K):Bi P f xs H K :=
 ⟨k.1,fun S cargs hS hx=>k.2 S cargs (hS.congr hn h) hx⟩
def Ac.groups (H:Ac):List Grp:=(List.range H.n).map H.at_
theorem Yw (l:List Grp):(hl l).groups=l:=by
 refine List.ext_getElem (by simp[Ac.groups,hl]) fun i h1 h2=>?_;simp[Ac.groups,hl,h2]
def Es:Nat→List Nat→List Grp→List Grp
 | _,_,[]=>[]
 | i,ks,G::l=>(if i∈ks then G.dead else G)::Es (i+1) ks l
theorem Ga:∀ (i:Nat) (ks:List Nat) (l:List Grp),(Es i ks l).length=l.length
 | _,_,[]=>rfl
 | i,ks,G::l=>by simp[Es,Ga (i+1) ks l]
theorem Lw:∀ (i:Nat) (ks:List Nat) (l:List Grp) (g:Nat),g<l.length→(Es i ks l).getD g default=if i+g∈ks then (l.getD g default).dead else l.getD g default
 | _,_,[],g,h=>by simp at h
 | i,ks,G::l,0,h=>by simp[Es]
 | i,ks,G::l,g+1,h=>by
   have:=Lw (i+1) ks l g (by simpa using h);have e:i+1+g=i+(g+1):=by omega
   rw[e] at this;simpa [Es] using this
theorem Tq {P:Program} {f:Nat} {xs:List AV} {l:List Grp} {K:AV→Ac→Prop} (d:Nat) (ks:List Nat) (hok:∀ x∈xs,Cn d ((hl l).only ks) x) (h:Bi P f (xs.map (frzV d ((hl l).only ks))) (hl (Es 0 ks l)) K):Bi P f xs (hl l) K:=by
 refine Vv d ks hok (Bi.congr (H':=hl (Es 0 ks l)) (by simp[hl,Ac.kill,Ga]) (fun g hg=>?_) h);show (Es 0 ks l).getD g default=if g∈ks then (l.getD g default).dead else l.getD g default
 rw[Lw 0 ks l g hg,Nat.zero_add]
def leH (H:Ac) (x y:AV):Prop:=∀ S v,SRel S H→VRel S x v→VRel S y v
section
variable {H:Ac}
theorem zcg {l:List Grp} {g v len:Nat} (hv:(l.getD g default).ver=v) (hw:0<(l.getD g default).w) (hx:(l.getD g default).xs=[]) (he:(l.getD g default).exact=true) (hg:g<l.length) (h0:len=0):leH (hl l) .nilS (.ref g v 0 len):=fun S u hS hu=>by
 subst h0;have hG:=hS.grp g hg;rw[Ck] at hG;have hf:=hG.full hw he;rw[hx] at hf;have hc:S.cap g=0:=hf.symm;have hu':u=.slice none 0 0:=hu;subst hu';exact⟨⟨none,0,rfl,fun _=>rfl⟩,by rw[hS.n];exact hg,by rw[hG.ver,hv];exact Nat.le_refl _,fun _=>⟨none,0,rfl,.inr ⟨rfl,rfl,by rw[hc];exact Nat.le_refl _⟩⟩⟩
end
mutual
def leS (l:List Grp):AV→AV→Prop
 | .int k a,y=>(match y with|.int k' b=>k=k'∧a=b|.any=>True|_=>False)
 | .bool a,y=>(match y with|.bool b=>a=b|.any=>True|_=>False)
 | .nilS,y=>(match y with
   | .nilS|.any=>True
   | .lst w ys=>0<w∧ys=[]
   | .ref g v off len=>off=0∧len=0∧(l.getD g default).ver=v∧0<(l.getD g default).w∧(l.getD g default).xs=[]∧(l.getD g default).exact=true∧g<l.length
   | _=>False)
 | .nul,y=>(match y with|.nul|.any=>True|.lst w ys=>0<w∧ys=[]|_=>False)
 | .emp,y=>(match y with|.emp|.any=>True|.lst w ys=>0<w∧ys=[]|_=>False)
 | .lst w xs,y=>(match y with|.lst w' ys=>w=w'∧xs=ys|.any=>True|_=>False)
 | .full w xs,y=>(match y with|.full w' ys=>w=w'∧xs=ys|.lst w' ys=>w=w'∧leSL l xs ys∧Aw ys=true|.any=>True|_=>False)
 | .ref g v o n,y=>(match y with|.ref g' v' o' n'=>g=g'∧v=v'∧o=o'∧n=n'|.any=>True|_=>False)
 | .ptr g v o n,y=>(match y with|.ptr g' v' o' n'=>g=g'∧v=v'∧o=o'∧n=n'|.any=>True|_=>False)
 | .agg xs,y=>(match y with|.agg ys=>leSL l xs ys|.any=>True|_=>False)
 | .tup xs,y=>(match y with|.tup ys=>leSL l xs ys|.any=>True|_=>False)
 | x,y=>(match y with|.any=>True|y=>x=y)
def leSL (l:List Grp):List AV→List AV→Prop
 | [],ys=>ys=[]
 | x::xs,ys=>(match ys with|y::ys=>leS l x y∧leSL l xs ys|[]=>False)
end
mutual
theorem Yx {S:MS} {l:List Grp} (hS:SRel S (hl l)∨l=[]):∀ (x:AV) {y:AV} {v:Value},leS l x y→VRel S x v→VRel S y v
 | .any,y,v,h,hv=>by cases y<;>simp only[leS,reduceCtorEq] at h;trivial
 | .int k a,y,v,h,hv=>by
   cases y<;>simp only[leS] at h
   · trivial
   · obtain⟨rfl,rfl⟩:=h;exact hv
 | .bool a,y,v,h,hv=>by
   cases y<;>simp only[leS] at h
   · trivial
   · subst h;exact hv
 | .str s,y,v,h,hv=>by cases y<;>simp only[leS] at h<;>first|trivial|(cases h;done)|(cases h;exact hv)
 | .nilP,y,v,h,hv=>by cases y<;>simp only[leS] at h<;>first|trivial|(cases h;done)|exact hv
 | .nilF,y,v,h,hv=>by cases y<;>simp only[leS] at h<;>first|trivial|(cases h;done)|exact hv
 | .yld l,y,v,h,hv=>by cases y<;>simp only[leS] at h<;>first|trivial|(cases h;done)|(cases h;exact hv)
 | .cptr x,y,v,h,hv=>by cases y<;>simp only[leS] at h<;>first|trivial|(cases h;done)|(cases h;exact hv)
 | .fn f xs,y,v,h,hv=>by cases y<;>simp only[leS] at h<;>first|trivial|(cases h;done)|(cases h;exact hv)
 | .nilS,y,v,h,hv=>by
   cases y<;>simp only[leS] at h
   · trivial
   · exact hv
   · obtain⟨h1,rfl⟩:=h;exact AV.le_nilS h1 S v hv
   · obtain⟨rfl,rfl,h1,h2,h3,h4,h5⟩:=h
     rcases hS with hS|rfl
     · exact zcg h1 h2 h3 h4 h5 rfl S v hS hv
     · exact absurd h5 (Nat.not_lt_zero _)
 | .nul,y,v,h,hv=>by
   cases y<;>simp only[leS] at h
   · trivial
   · exact hv
   · obtain⟨h1,rfl⟩:=h;exact AV.le_nul h1 S v hv
 | .emp,y,v,h,hv=>by
   cases y<;>simp only[leS] at h
   · trivial
   · exact hv
   · obtain⟨h1,rfl⟩:=h;exact AV.le_emp h1 S v hv
 | .lst w xs,y,v,h,hv=>by
   cases y<;>simp only[leS] at h
   · trivial
   · obtain⟨rfl,rfl⟩:=h;exact hv
 | .full w xs,y,v,h,hv=>by
   cases y<;>simp only[leS] at h
   · trivial
   · rename_i w' ys
     obtain⟨rfl,h1,hp⟩:=h;obtain⟨_,h0,a,cap,vs,hv,hc,hl,hr⟩:=Ll hv;have hn:=Ae.length hl;have hm:=Iv hS xs h1 hl;have hln:ys.length=xs.length:=by rw[←Ae.length hm,hn]
     exact⟨hp,h0,a,cap,vs,by rw[hln];exact hv,by rw[hln];exact hc,hm,fun hne=>hr fun h=>hne (by rw[h] at hln;exact List.length_eq_zero_iff.1 hln)⟩
   · obtain⟨rfl,rfl⟩:=h;exact hv
 | .map g a,y,v,h,hv=>by cases y<;>simp only[leS] at h<;>first|trivial|(cases h;done)|(cases h;exact hv)
 | .ref g a o n,y,v,h,hv=>by
   cases y<;>simp only[leS] at h
   · trivial
   · obtain⟨rfl,rfl,rfl,rfl⟩:=h;exact hv
 | .ptr g a o n,y,v,h,hv=>by
   cases y<;>simp only[leS] at h
   · trivial
   · obtain⟨rfl,rfl,rfl,rfl⟩:=h;exact hv
 | .agg xs,y,v,h,hv=>by
   cases y<;>simp only[leS] at h
   · trivial
   · obtain⟨vs,rfl,hr⟩:=hv;exact⟨vs,rfl,Iv hS xs h hr⟩
 | .tup xs,y,v,h,hv=>by
   cases y<;>simp only[leS] at h
   · trivial
   · obtain⟨vs,rfl,hr⟩:=hv;exact⟨vs,rfl,Iv hS xs h hr⟩
theorem Iv {S:MS} {l:List Grp} (hS:SRel S (hl l)∨l=[]):∀ (xs:List AV) {ys:List AV} {vs:List Value},leSL l xs ys→Ae S xs vs→Ae S ys vs
 | [],ys,vs,h,hv=>by rw[show ys=[] from h];exact hv
 | x::xs,[],vs,h,hv=>h.elim
 | x::xs,y::ys,vs,h,hv=>by
   obtain⟨v,r,rfl,h1,h2⟩:=hv;exact⟨v,r,rfl,Yx hS x h.1 h1,Iv hS xs h.2 h2⟩
end
theorem z5h {l:List Grp}:∀ {xs ys:List AV},leSL l xs ys→ys.length=xs.length
 | [],ys,h=>by rw[show ys=[] from h]
 | _::_,[],h=>h.elim
 | _::_,_::_,h=>by simp[z5h h.2]
mutual
theorem Hv (l:List Grp):∀ x:AV,leS l x x
 | .any=>trivial
 | .int _ _=>⟨rfl,rfl⟩
 | .bool _=>rfl
 | .str _=>rfl
 | .nilS=>trivial
 | .nul=>trivial
 | .emp=>trivial
 | .lst _ _=>⟨rfl,rfl⟩
 | .full _ _=>⟨rfl,rfl⟩
 | .map _ _=>rfl
 | .ref ..=>⟨rfl,rfl,rfl,rfl⟩
 | .ptr ..=>⟨rfl,rfl,rfl,rfl⟩
 | .cptr _=>rfl
 | .nilP=>rfl
 | .nilF=>rfl
 | .yld _=>rfl
 | .fn ..=>rfl
 | .agg xs=>A7 l xs
 | .tup xs=>A7 l xs
theorem A7 (l:List Grp):∀ xs:List AV,leSL l xs xs
 | []=>rfl
 | x::xs=>⟨Hv l x,A7 l xs⟩
end
theorem zkz {x y:AV} (h:leS [] x y):AV.le x y:=fun S v hv=>Yx (.inr rfl) x h hv
theorem Lb {xs ys:List AV} (h:leSL [] xs ys):leL xs ys:=fun S v hv=>Iv (.inr rfl) xs h hv
def zch (l:List Grp) (G G':Grp):Prop:=G.w=G'.w∧G.ver=G'.ver∧(G'.exact=true→G.exact=true)∧leSL l G.xs G'.xs
def Ic (l0:List Grp):List Grp→List Grp→Prop
 | [],[]=>True
 | G::l,G'::l'=>zch l0 G G'∧Ic l0 l l'
 | _,_=>False
theorem M7 {l0:List Grp}:∀ {l l':List Grp},Ic l0 l l'→l'.length=l.length
 | [],[],_=>rfl
 | G::l,G'::l',h=>by simp[M7 h.2]
 | [],_::_,h=>h.elim
 | _::_,[],h=>h.elim
theorem P7 {l0:List Grp}:∀ {l l':List Grp},Ic l0 l l'→∀ g,g<l.length→zch l0 (l.getD g default) (l'.getD g default)
 | [],[],_,g,hg=>by simp at hg
 | G::l,G'::l',h,0,_=>h.1
 | G::l,G'::l',h,g+1,hg=>by simpa using P7 h.2 g (by simpa using hg)
 | [],_::_,h,_,_=>h.elim
 | _::_,[],h,_,_=>h.elim
theorem Jy {S:MS} {l l':List Grp} (hS:SRel S (hl l)) (h:Ic l l l'):SRel S (hl l'):=by
 have hlen:=M7 h;refine⟨hS.n.trans hlen.symm,fun g hg=>?_,fun g g' hg hg' hne hw hw'=>?_,hS.im⟩
 · have hg':g<l.length:=by rw[←hlen];exact hg
   obtain⟨h1,h2,h3,h5⟩:=P7 h g hg';have h4:(l.getD g default).xs.length=(l'.getD g default).xs.length:=(z5h h5).symm;have hG:=hS.grp g hg';rw[Ck] at hG ⊢;refine⟨by rw[←h2];exact hG.ver,by rw[←h1];exact hG.wid,fun hw hc=>?_,fun hw=>by rw[←h4];exact hG.len (by rw[h1];exact hw),fun hw he=>by rw[←h4];exact hG.full (by rw[h1];exact hw) (h3 he),fun hw he=>?_⟩
   rotate_left
   · obtain⟨⟨es,clock,a1,a2⟩,a5⟩:=hG.mlive (by rw[h1];exact hw) (h3 he)
     exact⟨⟨es,clock,a1,Iv (.inl hS) _ h5 a2⟩,a5⟩
   obtain⟨⟨cells,TT,us,a1,a2,a3,a4⟩,a5⟩:=hG.live (by rw[h1];exact hw) hc;exact⟨⟨cells,TT,us,a1,by rw[←h1];exact a2,Iv (.inl hS) _ h5 a3,by rw[←h1];exact a4⟩,a5⟩
 · have hg1:g<l.length:=by rw[←hlen];exact hg
   have hg1':g'<l.length:=by rw[←hlen];exact hg'
   have key:∀ g,g<l.length→((hl l').at_ g).has (S.cap g)→((hl l).at_ g).has (S.cap g):=fun g hg hh=>by
     obtain⟨k1,_,k3,_⟩:=P7 h g hg;rw[Ck] at hh ⊢;rcases hh with⟨q1,q2⟩|⟨q1,q2⟩
     · exact .inl ⟨by rw[k1];exact q1,q2⟩
     · exact .inr ⟨by rw[k1];exact q1,k3 q2⟩
   exact hS.apart g g' hg1 hg1' hne (key g hg1 hw) (key g' hg1' hw')
inductive Src where
 | grp (g:Nat)
 | virt (w:Nat)
def A5 (w:Nat):AV→Src
 | .ref g _ _ _=>.grp g
 | .ptr g _ _ _=>.grp g
 | .map g _=>.grp g
 | _=>.virt w
def cellAt (H:Ac) (x:AV) (k:Nat):AV:=match x with
 | .ptr g _ i _=>((H.at_ g).xs.getD i .any).cells.getD k .any
 | _=>.any
def Et:Nat→List Src→List Nat × List Nat
 | _,[]=>([],[])
 | N,.grp g::r=>(g::(Et N r).1,(Et N r).2)
 | N,.virt w::r=>(N::(Et (N+1) r).1,w::(Et (N+1) r).2)
def Io (w:Nat):Grp:=⟨w,1,true,[]⟩
def C8:List (Nat × AV)→Env
 | [],_=>.any
 | (t,x)::l,j=>if j=t then x else C8 l j
def Nv (l2:List Grp) (H1:Ac) (b:Nat) (ks:List Nat) (env:Env):List (Nat × AV)→Prop
 | []=>True
 | (t,y)::r=>leS l2 (rnV b H1 ks 6 (env t)) y∧Nv l2 H1 b ks env r
def allB (b n:Nat):List Nat→Prop
 | []=>True
 | k::r=>b≤k∧k<n∧allB b n r
def z1w:List Nat→Prop
 | []=>True
 | k::r=>k∉r∧z1w r
def rnG (b:Nat) (H:Ac) (ks:List Nat) (v:Nat) (G:Grp):Grp:=⟨G.w,v,G.exact,G.xs.map (rnV b H ks 6)⟩
def Dr (b:Nat) (H:Ac) (ks:List Nat):List Grp→List Grp
 | []=>[]
 | G::l=>rnG b H ks G.ver G::Dr b H ks l
def D5 (b:Nat) (H:Ac) (ks:List Nat) (l:List Grp):List Nat→List Grp
 | []=>[]
 | k::r=>rnG b H ks 1 (l.getD k default)::D5 b H ks l r
def zn5 (b:Nat) (env:Env) (l1 l2:List Grp) (ks:List Nat) (live:List (Nat × AV)) (heap:List Grp):Prop:=Nv l2 (hl l1) b ks env live∧Ic l2 l2 heap
def zn6 (b:Nat) (env:Env) (l1:List Grp) (ks:List Nat) (live:List (Nat × AV)) (heap:List Grp):Prop :=
 allB b l1.length ks∧z1w ks∧zn5 b env l1 (Dr b (hl l1) ks (l1.take b)++D5 b (hl l1) ks l1 ks) ks live heap
def P8:List Nat→Prop
 | []=>True
 | w::r=>0<w∧P8 r
theorem Jz:∀ {ws:List Nat},P8 ws→∀ w∈ws,0<w
 | [],_,w,hw=>by simp at hw
 | k::r,h,w,hw=>by
   rcases List.mem_cons.1 hw with rfl|hw
   · exact h.1
   · exact Jz h.2 w hw
def zn7 (b:Nat) (env:Env) (l:List Grp) (p:List Nat × List Nat) (live:List (Nat × AV)) (heap:List Grp):Prop:=P8 p.2∧zn6 b env (l++p.2.map Io) p.1 live heap
def Head (b:Nat) (env:Env) (H:Ac) (srcs:List Src) (live:List (Nat × AV)) (heap:List Grp):Prop:=b≤H.n∧zn7 b env H.groups (Et H.n srcs) live heap
section
variable {P:Program} {n b:Nat} {env:Env} {H:Ac} {Q:Ex→Env→Ac→Prop}
theorem zn8 {l:List Grp} {srcs:List Src} {live:List (Nat × AV)} {heap:List Grp}:Head b env (hl l) srcs live heap=(b≤l.length∧zn7 b env l (Et l.length srcs) live heap):=by
 rw[Head,Yw,hl_n]
theorem zn9 {c:AC} (w:Nat) (hw0:0<w) (h:T P n b c env (H.push ⟨w,1,true,[]⟩) Q):T P n b c env H Q:=by
 intro rd mm hrd code hc S a hb hS hF;exact wpIn_mono (h rd mm hrd code hc (S.virt w) a (Nat.le_succ_of_le hb) (hS.virt w hw0) ⟨hF.size,hF.defers.mono (Evo.virt _),fun j hj=>VRel.mono (Evo.virt _) _ (hF.val j hj)⟩) fun e a w hh=>hh.trans ((Evo.virt _).down hb)
theorem z1x {c:AC}:∀ (ws:List Nat) {l:List Grp},(∀ w∈ws,0<w)→T P n b c env (hl (l++ws.map Io)) Q→T P n b c env (hl l) Q
 | [],l,_,h=>by simpa using h
 | w::ws,l,hw,h=>zn9 w (hw w (by simp)) (by rw[D4];exact z1x ws (fun w' h'=>hw w' (by simp[h'])) (by simpa [Io] using h))
theorem zci {c:AC} {H':Ac} (hn:H'.n=H.n) (h:∀ g,g<H.n→H'.at_ g=H.at_ g) (k:T P n b c env H' Q):T P n b c env H Q :=
 fun rd mm hrd code hc S a hb hS hF=>k rd mm hrd code hc S a hb (hS.congr hn h) hF
theorem Pj {m:Nat}:∀ {ks:List Nat},allB b m ks→∀ k∈ks,b≤k∧k<m
 | [],_,k,hk=>by simp at hk
 | k::r,h,j,hj=>by
   rcases List.mem_cons.1 hj with rfl|hj
   · exact⟨h.1,h.2.1⟩
   · exact Pj h.2.2 j hj
theorem Hw:∀ {ks:List Nat},z1w ks→ks.Nodup
 | [],_=>List.nodup_nil
 | k::r,h=>List.nodup_cons.2 ⟨h.1,Hw h.2⟩
theorem P9 {H:Ac} {ks:List Nat}:∀ {l:List Grp},(Dr b H ks l).length=l.length
 | []=>rfl
 | G::l=>by simp[Dr,P9]
theorem Tr {H:Ac} {ks:List Nat}:∀ {l:List Grp} {g:Nat},g<l.length→(Dr b H ks l).getD g default=rnG b H ks (l.getD g default).ver (l.getD g default)
 | [],g,h=>by simp at h
 | G::l,0,_=>rfl
 | G::l,g+1,h=>by simpa [Dr] using Tr (l:=l) (g:=g) (by simpa using h)
theorem Qa {H:Ac} {ks:List Nat} {l:List Grp}:∀ {r:List Nat},(D5 b H ks l r).length=r.length
 | []=>rfl
 | k::r=>by simp[D5,Qa]
theorem Ts {H:Ac} {ks:List Nat} {l:List Grp}:∀ {r:List Nat} {j:Nat},j<r.length→(D5 b H ks l r).getD j default=rnG b H ks 1 (l.getD (r.getD j 0) default)
 | [],j,h=>by simp at h
 | k::r,0,_=>rfl
 | k::r,j+1,h=>by simpa [D5] using Ts (r:=r) (j:=j) (by simpa using h)
theorem Qb {l1:List Grp} {ks:List Nat} (hb:b≤l1.length):((hl (Dr b (hl l1) ks (l1.take b)++D5 b (hl l1) ks l1 ks)).n=((hl l1).repack b ks 6).n) ∧
   ∀ g,g<((hl l1).repack b ks 6).n→(hl (Dr b (hl l1) ks (l1.take b)++D5 b (hl l1) ks l1 ks)).at_ g=((hl l1).repack b ks 6).at_ g:=by
 have hO:(Dr b (hl l1) ks (l1.take b)).length=b:=by rw[P9,List.length_take];omega
 refine⟨?_,fun g hg=>?_⟩
 · show (Dr b (hl l1) ks (l1.take b)++D5 b (hl l1) ks l1 ks).length=b+ks.length
   rw[List.length_append,hO,Qa]
 · have hg':g<b+ks.length:=hg
   rw[Ck];show _=(⟨_,if g<b then (l1.getD g default).ver else 1,_,_⟩:Grp);by_cases hgb:g<b
   · rw[if_pos hgb,E4 hgb]
     have e:(Dr b (hl l1) ks (l1.take b)++D5 b (hl l1) ks l1 ks).getD g default=(Dr b (hl l1) ks (l1.take b)).getD g default:=by
       simp[List.getD,List.getElem?_append_left (show g<(Dr b (hl l1) ks (l1.take b)).length by omega)]
     have e2:(l1.take b).getD g default=l1.getD g default:=by
       simp[List.getD,hgb]
     rw[e,Tr (by simp;omega),e2];rfl
   · rw[if_neg hgb]
     have e:(Dr b (hl l1) ks (l1.take b)++D5 b (hl l1) ks l1 ks).getD g default=(D5 b (hl l1) ks l1 ks).getD (g-b) default:=by
       have:=List.getElem?_append_right (l₁:=Dr b (hl l1) ks (l1.take b)) (l₂:=D5 b (hl l1) ks l1 ks) (i:=g) (by omega);rw[hO] at this;simp[List.getD,this]
     rw[e,Ts (by omega)];have e3:inv b ks g=ks.getD (g-b) 0:=by rw[inv,if_neg hgb]
     rw[e3];rfl
theorem Qc {S:MS} {l2:List Grp} {H1:Ac} {ks:List Nat} {a:Act} (hS:SRel S (hl l2)) (hF:FRel S n (fun i=>rnV b H1 ks 6 (env i)) a):∀ {live:List (Nat × AV)},Nv l2 H1 b ks env live→∀ i,i<n→VRel S (C8 live i) (a.tmps.getD i undef)
 | [],_,i,_=>trivial
 | (t,y)::r,h,i,hi=>by
   show VRel S (if i=t then y else C8 r i) _;split
   · rename_i hit
     subst hit;exact Yx (.inl hS) _ h.1 (hF.val i hi)
   · exact Qc hS hF h.2 i hi
theorem z5i {c:AC} {srcs:List Src} {live:List (Nat × AV)} {heap:List Grp} (hh:Head b env H srcs live heap) (h:T P n b c (C8 live) (hl heap) Q):T P n b c env H Q:=by
 obtain⟨hb,hh⟩:=hh;have hgn:H.groups.length=H.n:=by simp[Ac.groups]
 refine zci (H':=hl H.groups) hgn (fun g hg=>?_) ?_
 · show H.groups.getD g default=_
   simp[Ac.groups,List.getD,hg]
 refine z1x (Et H.n srcs).2 (Jz hh.1) ?_;replace hh:=hh.2;generalize hl1:H.groups++(Et H.n srcs).2.map Io=l1;simp only[hl1] at hh;obtain⟨h1,h2,h3,h4⟩:=hh;have hb1:b≤l1.length:=by rw[←hl1,List.length_append];omega
 refine zho (Et H.n srcs).1 6 hb1 (fun k hk=>Pj h1 k hk) (Hw h2) ?_;obtain⟨e1,e2⟩:=Qb (ks:=(Et H.n srcs).1) hb1;refine zci e1 e2 ?_;intro rd mm hrd code hc S a hbS hS hF;have hlen:=M7 h4;exact h rd mm hrd code hc S a hbS (Jy hS h4) ⟨hF.size,hF.defers,Qc hS hF h3⟩
theorem Ap {σ:Type} (Fact:σ→Prop) (μ:σ→Nat) (live:σ→List (Nat × AV)) (heap:σ→List Grp) (srcs:Env→Ac→List Src) {c:AC} (s0:σ) (h0:Fact s0) (he:Head b env H (srcs env H) (live s0) (heap s0))
   (round:∀ s,Fact s→T P n b c (C8 (live s)) (hl (heap s)) (Ex.then (fun env' H'=>∃ s',Head b env' H' (srcs env' H') (live s') (heap s')∧Fact s'∧μ s'<μ s) Q)):T P n b (.loop c) env H Q:=by
 refine zkw (fun s env H=>Fact s∧Head b env H (srcs env H) (live s) (heap s)) μ s0 ⟨h0,he⟩ fun s env H hI=>?_;refine z5i hI.2 (T.mono (round s hI.1) fun x env' H' hh=>?_);cases x with
 | normal=>obtain⟨s',k1,k2,k3⟩:=hh;exact⟨s',⟨k2,k1⟩,k3⟩
 | exit id=>exact hh
 | ret=>exact hh
end
def hset (l:List Grp) (g:Nat) (G:Grp):Ac:=(hl l).set g G
def setQ:List Grp→Nat→Grp→Option (List Grp)
 | [],_,_=>none
 | _::l,0,G=>some (G::l)
 | K::l,g+1,G=>(setQ l g G).map (K::·)
theorem Yy:∀ {l:List Grp} {g:Nat} {G:Grp} {l':List Grp},setQ l g G=some l'→g<l.length∧l'=l.set g G
 | [],_,_,_,h=>by cases h
 | _::l,0,G,_,h=>by cases h;exact⟨by simp,rfl⟩
 | K::l,g+1,G,l',h=>by
   obtain⟨r,hr,rfl⟩:=Option.map_eq_some_iff.1 h;obtain⟨h1,rfl⟩:=Yy hr;exact⟨by simpa using h1,rfl⟩
theorem zna (l:List Grp) (g:Nat) (G:Grp):(hl l).set g G=(match setQ l g G with|some l'=>hl l'|none=>hset l g G):=by
 cases h:setQ l g G with
 | none=>rfl
 | some l'=>obtain⟨h1,rfl⟩:=Yy h;exact Gm l g G h1
theorem zcj (K:Grp) (l:List Grp) (G:Grp):setQ (K::l) 0 G=some (G::l):=rfl
theorem zck (K:Grp) (l:List Grp) (g:Nat) (G:Grp):setQ (K::l) (g+1) G=(setQ l g G).map (K::·):=rfl
theorem znb (g:Nat):pos [] g=none:=rfl
theorem zhp (k:Nat) (ks:List Nat) (g:Nat):pos (k::ks) g=if g=k then some 0 else (pos ks g).map (·+1):=rfl
section
variable {b d:Nat} {H:Ac} {ks:List Nat}
def rnL (b:Nat) (H:Ac) (ks:List Nat) (d:Nat) (xs:List AV):List AV:=xs.map (rnV b H ks d)
theorem zre (xs:List AV):xs.map (rnV b H ks (d+1))=bif Aw xs then xs else rnL b H ks (d+1) xs:=by
 cases h:Aw xs
 · rfl
 · have key:∀ (d:Nat) {x:AV},x.pure=true→rnV b H ks d x=x:=by
     intro d
     induction d with
     | zero=>intro x hx;simp[rnV,hx]
     | succ d ih =>
       intro x hx
       have kl:∀ cs:List AV,Aw cs=true→cs.map (rnV b H ks d)=cs:=fun cs hc=>by
         have:cs.map (rnV b H ks d)=cs.map id:=List.map_congr_left fun y hy=>ih (Bv.1 hc y hy);simpa using this
       cases x with
       | ref=>simp[AV.pure] at hx
       | ptr=>simp[AV.pure] at hx
       | map=>simp[AV.pure] at hx
       | agg cs=>rw[rnV,kl cs (by simpa [AV.pure] using hx)]
       | tup cs=>rw[rnV,kl cs (by simpa [AV.pure] using hx)]
       | fn f cs=>rw[rnV,kl cs (by simpa [AV.pure] using hx)]
       | _=>rfl
   have:xs.map (rnV b H ks (d+1))=xs.map id:=List.map_congr_left fun y hy=>key _ (Bv.1 h y hy);simpa using this
theorem znc:rnL b H ks d []=[]:=rfl
theorem zhq (x:AV) (xs:List AV):rnL b H ks d (x::xs)=rnV b H ks d x::rnL b H ks d xs:=rfl
theorem zrf (g v off len:Nat):rnV b H ks (d+1) (.ref g v off len)=if g<b then .ref g v off len else if v=(H.at_ g).ver then
     (match pos ks g with
      | some j=>.ref (b+j) 1 off len
      | none=>if 0<(H.at_ g).w∧off+len≤(H.at_ g).xs.length then frzL (H.at_ g).w ((((H.at_ g).xs.drop off).take len).map (rnV b H ks d)) else .any)
     else .any:=rfl
theorem zrg (g v i o:Nat):rnV b H ks (d+1) (.ptr g v i o)=if g<b then .ptr g v i o else if v=(H.at_ g).ver then
     (match pos ks g with
      | some j=>.ptr (b+j) 1 i o
      | none=>if o=0∧i<(H.at_ g).xs.length∧0<(H.at_ g).w then frzP (rnV b H ks d ((H.at_ g).xs.getD i .any)) else .any)
     else .any:=rfl
theorem zrh (cs:List AV):rnV b H ks (d+1) (.agg cs)=.agg (cs.map (rnV b H ks d)):=rfl
theorem zri (cs:List AV):rnV b H ks (d+1) (.tup cs)=.tup (cs.map (rnV b H ks d)):=rfl
theorem rn_fn (f:Nat) (cs:List AV):rnV b H ks (d+1) (.fn f cs)=.fn f (cs.map (rnV b H ks d)):=rfl
theorem zrj:rnV b H ks (d+1) .any=.any:=rfl
theorem znd (w:Nat) (xs:List AV):rnV b H ks (d+1) (.full w xs)=.full w xs:=rfl
theorem rn_mp (g v:Nat):rnV b H ks (d+1) (.map g v)=if g<b then .map g v else if v=(H.at_ g).ver then (match pos ks g with|some j=>.map (b+j) 1|none=>.any) else .any:=rfl
theorem zne (q:Bool):rnV b H ks (d+1) (.bool q)=.bool q:=rfl
theorem zrk (k:IntKind) (n:Int):rnV b H ks (d+1) (.int k n)=.int k n:=rfl
theorem zrl (s:List UInt8):rnV b H ks (d+1) (.str s)=.str s:=rfl
theorem znf:rnV b H ks (d+1) .nilS=.nilS:=rfl
theorem zrm:rnV b H ks (d+1) .nul=.nul:=rfl
theorem zng:rnV b H ks (d+1) .nilP=.nilP:=rfl
theorem znh:rnV b H ks (d+1) .nilF=.nilF:=rfl
theorem zrn (l:Nat):rnV b H ks (d+1) (.yld l)=.yld l:=rfl
theorem zro (w:Nat) (xs:List AV):rnV b H ks (d+1) (.lst w xs)=.lst w xs:=rfl
theorem zni (x:AV):rnV b H ks (d+1) (.cptr x)=.cptr x:=rfl
end
section
variable {l l0 l':List Grp} {G G':Grp}
theorem zrp:Ic l0 [] []=True:=rfl
theorem znj:Ic l0 (G::l) (G'::l')=(zch l0 G G'∧Ic l0 l l'):=rfl
theorem g_le:zch l0 G G'=(G.w=G'.w∧G.ver=G'.ver∧(G'.exact=true→G.exact=true)∧leSL l0 G.xs G'.xs):=rfl
theorem zcl {x:AV}:leS l x x=True:=eq_true (Hv l x)
theorem zhr {xs:List AV}:leSL l xs xs=True:=eq_true (A7 l xs)
theorem znk {ys:List AV}:leSL l [] ys=(ys=[]):=by simp only[leSL]
theorem zhs {x y:AV} {xs ys:List AV}:leSL l (x::xs) (y::ys)=(leS l x y∧leSL l xs ys):=by simp only[leSL]
theorem Tt {k:IntKind} {a:Int} {k':IntKind} {b:Int}:leS l (.int k a) (.int k' b)=(k=k'∧a=b):=by simp only[leS]
theorem Nw {a:Bool} {b:Bool}:leS l (.bool a) (.bool b)=(a=b):=by simp only[leS]
theorem Qd  {w:Nat} {ys:List AV}:leS l .nilS (.lst w ys)=(0<w∧ys=[]):=by simp only[leS]
theorem z1y  {g v o n:Nat}:leS l .nilS (.ref g v o n)=(o=0∧n=0∧(l.getD g default).ver=v∧0<(l.getD g default).w∧(l.getD g default).xs=[]∧(l.getD g default).exact=true∧g<l.length):=by simp only[leS]
theorem Tu  {w:Nat} {ys:List AV}:leS l .nul (.lst w ys)=(0<w∧ys=[]):=by simp only[leS]
theorem Tv  {w:Nat} {ys:List AV}:leS l .emp (.lst w ys)=(0<w∧ys=[]):=by simp only[leS]
theorem Yz {w:Nat} {xs:List AV} {w':Nat} {ys:List AV}:leS l (.full w xs) (.full w' ys)=(w=w'∧xs=ys):=by simp only[leS]
theorem Qe {w:Nat} {xs:List AV} {w':Nat} {ys:List AV}:leS l (.full w xs) (.lst w' ys)=(w=w'∧leSL l xs ys∧Aw ys=true):=by simp only[leS]
theorem z92 {g v g' v':Nat}:leS l (.map g v) (.map g' v')=(g=g'∧v=v'):=by simp only[leS,AV.map.injEq]
theorem Tw {w:Nat} {xs:List AV} {w':Nat} {ys:List AV}:leS l (.lst w xs) (.lst w' ys)=(w=w'∧xs=ys):=by simp only[leS]
theorem z93 {g v o n:Nat} {g' v' o' n':Nat}:leS l (.ref g v o n) (.ref g' v' o' n')=(g=g'∧v=v'∧o=o'∧n=n'):=by simp only[leS]
theorem z94 {g v o n:Nat} {g' v' o' n':Nat}:leS l (.ptr g v o n) (.ptr g' v' o' n')=(g=g'∧v=v'∧o=o'∧n=n'):=by simp only[leS]
theorem Tx {xs:List AV} {ys:List AV}:leS l (.agg xs) (.agg ys)=leSL l xs ys:=by simp only[leS]
theorem Ty {xs:List AV} {ys:List AV}:leS l (.tup xs) (.tup ys)=leSL l xs ys:=by simp only[leS]
theorem zrq {x:AV}:leS l x .any=True:=eq_true (by cases x<;>simp only[leS])
def ansW (x y:AV):Prop:=leS [] x y
theorem znl {x:AV}:ansW x x=True:=zcl
theorem zrr {k k':IntKind} {a b:Int}:ansW (.int k a) (.int k' b)=(k=k'∧a=b):=Tt
theorem znm {a b:Bool}:ansW (.bool a) (.bool b)=(a=b):=Nw
theorem znn {w w':Nat} {xs ys:List AV}:ansW (.full w xs) (.lst w' ys)=(w=w'∧leSL [] xs ys∧Aw ys=true):=Qe
theorem zrs {w w':Nat} {xs ys:List AV}:ansW (.lst w xs) (.lst w' ys)=(w=w'∧xs=ys):=Tw
theorem zno {w:Nat} {ys:List AV}:ansW .nilS (.lst w ys)=(0<w∧ys=[]):=Qd
theorem zrt {w:Nat} {ys:List AV}:ansW .nul (.lst w ys)=(0<w∧ys=[]):=Tu
theorem zru {w:Nat} {ys:List AV}:ansW .emp (.lst w ys)=(0<w∧ys=[]):=Tv
theorem zrv {xs ys:List AV}:ansW (.agg xs) (.agg ys)=leSL [] xs ys:=Tx
theorem Bq {xs ys:List AV}:ansW (.tup xs) (.tup ys)=leSL [] xs ys:=Ty
end
attribute [push_cast] Yz Qe z92 znn znd rn_mp
attribute [push_cast] zcl zhr znk zhs Tt Nw Qd z1y Tu Tv Tw z93 z94 Tx Ty zrq znl zrr znm zrs zno zrt zru zrv
section
variable {H H1:Ac} {l0:List Grp} {b t:Nat} {ks:List Nat} {env:Env} {y:AV} {r:List (Nat × AV)}
theorem zht:Nv l0 H1 b ks env []=True:=rfl
theorem zcm:Nv l0 H1 b ks env ((t,y)::r)=(leS l0 (rnV b H1 ks 6 (env t)) y∧Nv l0 H1 b ks env r):=rfl
theorem zhu {n:Nat}:allB b n []=True:=rfl
theorem zcn {n k:Nat}:allB b n (k::ks)=(b≤k∧k<n∧allB b n ks):=rfl
theorem zco:z1w []=True:=rfl
theorem z95 {k:Nat}:z1w (k::ks)=(k∉ks∧z1w ks):=rfl
theorem zcp {w g v o n:Nat}:A5 w (.ref g v o n)=.grp g:=rfl
theorem zcq {w g v i o:Nat}:A5 w (.ptr g v i o)=.grp g:=rfl
theorem zcr {w g v:Nat}:A5 w (.map g v)=.grp g:=rfl
theorem z96:P8 []=True:=rfl
theorem z1z {w:Nat} {r:List Nat}:P8 (w::r)=(0<w∧P8 r):=rfl
theorem z97 {w:Nat}:A5 w .nilS=.virt w:=rfl
theorem z98 {g v i o k:Nat}:cellAt H (.ptr g v i o) k=((H.at_ g).xs.getD i .any).cells.getD k .any:=rfl
theorem zrw {N:Nat}:Et N []=([],[]):=rfl
theorem zrx {N g:Nat} {l:List Src}:Et N (.grp g::l)=(g::(Et N l).1,(Et N l).2):=rfl
theorem znp {N w:Nat} {l:List Src}:Et N (.virt w::l)=(N::(Et (N+1) l).1,w::(Et (N+1) l).2):=rfl
theorem zry {j:Nat}:C8 [] j=.any:=rfl
theorem znq {j:Nat}:C8 ((t,y)::r) j=if j=t then y else C8 r j:=rfl
variable {l l1 l2:List Grp} {G:Grp} {live:List (Nat × AV)} {heap:List Grp}
theorem head1 {p q:List Nat}:zn7 b env l (p,q) live heap=(P8 q∧zn6 b env (l++q.map Io) p live heap):=rfl
theorem head2:zn6 b env l1 ks live heap=(allB b l1.length ks∧z1w ks∧zn5 b env l1 (Dr b (hl l1) ks (l1.take b)++D5 b (hl l1) ks l1 ks) ks live heap):=rfl
theorem head3:zn5 b env l1 l2 ks live heap=(Nv l2 (hl l1) b ks env live∧Ic l2 l2 heap):=rfl
theorem zrz:Dr b H ks []=[]:=rfl
theorem znr:Dr b H ks (G::l)=rnG b H ks G.ver G::Dr b H ks l:=rfl
theorem zs0:D5 b H ks l []=[]:=rfl
theorem zns {k:Nat} {r:List Nat}:D5 b H ks l (k::r)=rnG b H ks 1 (l.getD k default)::D5 b H ks l r:=rfl
theorem zs1 {v:Nat}:rnG b H ks v G=⟨G.w,v,G.exact,G.xs.map (rnV b H ks 6)⟩:=rfl
end
theorem zhv (i:Nat) (ks:List Nat):Es i ks []=[]:=rfl
theorem Gb (i:Nat) (ks:List Nat) (G:Grp) (l:List Grp):Es i ks (G::l)=(if i∈ks then G.dead else G)::Es (i+1) ks l:=rfl
theorem znt (w:Nat):Io w=⟨w,1,true,[]⟩:=rfl
theorem znu (w:Nat) (xs:List AV):frzL w xs=bif Aw xs then .lst w xs else .any:=rfl
theorem znv (x:AV):frzP x=bif x.pure then .cptr x else .any:=rfl
theorem Qf (xs ys:List AV):Aw (xs++ys)=(Aw xs&&Aw ys):=by
 induction xs with
 | nil=>rfl
 | cons x xs ih=>simp[Aw,ih,Bool.and_assoc]
theorem z99 (i:Nat):((i:Int)-1).toNat=i-1:=by omega
theorem z9a (i:Nat):((i:Int)+1).toNat=i+1:=by omega
theorem zcs (i k:Nat):((i:Int)+(k:Int)).toNat=i+k:=by omega
theorem drop_at {α:Type} [Inhabited α] {l:List α} {i:Nat} (h:i<l.length):l.drop i=nth l i::l.drop (i+1):=by
 rw[List.drop_eq_getElem_cons h];simp[nth,List.getD,h]
theorem take_at {α:Type} [Inhabited α] {l:List α} {i:Nat} (h:i<l.length):l.take (i+1)=l.take i++[nth l i]:=by
 rw[List.take_succ_eq_append_getElem h];simp[nth,List.getD,h]
theorem zhw {α:Type} [Inhabited α] (x:α) (l:List α):nth (x::l) 0=x:=rfl
theorem zhx {α:Type} [Inhabited α] (x:α) (l:List α) (i:Nat):nth (x::l) (i+1)=nth l i:=rfl
theorem Ao {α:Type} [Inhabited α] {l:List α} {i:Nat} (h:i<l.length):nth l i∈l:=by
 have:nth l i=l[i]:=by simp[nth,List.getD,h]
 rw[this];exact List.getElem_mem h
theorem znw (g k:Nat) (ks:List Nat):(g∈k::ks)=(g=k∨g∈ks):=by simp
theorem z2a (g:Nat):(g∈([]:List Nat))=False:=by simp
theorem znx (H:Ac) (ks:List Nat) (g:Nat):(H.only ks).at_ g=if g∈ks then H.at_ g else (H.at_ g).dead:=rfl
def B1:List AV→List Nat
 | []=>[]
 | .ref g _ _ _::l=>g::B1 l
 | .ptr g _ _ _::l=>g::B1 l
 | .agg cs::l=>B1 cs++B1 l
 | .fn _ cs::l=>B1 cs++B1 l
 | _::l=>B1 l
theorem C1 {w:Nat} {xs l:List AV}:B1 (.lst w xs::l)=B1 l:=by rw[B1]<;>(intros;simp_all)
theorem zct {x:AV} {l:List AV}:B1 (.cptr x::l)=B1 l:=by rw[B1]<;>(intros;simp_all)
theorem zhy {k:IntKind} {n:Int} {l:List AV}:B1 (.int k n::l)=B1 l:=by rw[B1]<;>(intros;simp_all)
theorem zcu {b:Bool} {l:List AV}:B1 (.bool b::l)=B1 l:=by rw[B1]<;>(intros;simp_all)
theorem zcv {l:List AV}:B1 (.nilS::l)=B1 l:=by rw[B1]<;>(intros;simp_all)
theorem zhz {g v o n:Nat} {l:List AV}:B1 (.ref g v o n::l)=g::B1 l:=by rw[B1]
theorem zi0 {g v o n:Nat} {l:List AV}:B1 (.ptr g v o n::l)=g::B1 l:=by rw[B1]
theorem zi1 {cs l:List AV}:B1 (.agg cs::l)=B1 cs++B1 l:=by rw[B1]
theorem zny {f:Nat} {cs l:List AV}:B1 (.fn f cs::l)=B1 cs++B1 l:=by rw[B1]
theorem zi2:B1 []=[]:=by rw[B1]
attribute [push_cast] C1 zct zhy zcu zcv zhz zi0 zi1 zny zi2
def okA (d:Nat) (H:Ac):List AV→Prop
 | []=>True
 | x::l=>Cn d H x∧okA d H l
section
variable {P:Program} {f:Nat} {xs ys:List AV} {y:AV} {l:List Grp} {H:Ac}
theorem Qg {d:Nat}:∀ {xs:List AV},okA d H xs→∀ x∈xs,Cn d H x
 | [],_,x,hx=>by simp at hx
 | z::r,h,x,hx=>by
   rcases List.mem_cons.1 hx with rfl|hx
   · exact h.1
   · exact Qg h.2 x hx
theorem znz {d:Nat}:okA d H []=True:=rfl
theorem zi3 {d:Nat} {x:AV}:okA d H (x::xs)=(Cn d H x∧okA d H xs):=rfl
theorem Iw (h:PC P f ys y) (hl:leL xs ys):PC P f xs y:=G6 hl h
def chB (c:Bool) (p q:Prop):Prop:=match c with
 | true=>p
 | false=>q
theorem zi4 {p q:Prop}:chB true p q=p:=rfl
theorem zcw {p q:Prop}:chB false p q=q:=rfl
def frA (d:Nat) (H:Ac) (xs:List AV):List AV:=xs.map (frzV d H)
theorem zo0 {d:Nat}:frA d H []=[]:=rfl
theorem zi5 {d:Nat} {x:AV}:frA d H (x::xs)=frzV d H x::frA d H xs:=rfl
theorem cK {K:AV→Ac→Prop} (h:PC P f ys y) (hh:chB (Aw xs) (leSL [] xs ys∧Aw ys=true∧@nx y (hl l) ⟨K⟩)
   (chB y.flat (okA 4 (hl l) xs∧leSL [] (frA 4 (hl l) xs) ys∧@nx y (hl l) ⟨K⟩)
     (okA 4 ((hl l).only (B1 xs)) xs∧leSL [] (frA 4 ((hl l).only (B1 xs)) xs) ys∧Aw ys=true∧@nx y (hl (Es 0 (B1 xs) l)) ⟨K⟩))):@Vw P f xs (hl l) ⟨K⟩:=by
 cases hp:Aw xs<;>rw[hp] at hh
 · cases hy:y.flat<;>rw[hy] at hh
   · obtain⟨h1,h2,h3,h4⟩:=hh
     exact Tq 4 (B1 xs) (Qg h1) (G6 (Lb h2) (Hu h h3 h4))
   · obtain⟨h1,h2,h3⟩:=hh
     exact zbj (Iw h (Lb h2)) 4 (Qg h1) rfl hy h3
 · obtain⟨h1,h2,h3⟩:=hh
   exact G6 (Lb h1) (Hu h h2 h3)
theorem eK {K:AV→Ac→Prop} (h:PC P f xs y) (hh:Aw xs=true∧@nx y H ⟨K⟩):@Vw P f xs H ⟨K⟩:=Hu h hh.1 hh.2
theorem eQ {K:AV→Prop} (h:PC P f xs y) (hh:Aw xs=true∧@nq y ⟨K⟩):@zgz P f xs H ⟨K⟩:=⟨y,Hu h hh.1 ⟨rfl,rfl⟩,hh.2⟩
theorem cQ {K:AV→Prop} (h:PC P f ys y) (hh:chB (Aw xs) (leSL [] xs ys∧Aw ys=true∧@nq y ⟨K⟩)
   (y.flat=true∧okA 4 (hl l) xs∧leSL [] (frA 4 (hl l) xs) ys∧@nq y ⟨K⟩)):@zgz P f xs (hl l) ⟨K⟩:=by
 cases hp:Aw xs<;>rw[hp] at hh
 · obtain⟨hy,h1,h2,h3⟩:=hh
   exact⟨y,zbj (Iw h (Lb h2)) 4 (Qg h1) rfl hy ⟨rfl,rfl⟩,h3⟩
 · obtain⟨h1,h2,h3⟩:=hh
   exact⟨y,G6 (Lb h1) (Hu h h2 ⟨rfl,rfl⟩),h3⟩
end
attribute [push_cast] znz zi3 zo0 zi5 zi4 zcw AV.flat zbg
section
variable {d:Nat} {H:Ac}
def okL (d:Nat) (H:Ac) (xs:List AV):Prop:=∀ y∈xs,Cn d H y
def frL (d:Nat) (H:Ac) (xs:List AV):List AV:=xs.map (frzV d H)
def okM (d:Nat) (H:Ac) (xs:List AV):Prop:=okL d H xs
def frM (d:Nat) (H:Ac) (xs:List AV):List AV:=frL d H xs
def ifB (b:Bool) (p:Prop):Prop:=b=true∨p
theorem zi6 (p:Prop):ifB true p=True:=by simp[ifB]
theorem zcx (p:Prop):ifB false p=p:=by simp[ifB]
theorem zs2 (xs:List AV):okL d H xs=ifB (Aw xs) (okM d H xs):=propext ⟨fun h=>.inr h,fun h=>h.elim (fun h=>(Iu H d h).1) id⟩
theorem zs3 (xs:List AV):frL d H xs=bif Aw xs then xs else frM d H xs:=by
 cases h:Aw xs
 · rfl
 · exact (Iu H d h).2
theorem zo1:okM d H []=True:=by simp[okM,okL]
theorem zi7 (x:AV) (xs:List AV):okM d H (x::xs)=(Cn d H x∧okM d H xs):=by simp[okM,okL]
theorem zo2:frM d H []=[]:=rfl
theorem zi8 (x:AV) (xs:List AV):frM d H (x::xs)=frzV d H x::frM d H xs:=rfl
theorem zs4 (g v off len:Nat):Cn (d+1) H (.ref g v off len)=((H.at_ g).ver=v∧0<(H.at_ g).w∧off+len≤(H.at_ g).xs.length∧okL d H (((H.at_ g).xs.drop off).take len)):=rfl
theorem zs5 (g v i o:Nat):Cn (d+1) H (.ptr g v i o)=((H.at_ g).ver=v∧i<(H.at_ g).xs.length∧0<(H.at_ g).w∧o=0∧Cn d H ((H.at_ g).xs.getD i .any)):=rfl
theorem zs6 (cs:List AV):Cn (d+1) H (.agg cs)=okL d H cs:=rfl
theorem zs7 (cs:List AV):Cn (d+1) H (.tup cs)=okL d H cs:=rfl
theorem ok_fn (f:Nat) (cs:List AV):Cn (d+1) H (.fn f cs)=okL d H cs:=rfl
theorem zs8:Cn (d+1) H .any=True:=eq_true rfl
theorem zo3 (b:Bool):Cn (d+1) H (.bool b)=True:=eq_true rfl
theorem ok_int (k:IntKind) (n:Int):Cn (d+1) H (.int k n)=True:=eq_true rfl
theorem zs9 (s:List UInt8):Cn (d+1) H (.str s)=True:=eq_true rfl
theorem zo4:Cn (d+1) H .nilS=True:=eq_true rfl
theorem zsa:Cn (d+1) H .nul=True:=eq_true rfl
theorem zsb:Cn (d+1) H .emp=True:=eq_true rfl
theorem zo5:Cn (d+1) H .nilP=True:=eq_true rfl
theorem zo6:Cn (d+1) H .nilF=True:=eq_true rfl
theorem zsc (l:Nat):Cn (d+1) H (.yld l)=True:=eq_true rfl
theorem zo7 (w:Nat) (xs:List AV):Cn (d+1) H (.full w xs)=(Aw xs=true):=rfl
theorem zo8 (w:Nat) (xs:List AV):frzV (d+1) H (.full w xs)=.full w xs:=rfl
theorem zsd (w:Nat) (xs:List AV):Cn (d+1) H (.lst w xs)=(Aw xs=true):=rfl
theorem zo9 (x:AV):Cn (d+1) H (.cptr x)=(x.pure=true):=rfl
theorem zse (g v off len:Nat):frzV (d+1) H (.ref g v off len)=.lst (H.at_ g).w (frL d H (((H.at_ g).xs.drop off).take len)):=rfl
theorem zsf (g v i o:Nat):frzV (d+1) H (.ptr g v i o)=if o=0 then .cptr (frzV d H ((H.at_ g).xs.getD i .any)) else .any:=rfl
theorem zsg (cs:List AV):frzV (d+1) H (.agg cs)=.agg (frL d H cs):=rfl
theorem zsh (cs:List AV):frzV (d+1) H (.tup cs)=.tup (frL d H cs):=rfl
theorem fr_fn (f:Nat) (cs:List AV):frzV (d+1) H (.fn f cs)=.fn f (frL d H cs):=rfl
theorem zsi:frzV (d+1) H .any=.any:=rfl
theorem zoa (b:Bool):frzV (d+1) H (.bool b)=.bool b:=rfl
theorem zsj (k:IntKind) (n:Int):frzV (d+1) H (.int k n)=.int k n:=rfl
theorem zsk (s:List UInt8):frzV (d+1) H (.str s)=.str s:=rfl
theorem zob:frzV (d+1) H .nilS=.nilS:=rfl
theorem zsl:frzV (d+1) H .nul=.nul:=rfl
theorem zsm:frzV (d+1) H .emp=.emp:=rfl
theorem zoc:frzV (d+1) H .nilP=.nilP:=rfl
theorem zod:frzV (d+1) H .nilF=.nilF:=rfl
theorem zsn (l:Nat):frzV (d+1) H (.yld l)=.yld l:=rfl
theorem zso (w:Nat) (xs:List AV):frzV (d+1) H (.lst w xs)=.lst w xs:=rfl
theorem zoe (x:AV):frzV (d+1) H (.cptr x)=.cptr x:=rfl
end
attribute [push_cast] zi6 zcx zs2 zs3 zo1 zi7 zo2 zi8 zs4 zs5 zs6 zs7 ok_fn zs8 zo3 ok_int zs9 zo4 zsa zsb zo5 zo6 zsc zsn zsd zo7 zo8 zo9 zse zsf zsg zsh fr_fn zsi zoa zsj zsk zob zsl zsm zoc zod zso zoe List.take_length
section
variable {P:Program} {l:List Grp} {xs cs:List AV} {K:AV→List Grp→Prop} {z:AV} {w len n:Nat}
theorem Cs {k:AK} (h:k.still=true):@opG P k l xs ⟨K⟩=(Bj (·<l.length) xs∧@opK P k (hl l) xs ⟨fun x _=>K x l⟩):=by
 rw[z5e];have hn:¬k.still=false:=by rw[h];simp
 cases k<;>first|(exact propext ⟨fun hh=>hh.elim (fun hh=>⟨hh.2.1,hh.2.2⟩) (fun hh=>absurd hh.1 hn),fun hh=>.inl ⟨h,hh.1,hh.2⟩⟩)|(simp[AK.still] at h)
theorem z9b {k:AK} (h:k.still=false) (he:k.eff.isSome=true):@opG P k l xs ⟨K⟩=(k.appOk=true∧Vi k xs∧@opK P k (hl l) xs ⟨fun x H'=>∀ l',H'=hl l'→K x l'⟩):=by
 rw[z5e];have hn:¬k.still=true:=by rw[h];simp
 cases k<;>first|(exact propext ⟨fun hh=>hh.elim (fun hh=>absurd hh.1 hn) (fun hh=>⟨hh.2.2.1,hh.2.2.2⟩),fun hh=>.inr ⟨h,he,hh.1,hh.2⟩⟩)|(simp[AK.eff] at he)
theorem G_mv  : @opG P .mv l xs ⟨K⟩=(Bj (·<l.length) xs∧@opK P .mv (hl l) xs ⟨fun x _=>K x l⟩):=Cs rfl
theorem zsp  : @opG P .pick l xs ⟨K⟩=(Bj (·<l.length) xs∧@opK P .pick (hl l) xs ⟨fun x _=>K x l⟩):=Cs rfl
theorem zof {zs:List AV} {pl:List (Nat × Nat)} {idx:List Nat}:@opG P (.build zs pl idx) l xs ⟨K⟩=(Bj (·<l.length) xs∧@opK P (.build zs pl idx) (hl l) xs ⟨fun x _=>K x l⟩):=Cs rfl
theorem zsq {a:Bool} {s:Nat}:@opG P (.load a s) l xs ⟨K⟩=(Bj (·<l.length) xs∧@opK P (.load a s) (hl l) xs ⟨fun x _=>K x l⟩):=Cs rfl
theorem z9c  : @opG P .nilCheck l xs ⟨K⟩=(Bj (·<l.length) xs∧@opK P .nilCheck (hl l) xs ⟨fun x _=>K x l⟩):=Cs rfl
theorem G_bin {op:BinOp}:@opG P (.bin op) l xs ⟨K⟩=(Bj (·<l.length) xs∧@opK P (.bin op) (hl l) xs ⟨fun x _=>K x l⟩):=Cs rfl
theorem G_eqb {n:Bool}:@opG P (.eqb n) l xs ⟨K⟩=(Bj (·<l.length) xs∧@opK P (.eqb n) (hl l) xs ⟨fun x _=>K x l⟩):=Cs rfl
theorem G_eqs {n:Bool} {ks:List Nat}:@opG P (.eqs n ks) l xs ⟨K⟩=(Bj (·<l.length) xs∧@opK P (.eqs n ks) (hl l) xs ⟨fun x _=>K x l⟩):=Cs rfl
theorem G_eqn {n:Bool}:@opG P (.eqn n) l xs ⟨K⟩=(Bj (·<l.length) xs∧@opK P (.eqn n) (hl l) xs ⟨fun x _=>K x l⟩):=Cs rfl
theorem G_un {op:UnOp}:@opG P (.un op) l xs ⟨K⟩=(Bj (·<l.length) xs∧@opK P (.un op) (hl l) xs ⟨fun x _=>K x l⟩):=Cs rfl
theorem zsr {k:IntKind}:@opG P (.conv k) l xs ⟨K⟩=(Bj (·<l.length) xs∧@opK P (.conv k) (hl l) xs ⟨fun x _=>K x l⟩):=Cs rfl
theorem zog {w:Nat} {lo hi mx:Bool}:@opG P (.slice w lo hi mx) l xs ⟨K⟩=(Bj (·<l.length) xs∧@opK P (.slice w lo hi mx) (hl l) xs ⟨fun x _=>K x l⟩):=Cs rfl
theorem zoh {a:Bool} {o s:Nat}:@opG P (.faddr a o s) l xs ⟨K⟩=(Bj (·<l.length) xs∧@opK P (.faddr a o s) (hl l) xs ⟨fun x _=>K x l⟩):=Cs rfl
theorem zoi {a:Bool} {o s:Nat}:@opG P (.field a o s) l xs ⟨K⟩=(Bj (·<l.length) xs∧@opK P (.field a o s) (hl l) xs ⟨fun x _=>K x l⟩):=Cs rfl
theorem zoj {w:Nat}:@opG P (.iaddr w) l xs ⟨K⟩=(Bj (·<l.length) xs∧@opK P (.iaddr w) (hl l) xs ⟨fun x _=>K x l⟩):=Cs rfl
theorem zi9 {n w:Nat} {a:Bool}:@opG P (.iaddrA n w a) l xs ⟨K⟩=(Bj (·<l.length) xs∧@opK P (.iaddrA n w a) (hl l) xs ⟨fun x _=>K x l⟩):=Cs rfl
theorem zok {n w:Nat} {a:Bool}:@opG P (.index n w a) l xs ⟨K⟩=(Bj (·<l.length) xs∧@opK P (.index n w a) (hl l) xs ⟨fun x _=>K x l⟩):=Cs rfl
theorem z9d  : @opG P .indexStr l xs ⟨K⟩=(Bj (·<l.length) xs∧@opK P .indexStr (hl l) xs ⟨fun x _=>K x l⟩):=Cs rfl
theorem zcy {i:Nat}:@opG P (.extract i) l xs ⟨K⟩=(Bj (·<l.length) xs∧@opK P (.extract i) (hl l) xs ⟨fun x _=>K x l⟩):=Cs rfl
theorem G_len {b:Bool}:@opG P (.len b) l xs ⟨K⟩=(Bj (·<l.length) xs∧@opK P (.len b) (hl l) xs ⟨fun x _=>K x l⟩):=Cs rfl
theorem G_max  : @opG P .max l xs ⟨K⟩=(Bj (·<l.length) xs∧@opK P .max (hl l) xs ⟨fun x _=>K x l⟩):=Cs rfl
theorem G_min  : @opG P .min l xs ⟨K⟩=(Bj (·<l.length) xs∧@opK P .min (hl l) xs ⟨fun x _=>K x l⟩):=Cs rfl
theorem zia:@opG P (.mapGet z) l xs ⟨K⟩=(Bj (·<l.length) xs∧@opK P (.mapGet z) (hl l) xs ⟨fun x _=>K x l⟩):=Cs rfl
theorem zib {f:Nat}:@opG P (.mkFunc f) l xs ⟨K⟩=(Bj (·<l.length) xs∧@opK P (.mkFunc f) (hl l) xs ⟨fun x _=>K x l⟩):=Cs rfl
theorem zol  : @opG P .toStr l xs ⟨K⟩=(Bj (·<l.length) xs∧@opK P .toStr (hl l) xs ⟨fun x _=>K x l⟩):=Cs rfl
theorem zom  : @opG P (.alloc z w) l xs ⟨K⟩=@opK P (.alloc z w) (hl l) xs ⟨fun x H'=>∀ l',H'=hl l'→K x l'⟩:=(z9b rfl rfl).trans (by simp only[AK.appOk,Vi,true_and])
theorem G_box  : @opG P .box l xs ⟨K⟩=@opK P .box (hl l) xs ⟨fun x H'=>∀ l',H'=hl l'→K x l'⟩:=(z9b rfl rfl).trans (by simp only[AK.appOk,Vi,true_and])
theorem zon  : @opG P (.store w) l xs ⟨K⟩=@opK P (.store w) (hl l) xs ⟨fun x H'=>∀ l',H'=hl l'→K x l'⟩:=(z9b rfl rfl).trans (by simp only[AK.appOk,Vi,true_and])
theorem zcz  : @opG P (.mkSlice w n z) l xs ⟨K⟩=@opK P (.mkSlice w n z) (hl l) xs ⟨fun x H'=>∀ l',H'=hl l'→K x l'⟩:=(z9b rfl rfl).trans (by simp only[AK.appOk,Vi,true_and])
theorem G_app:@opG P (.app w n z) l xs ⟨K⟩=(0<w∧offA xs∧@opK P (.app w n z) (hl l) xs ⟨fun x H'=>∀ l',H'=hl l'→K x l'⟩):=(z9b rfl rfl).trans (by simp only[AK.appOk,Vi,decide_eq_true_eq])
theorem zic {g v o n:Nat}:offA (.ref g v o n::xs)=(o=0):=rfl
theorem zd0:offA (.nilS::xs)=True:=rfl
theorem zid:offA (.nul::xs)=True:=rfl
theorem zie:offA (.emp::xs)=True:=rfl
theorem zd1 {w:Nat} {ys:List AV}:offA (.full w ys::xs)=True:=rfl
theorem zif {w:Nat} {ys:List AV}:offA (.lst w ys::xs)=True:=rfl
theorem zss {f:Nat}:@opG P .call l (.fn f cs::xs) ⟨K⟩=@zh0 P f (xs++cs) l ⟨K⟩:=(rfl)
theorem G_bsl {idx:List Nat}:@opG P (.bslice w len z idx) l xs ⟨K⟩=(G4 w len idx xs∧0<w∧Aw (D3 idx xs (List.replicate len z))=true∧@nx (.full w (D3 idx xs (List.replicate len z))) (hl l) ⟨fun x _=>K x l⟩):=(rfl)
theorem hl_eq {l l':List Grp}:(hl l=hl l')=(l=l'):=propext ⟨zky,fun h=>h ▸ rfl⟩
theorem eG {f:Nat} {y:AV} (h:PC P f xs y) (hh:Aw xs=true∧@nx y (hl l) ⟨fun y _=>K y l⟩):@zh0 P f xs l ⟨K⟩:=⟨y,fun H=>Hu h hh.1 ⟨rfl,rfl⟩,hh.2⟩
theorem cG {f:Nat} {ys:List AV} {y:AV} (h:PC P f ys y) (hh:leSL [] xs ys∧Aw ys=true∧@nx y (hl l) ⟨fun y _=>K y l⟩):@zh0 P f xs l ⟨K⟩:=⟨y,fun H=>G6 (Lb hh.1) (Hu h hh.2.1 ⟨rfl,rfl⟩),hh.2.2⟩
end
theorem A9 {P:Program} {f m np:Nat} {xs:List AV} {y:AV} {res:List ARes} {B:AC} (hf:As P f xs.length=some ⟨m,np,res,B⟩) (h:W P m 0 B (entry xs) (hl []) (Ret P res fun z H=>Cn 4 H z∧ansW (frzV 4 H z) y)):PC P f xs y:=by
 refine zqz hf 4 ?_;rw[z5g];exact T.mono (W_T h) fun x env H hh=>z5f (fun z H hh=>⟨hh.1,zkz hh.2⟩) hh
theorem zl0 {P:Program} {f w:Nat} {y:AV} (h1:PC P f [.nilS] y) (h2:PC P f [.emp] y):PC P f [.lst w []] y:=by
 refine⟨h1.1,fun S cargs hS hx=>?_⟩;obtain⟨v,r,rfl,⟨_,_,a,cap,vs,rfl,⟨_,hn⟩,_,_⟩,hr⟩:=hx;cases a with
 | none=>exact h1.2 S _ hS ⟨_,r,rfl,by rw[hn rfl];rfl,hr⟩
 | some a=>exact h2.2 S _ hS ⟨_,r,rfl,⟨a,cap,rfl⟩,hr⟩
section
variable {P:Program} {H:Ac} {K:AV→Ac→Prop} {n:Bool} {b d:Nat} {ks:List Nat}
theorem zd2:@opK P (.eqn n) H [.emp,.nilS] ⟨K⟩=@nx (.bool n) H ⟨K⟩:=(rfl)
theorem zd3:@opK P (.len false) H [.emp] ⟨K⟩=@nx (.int .i64 0) H ⟨K⟩:=(rfl)
theorem zst:rnV b H ks (d+1) .emp=.emp:=rfl
end
theorem An {P:Program} {n b:Nat} {c:AC} {env:Env} {H:Ac} {Q:Ex→Env→Ac→Prop} (h:T P n b (.loop c) env H Q):@Kj ⟨T P n b (.loop c) env H Q⟩:=h
attribute [push_cast] zd2 zd3 zst z5g hl_n Ck D4 zna zcj zck Yw znb zhp zre znc zhq zrf zrg zrh zri rn_fn zrj zne zrk zrl znf zrm zng znh zrn zro zni
attribute [push_cast] zrp znj g_le zht zcm zhu zcn zco z95 zcp zcq z97 zcr z96 z1z z98 zrw zrx znp zry znq zn8 head1 head2 head3 zrz znr zs0 zns zs1 zhv Gb znt znu znv Qf znx B1 List.cons_append List.nil_append
attribute [push_cast] zic zd0 zid zie zd1 zif G_mv zsp zof zsq z9c G_bin G_eqb G_eqs G_eqn G_un zsr zog zoh zoi zoj zi9 zok z9d zcy G_len G_max G_min zib zol zom G_box zon zcz G_app zss G_bsl hl_eq Bj forall_eq' forall_eq
attribute [push_cast] List.isEmpty_nil List.isEmpty_cons List.map_eq_nil_iff Option.isSome_some Option.isSome_none
attribute [push_cast] List.map_append List.length_append Option.map_some Option.map_none znw z2a Int.add_sub_cancel Int.sub_add_cancel z99 z9a zcs Nat.not_lt_zero Nat.zero_le
open IntWalk in
attribute [push_cast] i64_in i32_in u8_in u32_in u64_in zcd
theorem zz:type_of% (And.intro @z1 <| And.intro @z2 <| And.intro @z3 <| And.intro @z4 <| And.intro @z5 <| And.intro @z6 <| And.intro @z7 <| And.intro @z8 <| And.intro @z9 <| And.intro @z10 <| And.intro @z11 <| And.intro @z12 <| And.intro @z13 <| And.intro @z14 <| And.intro @z15 <| And.intro @z16 <| And.intro @z17 <| And.intro @z18 <| And.intro @z19 <| And.intro @z20 <| And.intro @z21 <| And.intro @z22 <| And.intro @z23 <| And.intro @z24 <| And.intro @z25 <| And.intro @z26 <| And.intro @z27 <| And.intro @z28 <| And.intro @z29 <| And.intro @z30 <| And.intro @z31 <| And.intro @z32 <| @z33):=And.intro @z1 <| And.intro @z2 <| And.intro @z3 <| And.intro @z4 <| And.intro @z5 <| And.intro @z6 <| And.intro @z7 <| And.intro @z8 <| And.intro @z9 <| And.intro @z10 <| And.intro @z11 <| And.intro @z12 <| And.intro @z13 <| And.intro @z14 <| And.intro @z15 <| And.intro @z16 <| And.intro @z17 <| And.intro @z18 <| And.intro @z19 <| And.intro @z20 <| And.intro @z21 <| And.intro @z22 <| And.intro @z23 <| And.intro @z24 <| And.intro @z25 <| And.intro @z26 <| And.intro @z27 <| And.intro @z28 <| And.intro @z29 <| And.intro @z30 <| And.intro @z31 <| And.intro @z32 <| @z33
end Go.Proofs.YtbcjoeadpjfcfaaGreat.Abs
namespace Go.Proofs.YtbcjoeadpjfcfaaGreat
open Abs
structure Span where
 lo:Int
 hi:Int
 deriving DecidableEq,Inhabited
structure Part where
 at_:Int
 drop:Int
 take:Int
 up:Int
 deriving DecidableEq,Inhabited
structure Term where
 base:Int
 drop:Int
 take:Int
 up:Int
 sum:Int
 parts:List Part
 deriving DecidableEq,Inhabited
structure Rule where
 from_:Int
 to_:Int
 guards:List (List Span)
 eat:Int
 out:List Term
 deriving DecidableEq,Inhabited
structure Cw where
 from_:Int
 guards:List (List Span)
 out:List Term
 deriving DecidableEq,Inhabited
structure Desc where
 in_:Int
 out:Int
 states:Int
 start:Int
 rules:List Rule
 finals:List Cw
 deriving DecidableEq,Inhabited
abbrev E6 (l:List Int):AV:=.lst 1 (l.map (AV.int .i64))
abbrev zl1 (l:List Int):AV:=.lst 1 (l.map (AV.int .i32))
abbrev Bw (s:Span):AV:=.agg [.int .i64 s.lo,.int .i64 s.hi]
abbrev Ag (l:List Span):AV:=.lst 2 (l.map Bw)
abbrev Ak (l:List (List Span)):AV:=.lst 1 (l.map Ag)
abbrev Ca (p:Part):AV:=.agg [.int .i64 p.at_,.int .i64 p.drop,.int .i64 p.take,.int .i64 p.up]
abbrev Bf (l:List Part):AV:=.lst 4 (l.map Ca)
abbrev Bo (t:Term):AV:=.agg [.int .i64 t.base,.int .i64 t.drop,.int .i64 t.take,.int .i64 t.up,.int .i64 t.sum,Bf t.parts]
abbrev Be (l:List Term):AV:=.lst 6 (l.map Bo)
abbrev B6 (r:Rule):AV:=.agg [.int .i64 r.from_,.int .i64 r.to_,Ak r.guards,.int .i64 r.eat,Be r.out]
abbrev Bl (f:Cw):AV:=.agg [.int .i64 f.from_,Ak f.guards,Be f.out]
abbrev Dv (l:List Rule):AV:=.lst 5 (l.map B6)
abbrev Gv (l:List Cw):AV:=.lst 3 (l.map Bl)
abbrev Bp (d:Desc):AV:=.agg [.int .i64 d.in_,.int .i64 d.out,.int .i64 d.states,.int .i64 d.start,Dv d.rules,Gv d.finals]
theorem Co (l:List Span):Aw (l.map Bw)=true:=Er (fun _=>rfl) l
theorem G7 (l:List Part):Aw (l.map Ca)=true:=Er (fun _=>rfl) l
theorem Ad (l:List (List Span)):Aw (l.map Ag)=true:=Er (fun s=>by simp only[Ag,AV.pure,Co]) l
theorem Am (l:List Term):Aw (l.map Bo)=true:=Er (fun s=>by simp[Bo,AV.pure,Aw,G7]) l
theorem Az (l:List Rule):Aw (l.map B6)=true:=Er (fun s=>by simp[B6,AV.pure,Aw,Ad,Am]) l
theorem Av (l:List Cw):Aw (l.map Bl)=true:=Er (fun s=>by simp[Bl,AV.pure,Aw,Ad,Am]) l
theorem z9e (l:List (List Int)):Aw (l.map zl1)=true:=Er (fun s=>by simp only[zl1,AV.pure,E3]) l
attribute [push_cast] Co G7 Ad Am Az Av z9e
end Go.Proofs.YtbcjoeadpjfcfaaGreat
namespace Go.Proofs.YtbcjoeadpjfcfaaGreat.Abs
open Go.RowKit
inductive Sh where
 | bool
 | int (k:IntKind)
 | str
 | sl (agg:Bool) (fs:List Sh)
mutual
def Is:Sh→AV→Prop
 | .bool,x=>∃ b,x=.bool b
 | .int k,x=>∃ n,x=.int k n∧(Lit.int k n).wf=true
 | .str,x=>∃ s:List UInt8,x=.str s∧s.length≤maxLen
 | .sl agg fs,x=>x=.nilS∨∃ xs,x=.lst fs.length xs∧xs.length≤maxLen∧∀ y∈xs,∃ cs,y=(if agg then .agg cs else cs.headD .any)∧IsL fs cs
def IsL:List Sh→List AV→Prop
 | [],cs=>cs=[]
 | s::fs,cs=>∃ c r,cs=c::r∧Is s c∧IsL fs r
end
theorem zd4:∀ {fs:List Sh} {cs:List AV},IsL fs cs→cs.length=fs.length
 | [],_,h=>by rw[show _=[] from h];rfl
 | _::_,_,⟨_,_,h,_,k⟩=>by rw[h];simp[zd4 k]
mutual
def Sq (P:Program):Sh→TypeId→Bool
 | .bool,t=>match P.underlying t with|some .bool=>true|_=>false
 | .int k,t=>match P.underlying t with|some (.int k')=>k' == k|_=>false
 | .str,t=>match P.underlying t with|some .string=>true|_=>false
 | .sl agg fs,t=>match P.underlying t with
   | some (.slice e)=>P.cellsOf e == fs.length&&!fs.isEmpty&&(match agg,P.underlying e with
     | true,some (.struct fl)=>Sr P fs 0 fl.toList
     | true,some (.array n u)=>fs.length == n&&P.cellsOf u == 1&&zd5 P fs u
     | false,_=>fs.length == 1&&zd5 P fs e
     | _,_=>false)
   | _=>false
def Sr (P:Program):List Sh→Nat→List Field→Bool
 | [],_,[]=>true
 | s::ss,i,f::fl=>f.offset == i&&P.cellsOf f.type == 1&&Sq P s f.type&&Sr P ss (i+1) fl
 | _,_,_=>false
def zd5 (P:Program):List Sh→TypeId→Bool
 | [],_=>true
 | s::ss,u=>Sq P s u&&zd5 P ss u
end
section
variable {H:Type} {enc:TypeId × Value→H} {P:Program} {w:World} {base:Nat} {spare:Nat→Bool} {held:Bool}
def Got (w:World) (s:Sh) (v:Value):Prop:=∃ x,Is s x∧VRel (MS.start w) x v∧x.pure=true∧x.one=true
def GotL (w:World) (fs:List Sh) (vs:List Value):Prop:=∃ xs,IsL fs xs∧Ae (MS.start w) xs vs∧Aw xs=true∧Eo xs=true
theorem z5j:GotL w [] []:=⟨[],rfl,rfl,rfl,rfl⟩
theorem Y0 {s:Sh} {fs:List Sh} {v:Value} {vs:List Value} (h:Got w s v) (k:GotL w fs vs):GotL w (s::fs) (v::vs):=by
 obtain⟨x,h1,h2,h3,h4⟩:=h;obtain⟨xs,k1,k2,k3,k4⟩:=k;exact⟨x::xs,⟨x,xs,rfl,h1,k1⟩,⟨v,vs,rfl,h2,k2⟩,by simp[Aw,h3,k3],by simp[Eo,h4,k4]⟩
theorem z2b {a:Addr} {v:Value} (h:w.cell? a=some v):(MS.start w).im a.block:=z8r h
theorem zoo {agg:Bool} {fs:List Sh} {a:Addr} {len cap sz:Nat} (hsz:sz=fs.length) (hpos:0<fs.length) (hagg:agg=false→fs.length=1) (hlc:len≤cap) (hcap:cap≤maxLen)
   (h:∀ i,i<len→∃ cs',w.cells? base (a.add (i * sz)) sz=some cs'∧GotL w fs cs'):Got w (.sl agg fs) (.slice (some a) len cap):=by
 subst hsz
 have h':∀ i:Nat,∃ p:List AV × List Value,i<len→(w.cells? base (a.add (i * fs.length)) fs.length=some p.2∧IsL fs p.1∧Ae (MS.start w) p.1 p.2∧Aw p.1=true∧Eo p.1=true):=by
   intro i;by_cases hi:i<len
   · obtain⟨cs',h1,xs,h2,h3,h4,h5⟩:=h i hi
     exact⟨(xs,cs'),fun _=>⟨h1,h2,h3,h4,h5⟩⟩
   · exact⟨([],[]),fun h=>absurd h hi⟩
 obtain⟨p,hp⟩:=Classical.axiomOfChoice h'
 let E:List AV→AV:=fun cs=>if agg then .agg cs else cs.headD .any
 let V:List Value→Value:=fun cs=>if agg then .agg cs.toArray else cs.headD undef
 let xs:List AV:=(List.range len).map fun i=>E (p i).1
 let vs:List Value:=(List.range len).map fun i=>V (p i).2
 have hone:∀ i,i<len→(V (p i).2).cells.toList=(p i).2∧VRel (MS.start w) (E (p i).1) (V (p i).2)∧(E (p i).1).pure=true:=by
   intro i hi;obtain⟨q1,q2,q3,q4,q5⟩:=hp i hi;have hl1:(p i).1.length=fs.length:=zd4 q2;cases agg with
   | true=>exact⟨by simp[V,Value.cells],⟨_,rfl,q3⟩,by simp[E,AV.pure,q4]⟩
   | false =>
     have h1:=hagg rfl;rw[h1] at hl1
     match hc:(p i).1,(p i).2,q3,q4,q5,hl1 with
     | [c],[v],⟨v',r,hv,hr,hr2⟩,q4,q5,_ =>
       cases hv;have hno:c.one=true:=by simpa [Eo] using q5
       have hcc:c.cells=[c]:=by cases c<;>first|rfl|(simp[AV.one] at hno)
       have hca:c.isAny=false:=by cases c<;>first|rfl|(simp[AV.one] at hno)
       have hcl:=VRel.cells hca hr;rw[hcc] at hcl;obtain⟨u,r2,hu,hu2,hu3⟩:=hcl;rw[show r2=[] from hu3] at hu
       have hv1:v.cells.toList=[v]:=by
         have:=one_cell hr hno;cases v<;>first|rfl|(simp[Value.oneCell'] at this)
       exact⟨by simpa [V] using hv1,by simpa [E,V] using hr,by simpa [E,Aw] using q4⟩
 have hxl:xs.length=len:=by simp[xs]
 have hvl:vs.length=len:=by simp[vs]
 have hxi:∀ i,i<len→xs[i]? = some (E (p i).1):=fun i hi=>by simp[xs,hi]
 have hvi:∀ i,i<len→vs[i]? = some (V (p i).2):=fun i hi=>by simp[vs,hi]
 have hvs:Ae (MS.start w) xs vs:=Ae.of_get (by rw[hxl,hvl]) fun i x v hx hv=>by
   have hi:i<len:=by rw[←hxl];exact (List.getElem?_eq_some_iff.1 hx).1
   rw[hxi i hi] at hx;rw[hvi i hi] at hv;cases hx;cases hv;exact (hone i hi).2.1
 have hpu:Aw xs=true:=Bv.2 fun x hx=>by
   obtain⟨i,hi,rfl⟩:=List.mem_map.1 hx;exact (hone i (List.mem_range.1 hi)).2.2
 refine⟨.lst fs.length xs,.inr ⟨xs,rfl,by rw[hxl];omega,fun y hy=>?_⟩,⟨hpu,hpos,some a,cap,vs,by rw[hxl],⟨by rw[hxl];exact hlc,fun hn=>by cases hn⟩,hvs,fun hne=>?_⟩,by simpa [AV.pure] using hpu,rfl⟩
 · obtain⟨i,hi,rfl⟩:=List.mem_map.1 hy
   exact⟨_,rfl,(hp i (List.mem_range.1 hi)).2.1⟩
 · have h0:0<len:=by rw[←hxl];exact List.length_pos_iff.2 hne
   obtain⟨b,o,spot⟩:=a
   have hcell:∀ i,i<len→∀ j,j<fs.length→w.cell? ((⟨b,o,spot⟩:Addr).add (i * fs.length+j))=(p i).2[j]? := fun i hi j hj=>by
     obtain⟨_,_,hat⟩:=World.cells?_some (hp i hi).1;rw[←hat j hj,←Go.Deep.add_add]
   have hlen2:∀ i,i<len→(p i).2.length=fs.length:=fun i hi=>(World.cells?_some (hp i hi).1).2.1;have hc0:=hcell 0 h0 0 hpos;rw[List.getElem?_eq_getElem (by rw[hlen2 0 h0];exact hpos)] at hc0;have hspot:spot=none:=by simpa [Addr.add] using World.cell?_spot hc0
   subst hspot;have hbk:∀ k:Nat,((⟨b,o,none⟩:Addr).add k).block=b:=fun k=>by unfold Addr.add;split<;>rfl
   refine⟨b,o,rfl,by have:=z2b hc0;rwa [hbk] at this,fun i v hv=>?_⟩;have hi:i<len:=by rw[←hvl];exact (List.getElem?_eq_some_iff.1 hv).1
   rw[hvi i hi] at hv;cases hv;obtain⟨e1,_,_⟩:=hone i hi;have e1':(V (p i).2).cells=(p i).2.toArray:=by simpa using congrArg List.toArray e1
   obtain⟨_,q2,q3,_,q5⟩:=hp i hi;refine⟨by rw[e1'];simp[hlen2 i hi],fun c hc=>?_,fun j hj=>?_⟩
   · rw[e1'] at hc
     exact Ps q3 q5 c (by simpa using hc)
   · rw[e1']
     have:=hcell i hi j hj
     have ea:(⟨b,o,none⟩:Addr).add (i * fs.length+j)=⟨b,o+i * fs.length+j,none⟩:=by
       unfold Addr.add;split
       · rename_i hz
         have:i * fs.length=0∧j=0:=by simpa using hz
         rw[this.1,this.2];rfl
       · simp[Nat.add_assoc]
     rw[ea] at this;refine this.trans ?_;simp
theorem Qh:∀ {fs:List Sh} {i:Nat} {fl:List Field},Sr P fs i fl=true→fl.length=fs.length
 | [],_,[],_=>rfl
 | [],_,_::_,h=>by simp[Sr] at h
 | _::_,_,[],h=>by simp[Sr] at h
 | s::fs,i,f::fl,h=>by
   simp only[Sr,Bool.and_eq_true] at h;simp[Qh h.2]
mutual
theorem zop:∀ (s:Sh) {t:TypeId} {fuel:Nat} {v:Value} {d:DataW H × List MemPlace},Sq P s t=true→DataW.trod enc P w base spare held fuel t [v]=some d→Got w s v
 | .bool,t,fuel,v,d,hf,h=>by
   cases fuel with
   | zero=>simp[DataW.trod] at h
   | succ n =>
     simp only[Sq] at hf;split at hf
     · rename_i ht
       unfold DataW.trod at h;rw[ht] at h;cases v<;>simp at h;rename_i b;exact⟨.bool b,⟨b,rfl⟩,rfl,rfl,rfl⟩
     · cases hf
 | .int k,t,fuel,v,d,hf,h=>by
   cases fuel with
   | zero=>simp[DataW.trod] at h
   | succ n =>
     simp only[Sq] at hf;split at hf
     · rename_i k' ht
       obtain rfl:k'=k:=by simpa using hf
       unfold DataW.trod at h;rw[ht] at h;cases v<;>simp at h;rename_i k2 m;obtain⟨⟨rfl,hw⟩,_⟩:=h;exact⟨.int k2 m,⟨m,rfl,hw⟩,rfl,rfl,rfl⟩
     · cases hf
 | .str,t,fuel,v,d,hf,h=>by
   cases fuel with
   | zero=>simp[DataW.trod] at h
   | succ n =>
     simp only[Sq] at hf;split at hf
     · rename_i ht
       unfold DataW.trod at h;rw[ht] at h;cases v<;>simp at h;rename_i s;exact⟨.str s.data.toList,⟨_,rfl,by simpa using h.1⟩,rfl,rfl,rfl⟩
     · cases hf
 | .sl agg fs,t,fuel,v,d,hf,h=>by
   simp only[Sq] at hf;split at hf
   · rename_i e ht
     simp only[Bool.and_eq_true,beq_iff_eq,Bool.not_eq_true',List.isEmpty_eq_false_iff] at hf;obtain⟨⟨hsz,hne⟩,hfe⟩:=hf;have hpos:0<fs.length:=List.length_pos_iff.2 hne;rcases Go.Deep.open_slice ht h with⟨hv,_⟩|⟨a,len,cap,m,n,D,Pl,hv,hb,hl,hm,hmm,hx,hi⟩
     · cases hv
       exact⟨.nilS,.inl rfl,rfl,rfl,rfl⟩
     · cases hv
       have hlm:len≤m:=by rw[hmm];split<;>omega
       have hag:agg=false→fs.length=1:=fun ha=>by
         subst ha;simp only[Bool.and_eq_true,beq_iff_eq] at hfe;exact hfe.1
       refine zoo (base:=base) hsz hpos hag hl hm fun i hil=>?_;obtain⟨cs',hc,ht'⟩:=hi i (by omega);refine⟨cs',hc,?_⟩;have hcl:=(World.cells?_some hc).2.1;cases agg with
       | true =>
         split at hfe
         · rename_i fl _ he
           obtain⟨ys,n',_,_,_,hlen,hg⟩:=DataW.trod_struct he ht';have hfl:=Qh hfe
           exact zoq fs (fl:=fl.toList) (i:=0) (cs:=cs') hfe (by rw[hcl,hsz];omega) fun j f hj=>by
             have:=hg j f (by simpa using hj);have hj2:j<ys.length:=by rw[hlen];have:=(List.getElem?_eq_some_iff.1 hj).1;simpa using this
             rw[List.getElem?_eq_getElem hj2] at this;exact⟨n',_,this,rfl⟩
         · rename_i n2 u _ he
           simp only[Bool.and_eq_true,beq_iff_eq] at hfe;obtain⟨⟨hn,hu⟩,hfa⟩:=hfe;obtain⟨ys,n',_,_,hlen,hyl,hg⟩:=DataW.trod_array he ht';refine zor fs (u:=u) (cs:=cs') (i:=0) hfa (by omega) fun j hj=>?_;have h1:=hg j (by omega);rw[hu,Nat.mul_one] at h1;have h2:ys[j]? = some (ys[j]'(by omega)):=List.getElem?_eq_getElem (by omega);rw[h2] at h1;exact⟨n',_,by rw[Nat.zero_add];exact h1⟩
         · rename_i hh;cases hh
         · cases hfe
       | false =>
         simp only[Bool.and_eq_true,beq_iff_eq] at hfe;refine zor fs (u:=e) (cs:=cs') (i:=0) hfe.2 (by omega) fun j hj=>?_;obtain rfl:j=0:=by omega
         exact⟨n,_,by rw[List.drop_zero,List.take_of_length_le (by omega)];exact ht'⟩
   · cases hf
theorem zoq:∀ (fs:List Sh) {fl:List Field} {i:Nat} {cs:List Value},Sr P fs i fl=true→cs.length=i+fs.length →
   (∀ (j:Nat) (f:Field),fl[j]? = some f→∃ n y,DataW.trod enc P w base spare held n f.type ((cs.drop f.offset).take (P.cellsOf f.type))=y∧y.isSome=true)→GotL w fs (cs.drop i)
 | [],fl,i,cs,hf,hl,h=>by
   rw[List.drop_of_length_le (by rw[hl];simp)];exact z5j
 | s::fs,fl,i,cs,hf,hl,h=>by
   cases fl with
   | nil=>simp[Sr] at hf
   | cons f fl =>
     simp only[Sr,Bool.and_eq_true,beq_iff_eq] at hf;obtain⟨⟨⟨ho,hc⟩,hs⟩,hr⟩:=hf;have hi:i<cs.length:=by rw[hl];simp
     rw[List.drop_eq_getElem_cons hi];obtain⟨n,y,h1,h2⟩:=h 0 f rfl;obtain⟨d,rfl⟩:=Option.isSome_iff_exists.1 h2;rw[ho,hc,List.drop_eq_getElem_cons hi,List.take_succ_cons,List.take_zero] at h1;refine Y0 (zop s hs h1) (zoq fs hr (by rw[hl];simp;omega) fun j g hj=>h (j+1) g (by simpa using hj))
theorem zor:∀ (fs:List Sh) {u:TypeId} {i:Nat} {cs:List Value},zd5 P fs u=true→cs.length=i+fs.length →
   (∀ j,j<fs.length→∃ n d,DataW.trod enc P w base spare held n u ((cs.drop (i+j)).take 1)=some d)→GotL w fs (cs.drop i)
 | [],u,i,cs,hf,hl,h=>by
   rw[List.drop_of_length_le (by rw[hl];simp)];exact z5j
 | s::fs,u,i,cs,hf,hl,h=>by
   simp only[zd5,Bool.and_eq_true] at hf;have hi:i<cs.length:=by rw[hl];simp
   rw[List.drop_eq_getElem_cons hi];obtain⟨n,d,h1⟩:=h 0 (by simp);rw[Nat.add_zero,List.drop_eq_getElem_cons hi,List.take_succ_cons,List.take_zero] at h1;refine Y0 (zop s hf.1 h1) (zor fs hf.2 (by rw[hl];simp;omega) fun j hj=>?_);have:=h (j+1) (by simp;omega)
   rwa [show i+(j+1)=i+1+j by omega] at this
end
end
open Go.RowKit Go.ChangeShapes Go.WideShapes
inductive PSh where
 | cell (s:Sh)
 | rcd (fs:List Sh)
def IsP:PSh→AV→Prop
 | .cell s,x=>Is s x
 | .rcd fs,x=>∃ cs,x=.agg cs∧IsL fs cs
def IsPs:List PSh→List AV→Prop
 | [],xs=>xs=[]
 | p::ps,xs=>∃ x r,xs=x::r∧IsP p x∧IsPs ps r
def zos (P:Program):PSh→TypeId→Bool
 | .cell s,t=>Sq P s t
 | .rcd fs,t=>match P.underlying t with
   | some (.struct fl)=>P.cellsOf t == fs.length&&Sr P fs 0 fl.toList
   | _=>false
def Tz (P:Program):List PSh→List TypeId→Bool
 | [],[]=>true
 | p::ps,t::ts=>zos P p t&&Tz P ps ts
 | _,_=>false
section
variable {H:Type} {enc:TypeId × Value→H} {P:Program} {w:World} {spare:Nat→Bool} {held:Bool}
theorem z2c {s:Sh} {t:TypeId} {r:Reach} {b0:Nat} {v:Value} (hf:Sq P s t=true) (h:Value.okWide P w r b0 t v):v.cells.toList=[v]:=by
 cases s<;>simp only[Sq] at hf<;>split at hf<;>first|(cases hf;done)|skip
 · obtain⟨b,rfl⟩:=okWide_bool ‹_› h;rfl
 · obtain⟨b,rfl⟩:=okWide_int ‹_› h;rfl
 · obtain⟨b,rfl⟩:=okWide_string ‹_› h;rfl
 · obtain⟨a,l,c,rfl⟩:=okWide_slice ‹_› h;rfl
theorem zot {p:PSh} {t:TypeId} {r:Reach} {b0:Nat} {v:Value} {d:DataW H} {ps:List MemPlace} (hf:zos P p t=true) (hw:Value.okWide P w r b0 t v) (h:DataW.Trod enc P w 0 spare held t v d ps):∃ x,IsP p x∧VRel (MS.start w) x v:=by
 obtain⟨fuel,h⟩:=h;cases p with
 | cell s =>
   rw[z2c hf hw] at h;obtain⟨x,h1,h2,_⟩:=zop s hf h;exact⟨x,h1,h2⟩
 | rcd fs =>
   simp only[zos] at hf;split at hf
   · rename_i fl ht
     simp only[Bool.and_eq_true,beq_iff_eq] at hf;obtain⟨cs,rfl,hc⟩:=okWide_struct ht hw;obtain⟨ys,n',_,_,_,hlen,hg⟩:=DataW.trod_struct ht h;have hfl:=Qh hf.2
     obtain⟨xs,h1,h2,_⟩:=zoq fs (fl:=fl.toList) (i:=0) (cs:=cs.toList) hf.2 (by simp;omega) fun j f hj=>by
       have:=hg j f (by simpa using hj);have hj2:j<ys.length:=by rw[hlen];have:=(List.getElem?_eq_some_iff.1 hj).1;simpa using this
       rw[List.getElem?_eq_getElem hj2] at this;exact⟨n',_,this,rfl⟩
     exact⟨.agg xs,⟨xs,rfl,h1⟩,cs.toList,by simp,by simpa using h2⟩
   · cases hf
theorem z5k:∀ {ps:List PSh} {ts:List TypeId} {vs:List Value} {ds:List (DataW H)} {q:List MemPlace} {r:Reach} {b0:Nat},Tz P ps ts=true→(∀ (j:Nat) t v,ts[j]? = some t→vs[j]? = some v→Value.okWide P w r b0 t v) →
   DataW.TrodAll enc P w 0 spare held ts vs ds q→∃ xs,IsPs ps xs∧Ae (MS.start w) xs vs
 | [],[],[],[],_,_,_,_,_,_=>⟨[],rfl,rfl⟩
 | p::ps,t::ts,v::vs,d::ds,_,_,_,hf,hw,⟨a,b,h1,h2,_⟩=>by
   simp only[Tz,Bool.and_eq_true] at hf;obtain⟨x,k1,k2⟩:=zot hf.1 (hw 0 t v rfl rfl) h1;obtain⟨xs,k3,k4⟩:=z5k hf.2 (fun j t v ht hv=>hw (j+1) t v (by simpa using ht) (by simpa using hv)) h2;exact⟨x::xs,⟨x,xs,rfl,k1,k3⟩,v,vs,rfl,k2,k4⟩
 | [],_::_,_,_,_,_,_,hf,_,_=>by simp[Tz] at hf
 | _::_,[],_,_,_,_,_,hf,_,_=>by simp[Tz] at hf
 | [],[],_::_,_,_,_,_,_,_,h=>h.elim
 | [],[],[],_::_,_,_,_,_,_,h=>h.elim
 | _::_,_::_,[],_,_,_,_,_,_,h=>by cases ‹List (DataW H)›<;>exact h.elim
 | _::_,_::_,_::_,[],_,_,_,_,_,h=>h.elim
def zd6 (P:Program) (ts:List TypeId):Bool:=ts.all fun t=>P.readableRec t&&decide (t<P.types.size)
theorem Qi {W W':World} (hl:laidOutB P=true) (hb:Below W.heap.size W W'):∀ {ts:List TypeId} {vs:List Value} {ds:List (DataW H)} {ps:List MemPlace},zd6 P ts=true→(∀ x∈ps,x.block<W.heap.size) →
   DataW.TrodAll enc P W 0 (fun _=>true) true ts vs ds ps→DataW.TrodAll enc P W' 0 (fun b=>decide (b<W.heap.size)) true ts vs ds ps
 | [],[],[],_,_,_,h=>h
 | t::ts,v::vs,d::ds,_,hr,hlt,⟨a,b,h1,h2,e⟩=>by
   subst e;simp only[zd6,List.all_cons,Bool.and_eq_true,decide_eq_true_eq] at hr;exact⟨a,b,Below.trod hl hr.1.1 hr.1.2 h1 hb (fun x hx=>hlt x (List.mem_append_left _ hx)),Qi hl hb (by simpa [zd6] using hr.2) (fun x hx=>hlt x (List.mem_append_right _ hx)) h2,rfl⟩
 | [],[],_::_,_,_,_,h=>h.elim
 | [],_::_,_,_,_,_,h=>by cases ‹List (DataW H)›<;>exact h.elim
 | _::_,[],_,_,_,_,h=>by cases ‹List (DataW H)›<;>exact h.elim
 | _::_,_::_,[],_,_,_,h=>h.elim
theorem Y1 {f:Nat} {ps:List PSh} {ts:List TypeId} (hf:Tz P ps ts=true) (h:∀ xs,IsPs ps xs→PC P f xs (.bool true)) {args:Array Value} {ds:List (DataW H)} {q:List MemPlace} {r:Reach} {b0:Nat}
   (hw:∀ (j:Nat) t v,ts[j]? = some t→args.toList[j]? = some v→Value.okWide P w r b0 t v) (hA:DataW.TrodAll enc P w 0 spare held ts args.toList ds q) :
   Calls P f args w fun e w'=>e=.returned (.bool true)∧Below w.heap.size w w':=by
 obtain⟨xs,h1,h2⟩:=z5k hf hw hA;have:=(h xs h1).below h2;simpa using this
end
end Go.Proofs.YtbcjoeadpjfcfaaGreat.Abs
set_option maxRecDepth 100000
namespace Go.Proofs.YtbcjoeadpjfcfaaGreat
open Abs
abbrev s_ (n:Nat):AArg:=.slot n
abbrev k_ (x:AV):AArg:=.const x
abbrev h_ (a:List AArg) (k:AK):AOp:=⟨none,a,none,k⟩
abbrev m_ (d:Nat) (a:List AArg) (k:AK):AOp:=⟨some d,a,none,k⟩
abbrev g_ (d g:Nat) (w:Bool) (a:List AArg) (k:AK):AOp:=⟨some d,a,some (g,w),k⟩
abbrev ld:AK:=.load false 1
abbrev ln:AK:=.len false
abbrev l6:AK:=.load true 6
abbrev nt:AK:=.un .not
abbrev st:AK:=.store 1
abbrev f0_:AK:=.faddr false 0 1
abbrev f1_:AK:=.faddr false 1 1
abbrev f2_:AK:=.faddr false 2 1
abbrev f3_:AK:=.faddr false 3 1
abbrev f4_:AK:=.faddr false 4 1
abbrev f5_:AK:=.faddr false 5 1
abbrev bad_:AK:=.bin .add
abbrev bls_:AK:=.bin .lss
abbrev beq_:AK:=.bin .eql
abbrev bgt_:AK:=.bin .gtr
abbrev bsu_:AK:=.bin .sub
abbrev ble_:AK:=.bin .leq
abbrev bne_:AK:=.bin .neq
abbrev bge_:AK:=.bin .geq
abbrev a1_:AK:=.iaddr 1
abbrev a2_:AK:=.iaddr 2
abbrev a3_:AK:=.iaddr 3
abbrev a4_:AK:=.iaddr 4
abbrev a5_:AK:=.iaddr 5
abbrev a6_:AK:=.iaddr 6
abbrev v_ (d a:Nat):AOp:=⟨some d,[.slot a],none,.mv⟩
abbrev z_ (d:Nat):AOp:=⟨some d,[.const (.int .i64 0)],none,.mv⟩
abbrev i1_ (d a:Nat):AOp:=⟨some d,[.slot a,.const (.int .i64 1)],none,.bin .add⟩
abbrev bf_ (d:Nat):AOp:=⟨some d,[.const (.bool false)],none,.mv⟩
abbrev bt_ (d:Nat):AOp:=⟨some d,[.const (.bool true)],none,.mv⟩
abbrev ns_ (d:Nat):AOp:=⟨some d,[.const .nilS],none,.mv⟩
abbrev ex_ (s e:Nat):AC:=.cond (.slot s) .skip (.exit e)
abbrev i_ (s:Nat) (a b:AC):AC:=.cond (.slot s) a b
abbrev sr_ (l:List AOp) (c:AC):AC:=.seq (.reg l) c
def Gc:AC:=(sr_ [o1 1 0 .box,bf_ 2] (.seq (sr_ [o1 7 1 l6,k1 8 15 7,o1 9 8 nt] (i_ 9 (sr_ [k0 10 16,v_ 2 10] .ret) .skip)) (sr_ [o1 12 1 l6,k1 13 17 12,v_ 11 13,o1 14 11 (.extract 0),o1 15 11 (.extract 1),v_ 3 14,v_ 4 15] (.seq (sr_ [o1 16 1 l6,k1 17 18 16,o1 18 17 nt] (i_ 18 (sr_ [v_ 19 3,c2 20 19 (.int .i64 0) beq_,v_ 21 20,g1 22 21 4 .mv,g_ 23 21 true [s_ 22,k_ (.int .i64 2)] beq_,m_ 24 [s_ 21,s_ 23,k_ (.bool false)] .pick,v_ 25 24,g_ 26 25 true [k_ (.fn 16 [])] .call,m_ 27 [s_ 25,s_ 26,k_ (.bool false)] .pick,v_ 2 27] .ret) .skip)) (sr_ [o1 29 1 l6,k1 30 19 29,v_ 28 30,o1 31 28 (.extract 0),o1 32 28 (.extract 1),v_ 5 31,v_ 6 32] (.seq (sr_ [v_ 33 6,o1 34 33 nt] (i_ 34 (sr_ [v_ 35 3,c2 36 35 (.int .i64 0) beq_,v_ 37 36,g1 38 37 4 .mv,g_ 39 37 true [s_ 38,k_ (.int .i64 4)] beq_,m_ 40 [s_ 37,s_ 39,k_ (.bool false)] .pick,v_ 41 40,g_ 42 41 true [k_ (.fn 16 [])] .call,m_ 43 [s_ 41,s_ 42,k_ (.bool false)] .pick,v_ 2 43] .ret) .skip)) (sr_ [v_ 44 3,v_ 45 5,o2 46 44 45 beq_,v_ 47 46,g1 48 47 4 .mv,g_ 49 47 true [s_ 48,k_ (.int .i64 0)] beq_,m_ 50 [s_ 47,s_ 49,k_ (.bool false)] .pick,v_ 51 50,g_ 52 51 true [k_ (.fn 16 [])] .call,m_ 53 [s_ 51,s_ 52,k_ (.bool false)] .pick,v_ 2 53] .ret)))))))
theorem Lc:As Tryz.prog 3 1=some ⟨54,1,[(.slot 2)],Gc⟩:=by kernel_rfl
def Fv:AC:=(sr_ [o1 1 0 .box,bf_ 2] (.seq (sr_ [o1 7 1 l6,k1 8 15 7,o1 9 8 nt] (i_ 9 (sr_ [k0 10 16,v_ 2 10] .ret) .skip)) (sr_ [o1 12 1 l6,k1 13 20 12,v_ 11 13,o1 14 11 (.extract 0),o1 15 11 (.extract 1),o0 3 (.alloc (.agg [(.int .i64 0),(.int .i64 0),(.int .i64 0),(.int .i64 0),.nilS,.nilS]) 6),n2 3 14 (.store 6),v_ 4 15] (.seq (sr_ [o1 16 1 l6,k1 17 18 16,o1 18 17 nt] (i_ 18 (sr_ [o1 19 3 l6,o0 20 (.build [(.int .i64 0),(.int .i64 0),(.int .i64 0),(.int .i64 0),.nilS,.nilS] [(0,1),(1,1),(2,1),(3,1),(4,1),(5,1)] []),k2 21 21 19 20,v_ 22 21,g1 23 22 4 .mv,g_ 24 22 true [s_ 23,k_ (.int .i64 2)] beq_,m_ 25 [s_ 22,s_ 24,k_ (.bool false)] .pick,v_ 26 25,g_ 27 26 true [k_ (.fn 16 [])] .call,m_ 28 [s_ 26,s_ 27,k_ (.bool false)] .pick,v_ 2 28] .ret) .skip)) (sr_ [o1 30 1 l6,k1 31 22 30,v_ 29 31,o1 32 29 (.extract 0),o1 33 29 (.extract 1),o0 5 (.alloc (.agg [(.int .i64 0),(.int .i64 0),(.int .i64 0),(.int .i64 0),.nilS,.nilS]) 6),n2 5 32 (.store 6),v_ 6 33] (.seq (sr_ [v_ 34 6,o1 35 34 nt] (i_ 35 (sr_ [o1 36 3 l6,o0 37 (.build [(.int .i64 0),(.int .i64 0),(.int .i64 0),(.int .i64 0),.nilS,.nilS] [(0,1),(1,1),(2,1),(3,1),(4,1),(5,1)] []),k2 38 21 36 37,v_ 39 38,g1 40 39 4 .mv,g_ 41 39 true [s_ 40,k_ (.int .i64 4)] beq_,m_ 42 [s_ 39,s_ 41,k_ (.bool false)] .pick,v_ 43 42,g_ 44 43 true [k_ (.fn 16 [])] .call,m_ 45 [s_ 43,s_ 44,k_ (.bool false)] .pick,v_ 2 45] .ret) .skip)) (sr_ [o1 46 3 l6,o1 47 5 l6,k2 48 21 46 47,v_ 49 48,g1 50 49 4 .mv,g_ 51 49 true [s_ 50,k_ (.int .i64 0)] beq_,m_ 52 [s_ 49,s_ 51,k_ (.bool false)] .pick,v_ 53 52,g_ 54 53 true [k_ (.fn 16 [])] .call,m_ 55 [s_ 53,s_ 54,k_ (.bool false)] .pick,v_ 2 55] .ret)))))))
theorem Kk:As Tryz.prog 4 1=some ⟨56,1,[(.slot 2)],Fv⟩:=by kernel_rfl
def Lx:AC:=(sr_ [o1 1 0 .box,bf_ 2] (sr_ [z_ 3] (.seq (sr_ [o1 6 1 f4_,o1 7 6 ld,o1 8 7 ln,c2 9 8 (.int .i64 80) bgt_,v_ 10 9,g_ 11 10 false [s_ 1] f5_,g_ 12 10 false [s_ 11] ld,g_ 13 10 false [s_ 12] ln,g_ 14 10 false [s_ 13,k_ (.int .i64 80)] bgt_,m_ 15 [s_ 10,k_ (.bool true),s_ 14] .pick] (i_ 15 (sr_ [bf_ 2] .ret) .skip)) (.seq (sr_ [z_ 4] (.block 0 (.loop (.seq (sr_ [v_ 16 4,o1 17 1 f4_,o1 18 17 ld,o1 19 18 ln,o2 20 16 19 bls_] (ex_ 20 0)) (.seq (.block 1 (.dreg [v_ 23 3,o1 24 1 f4_,o1 25 24 ld,v_ 26 4,o2 27 25 26 a5_,o1 28 27 f2_,o1 29 28 ld,o1 30 1 f4_,o1 31 30 ld,v_ 32 4,o2 33 31 32 a5_,o1 34 33 f4_,o1 35 34 ld,k2 36 43 29 35,o2 37 23 36 bad_,v_ 3 37])) (.reg [v_ 21 4,i1_ 22 21,v_ 4 22])))))) (.seq (sr_ [z_ 5] (.block 2 (.loop (.seq (sr_ [v_ 38 5,o1 39 1 f5_,o1 40 39 ld,o1 41 40 ln,o2 42 38 41 bls_] (ex_ 42 2)) (.seq (.block 3 (.dreg [v_ 45 3,o1 46 1 f5_,o1 47 46 ld,v_ 48 5,o2 49 47 48 a3_,o1 50 49 f1_,o1 51 50 ld,o1 52 1 f5_,o1 53 52 ld,v_ 54 5,o2 55 53 54 a3_,o1 56 55 f2_,o1 57 56 ld,k2 58 43 51 57,o2 59 45 58 bad_,v_ 3 59])) (.reg [v_ 43 5,i1_ 44 43,v_ 5 44])))))) (sr_ [v_ 60 3,c2 61 60 (.int .i64 1500) ble_,v_ 2 61] .ret))))))
theorem Vz:As Tryz.prog 15 1=some ⟨62,1,[(.slot 2)],Lx⟩:=by kernel_rfl
def Ly:AC:=(sr_ [bf_ 0] (sr_ [m_ 7 [k_ (.int .i64 97),k_ (.int .i64 97)] (.build [(.int .i64 0),(.int .i64 0)] [(0,1),(1,1)] [0,1]),o1 8 7 (.bslice 2 1 (.agg [(.int .i64 0),(.int .i64 0)]) [0]),o1 9 8 (.bslice 1 1 .nilS [0]),v_ 1 9] (sr_ [c1 10 (.int .i64 1) (.build [(.int .i64 0),.nilS,.nilS] [(0,1),(1,1),(2,1)] [0]),o1 11 10 (.bslice 3 1 (.agg [(.int .i64 0),.nilS,.nilS]) [0]),m_ 12 [k_ (.int .i64 21),k_ (.int .i64 120)] (.build [(.int .i64 0),(.int .i64 0),(.int .i64 0),(.int .i64 0),(.int .i64 0),.nilS] [(0,1),(1,1),(2,1),(3,1),(4,1),(5,1)] [2,4]),o1 13 12 (.bslice 6 1 (.agg [(.int .i64 0),(.int .i64 0),(.int .i64 0),(.int .i64 0),(.int .i64 0),.nilS]) [0]),m_ 14 [k_ (.int .i64 1),s_ 13] (.build [(.int .i64 0),(.int .i64 0),.nilS,(.int .i64 0),.nilS] [(0,1),(1,1),(2,1),(3,1),(4,1)] [1,4]),v_ 15 1,m_ 16 [k_ (.int .i64 21),k_ (.int .i64 121)] (.build [(.int .i64 0),(.int .i64 0),(.int .i64 0),(.int .i64 0),(.int .i64 0),.nilS] [(0,1),(1,1),(2,1),(3,1),(4,1),(5,1)] [2,4]),o1 17 16 (.bslice 6 1 (.agg [(.int .i64 0),(.int .i64 0),(.int .i64 0),(.int .i64 0),(.int .i64 0),.nilS]) [0]),m_ 18 [k_ (.int .i64 1),k_ (.int .i64 1),s_ 15,k_ (.int .i64 1),s_ 17] (.build [(.int .i64 0),(.int .i64 0),.nilS,(.int .i64 0),.nilS] [(0,1),(1,1),(2,1),(3,1),(4,1)] [0,1,2,3,4]),o2 19 14 18 (.bslice 5 2 (.agg [(.int .i64 0),(.int .i64 0),.nilS,(.int .i64 0),.nilS]) [0,1]),m_ 20 [k_ (.int .i64 1),k_ (.int .i64 1),k_ (.int .i64 2),s_ 11,s_ 19] (.build [(.int .i64 0),(.int .i64 0),(.int .i64 0),(.int .i64 0),.nilS,.nilS] [(0,1),(1,1),(2,1),(3,1),(4,1),(5,1)] [0,1,2,5,4]),o0 2 (.alloc (.agg [(.int .i64 0),(.int .i64 0),(.int .i64 0),(.int .i64 0),.nilS,.nilS]) 6),n2 2 20 (.store 6)] (sr_ [o1 22 2 l6,k1 23 20 22,v_ 21 23,o1 24 21 (.extract 0),o1 25 21 (.extract 1),o0 3 (.alloc (.agg [(.int .i64 0),(.int .i64 0),(.int .i64 0),(.int .i64 0),.nilS,.nilS]) 6),n2 3 24 (.store 6),v_ 4 25] (sr_ [o1 27 2 l6,k1 28 17 27,v_ 26 28,o1 29 26 (.extract 0),o1 30 26 (.extract 1),v_ 5 29,v_ 6 30] (sr_ [v_ 31 4,c2 32 31 (.int .i64 0) beq_,v_ 33 32,g1 34 33 6 .mv,g_ 35 33 true [s_ 34,k_ (.int .i64 0)] beq_,m_ 36 [s_ 33,s_ 35,k_ (.bool false)] .pick,v_ 37 36,g1 38 37 5 .mv,g_ 39 37 true [s_ 38,k_ (.int .i64 3)] beq_,m_ 40 [s_ 37,s_ 39,k_ (.bool false)] .pick,v_ 41 40,g1 42 41 3 f4_,g1 43 41 42 ld,g1 44 41 43 ln,g_ 45 41 true [s_ 44,k_ (.int .i64 2)] beq_,m_ 46 [s_ 41,s_ 45,k_ (.bool false)] .pick,v_ 47 46,g1 48 47 3 f4_,g1 49 47 48 ld,g_ 50 47 true [s_ 49,k_ (.int .i64 0)] a5_,g1 51 47 50 f4_,g1 52 47 51 ld,g1 53 47 52 ln,g_ 54 47 true [s_ 53,k_ (.int .i64 2)] beq_,m_ 55 [s_ 47,s_ 54,k_ (.bool false)] .pick,v_ 56 55,g1 57 56 3 f4_,g1 58 56 57 ld,g_ 59 56 true [s_ 58,k_ (.int .i64 0)] a5_,g1 60 56 59 f4_,g1 61 56 60 ld,g_ 62 56 true [s_ 61,k_ (.int .i64 1)] a6_,g1 63 56 62 f4_,g1 64 56 63 ld,g_ 65 56 true [s_ 64,k_ (.int .i64 121)] beq_,m_ 66 [s_ 56,s_ 65,k_ (.bool false)] .pick,v_ 67 66,g1 68 67 3 f5_,g1 69 67 68 ld,g1 70 67 69 ln,g_ 71 67 true [s_ 70,k_ (.int .i64 2)] beq_,m_ 72 [s_ 67,s_ 71,k_ (.bool false)] .pick,v_ 0 72] .ret))))))
theorem V0:As Tryz.prog 16 0=some ⟨73,0,[(.slot 0)],Ly⟩:=by kernel_rfl
def Gw:AC:=(sr_ [o1 1 0 .box,z_ 2,z_ 3] (sr_ [o1 10 1 l6,k1 11 44 10,v_ 9 11,o1 12 9 (.extract 0),o1 13 9 (.extract 1),v_ 4 12,v_ 5 13] (sr_ [z_ 6] (.seq (sr_ [v_ 14 4,o1 15 14 ln,z_ 16] (.block 0 (.loop (sr_ [o2 17 16 15 bls_] (.seq (ex_ 17 0) (.seq (.block 1 (sr_ [o2 18 14 16 a1_,o1 19 18 ld,v_ 8 19] (.reg [v_ 20 6,v_ 21 8,o1 22 21 ln,o2 23 20 22 bad_,v_ 6 23]))) (.reg [i1_ 24 16,v_ 16 24]))))))) (sr_ [v_ 25 6,v_ 26 5,v_ 2 25,v_ 3 26] .ret)))))
theorem Kn:As Tryz.prog 17 1=some ⟨27,1,[(.slot 2),(.slot 3)],Gw⟩:=by kernel_rfl
def Lz:AC:=(sr_ [o1 1 0 .box,bf_ 2] (sr_ [o1 6 1 l6,k1 7 45 6,v_ 5 7,o1 8 5 (.extract 0),o1 9 5 (.extract 1),v_ 3 8,v_ 4 9] (sr_ [v_ 10 3,c2 11 10 (.int .i64 0) beq_,v_ 2 11] .ret)))
theorem V4:As Tryz.prog 18 1=some ⟨12,1,[(.slot 2)],Lz⟩:=by kernel_rfl
def Nx:AC:=(sr_ [o1 1 0 .box,z_ 2,bf_ 3] (sr_ [z_ 4] (.seq (sr_ [z_ 5] (.block 0 (.loop (.seq (sr_ [v_ 6 5,o1 7 1 f2_,o1 8 7 ld,o2 9 6 8 bls_] (ex_ 9 0)) (.seq (.block 1 (sr_ [v_ 12 4,o1 13 1 l6,v_ 14 5,v_ 15 4,m_ 16 [k_ (.int .i64 4096),s_ 15] bsu_,k3 17 46 13 14 16,o1 18 17 ln,o2 19 12 18 bad_,v_ 4 19] (sr_ [v_ 20 4,c2 21 20 (.int .i64 4096) bgt_] (i_ 21 (sr_ [z_ 2,bf_ 3] .ret) .skip)))) (.reg [v_ 10 5,i1_ 11 10,v_ 5 11])))))) (sr_ [v_ 22 4,v_ 2 22,bt_ 3] .ret))))
theorem Y2:As Tryz.prog 19 1=some ⟨23,1,[(.slot 2),(.slot 3)],Nx⟩:=by kernel_rfl
def Fg:AC:=(sr_ [o1 1 0 .box,o0 2 (.alloc (.agg [(.int .i64 0),(.int .i64 0),(.int .i64 0),(.int .i64 0),.nilS,.nilS]) 6),z_ 3] (sr_ [o1 18 1 l6,k1 19 44 18,v_ 17 19,o1 20 17 (.extract 0),o1 21 17 (.extract 1),v_ 4 20,v_ 5 21] (.seq (sr_ [v_ 22 5,c2 23 22 (.int .i64 0) bne_] (i_ 23 (sr_ [o0 24 (.build [(.int .i64 0),(.int .i64 0),(.int .i64 0),(.int .i64 0),.nilS,.nilS] [(0,1),(1,1),(2,1),(3,1),(4,1),(5,1)] []),v_ 25 5,n2 2 24 (.store 6),v_ 3 25] .ret) .skip)) (sr_ [o1 26 1 f2_,o1 27 26 ld,o1 28 1 f4_,o1 29 28 ld,m_ 30 [k_ (.fn 47 []),s_ 27,s_ 29,k_ (.fn 48 [])] .call,v_ 6 30] (sr_ [o1 31 1 f2_,o1 32 31 ld,o1 33 1 f5_,o1 34 33 ld,m_ 35 [k_ (.fn 49 []),s_ 32,s_ 34,k_ (.fn 50 [])] .call,v_ 7 35] (sr_ [o1 36 1 f0_,o1 37 36 ld,o1 38 1 f1_,o1 39 38 ld,o1 40 1 f2_,o1 41 40 ld,o1 42 1 f3_,o1 43 42 ld,m_ 44 [s_ 37,s_ 39,s_ 41,s_ 43] (.build [(.int .i64 0),(.int .i64 0),(.int .i64 0),(.int .i64 0),.nilS,.nilS] [(0,1),(1,1),(2,1),(3,1),(4,1),(5,1)] [0,1,2,3]),o0 8 (.alloc (.agg [(.int .i64 0),(.int .i64 0),(.int .i64 0),(.int .i64 0),.nilS,.nilS]) 6),n2 8 44 (.store 6)] (.seq (sr_ [v_ 45 4,o1 46 45 ln,z_ 47] (.block 0 (.loop (sr_ [o2 48 47 46 bls_] (.seq (ex_ 48 0) (.seq (.block 1 (sr_ [v_ 49 47,o2 50 45 47 a1_,o1 51 50 ld,v_ 9 49,v_ 10 51] (sr_ [v_ 52 10,o1 53 52 ln,z_ 54] (.block 2 (.loop (sr_ [o2 55 54 53 bls_] (.seq (ex_ 55 2) (.seq (.block 3 (sr_ [o2 56 52 54 a2_,o1 57 56 (.load true 2),o0 12 (.alloc (.agg [(.int .i64 0),.nilS]) 2),n2 12 57 (.store 2)] (.seq (sr_ [v_ 58 6,o1 59 12 f0_,o1 60 59 ld,o2 61 58 60 a1_,o1 62 61 ld,o1 63 62 ln,z_ 64] (.block 4 (.loop (sr_ [o2 65 64 63 bls_] (.seq (ex_ 65 4) (.seq (.block 5 (sr_ [o2 66 62 64 a5_,o1 67 66 (.load true 5),o0 14 (.alloc (.agg [(.int .i64 0),(.int .i64 0),.nilS,(.int .i64 0),.nilS]) 5),n2 14 67 (.store 5)] (.dtl [o1 68 8 f4_,o1 69 68 ld,v_ 70 9,o1 71 14 f1_,o1 72 71 ld,o1 73 14 f2_,o1 74 73 ld,k1 75 51 74,o1 76 14 f3_,o1 77 76 ld,o1 78 12 (.load true 2),o1 79 14 f4_,o1 80 79 ld,k2 81 52 78 80,m_ 82 [s_ 70,s_ 72,s_ 75,s_ 77,s_ 81] (.build [(.int .i64 0),(.int .i64 0),.nilS,(.int .i64 0),.nilS] [(0,1),(1,1),(2,1),(3,1),(4,1)] [0,1,2,3,4]),o1 83 82 (.bslice 5 1 (.agg [(.int .i64 0),(.int .i64 0),.nilS,(.int .i64 0),.nilS]) [0])] [o2 84 69 83 (.app 5 72 (.agg [(.int .i64 0),(.int .i64 0),.nilS,(.int .i64 0),.nilS])),o1 85 8 f4_,n2 85 84 st]))) (.reg [i1_ 86 64,v_ 64 86]))))))) (.seq (sr_ [v_ 87 7,o1 88 12 f0_,o1 89 88 ld,o2 90 87 89 a1_,o1 91 90 ld,o1 92 91 ln,z_ 93] (.block 6 (.loop (sr_ [o2 94 93 92 bls_] (.seq (ex_ 94 6) (.seq (.block 7 (sr_ [o2 95 91 93 a3_,o1 96 95 (.load true 3),o0 16 (.alloc (.agg [(.int .i64 0),.nilS,.nilS]) 3),n2 16 96 (.store 3)] (.dtl [o1 97 8 f5_,o1 98 97 ld,v_ 99 9,o1 100 16 f1_,o1 101 100 ld,k1 102 51 101,o1 103 12 (.load true 2),o1 104 16 f2_,o1 105 104 ld,k2 106 52 103 105,o3 107 99 102 106 (.build [(.int .i64 0),.nilS,.nilS] [(0,1),(1,1),(2,1)] [0,1,2]),o1 108 107 (.bslice 3 1 (.agg [(.int .i64 0),.nilS,.nilS]) [0])] [o2 109 98 108 (.app 3 56 (.agg [(.int .i64 0),.nilS,.nilS])),o1 110 8 f5_,n2 110 109 st]))) (.reg [i1_ 111 93,v_ 93 111]))))))) (sr_ [o1 112 8 f4_,o1 113 112 ld,o1 114 113 ln,c2 115 114 (.int .i64 4096) bgt_,v_ 116 115,g_ 117 116 false [s_ 8] f5_,g_ 118 116 false [s_ 117] ld,g_ 119 116 false [s_ 118] ln,g_ 120 116 false [s_ 119,k_ (.int .i64 4096)] bgt_,m_ 121 [s_ 116,k_ (.bool true),s_ 120] .pick] (i_ 121 (sr_ [o0 122 (.build [(.int .i64 0),(.int .i64 0),(.int .i64 0),(.int .i64 0),.nilS,.nilS] [(0,1),(1,1),(2,1),(3,1),(4,1),(5,1)] []),n2 2 122 (.store 6),c1 3 (.int .i64 4) .mv] .ret) .skip)))))) (.reg [i1_ 123 54,v_ 54 123]))))))))) (.reg [i1_ 124 47,v_ 47 124]))))))) (.seq (sr_ [o1 125 8 l6,k1 126 53 125,c2 127 126 (.int .i64 64) bgt_] (i_ 127 (sr_ [o0 128 (.build [(.int .i64 0),(.int .i64 0),(.int .i64 0),(.int .i64 0),.nilS,.nilS] [(0,1),(1,1),(2,1),(3,1),(4,1),(5,1)] []),n2 2 128 (.store 6),c1 3 (.int .i64 4) .mv] .ret) .skip)) (sr_ [o1 129 8 l6,n2 2 129 (.store 6),z_ 3] .ret)))))))))
theorem Gx:As Tryz.prog 20 1=some ⟨130,1,[(.cell 2 true 6),(.slot 3)],Fg⟩:=by kernel_rfl
def Ny:AC:=(sr_ [o1 2 0 .box,o1 3 1 .box,bf_ 4] (.seq (sr_ [o1 9 2 f0_,o1 10 9 ld,o1 11 3 f0_,o1 12 11 ld,o2 13 10 12 bne_,v_ 14 13,g_ 15 14 false [s_ 2] f1_,g_ 16 14 false [s_ 15] ld,g_ 17 14 false [s_ 3] f1_,g_ 18 14 false [s_ 17] ld,g_ 19 14 false [s_ 16,s_ 18] bne_,m_ 20 [s_ 14,k_ (.bool true),s_ 19] .pick,v_ 21 20,g_ 22 21 false [s_ 2] f2_,g_ 23 21 false [s_ 22] ld,g_ 24 21 false [s_ 3] f2_,g_ 25 21 false [s_ 24] ld,g_ 26 21 false [s_ 23,s_ 25] bne_,m_ 27 [s_ 21,k_ (.bool true),s_ 26] .pick,v_ 28 27,g_ 29 28 false [s_ 2] f3_,g_ 30 28 false [s_ 29] ld,g_ 31 28 false [s_ 3] f3_,g_ 32 28 false [s_ 31] ld,g_ 33 28 false [s_ 30,s_ 32] bne_,m_ 34 [s_ 28,k_ (.bool true),s_ 33] .pick,v_ 35 34,g_ 36 35 false [s_ 2] f4_,g_ 37 35 false [s_ 36] ld,g_ 38 35 false [s_ 37] ln,g_ 39 35 false [s_ 3] f4_,g_ 40 35 false [s_ 39] ld,g_ 41 35 false [s_ 40] ln,g_ 42 35 false [s_ 38,s_ 41] bne_,m_ 43 [s_ 35,k_ (.bool true),s_ 42] .pick,v_ 44 43,g_ 45 44 false [s_ 2] f5_,g_ 46 44 false [s_ 45] ld,g_ 47 44 false [s_ 46] ln,g_ 48 44 false [s_ 3] f5_,g_ 49 44 false [s_ 48] ld,g_ 50 44 false [s_ 49] ln,g_ 51 44 false [s_ 47,s_ 50] bne_,m_ 52 [s_ 44,k_ (.bool true),s_ 51] .pick] (i_ 52 (sr_ [bf_ 4] .ret) .skip)) (.seq (sr_ [z_ 5] (.block 0 (.loop (.seq (sr_ [v_ 53 5,o1 54 2 f4_,o1 55 54 ld,o1 56 55 ln,o2 57 53 56 bls_] (ex_ 57 0)) (.seq (.block 1 (.seq (.dtl [o1 60 2 f4_,o1 61 60 ld,v_ 62 5,o2 63 61 62 a5_,o1 64 63 (.load true 5),o1 65 3 f4_,o1 66 65 ld,v_ 67 5,o2 68 66 67 a5_,o1 69 68 (.load true 5)] [k2 70 54 64 69,o1 71 70 nt]) (i_ 71 (sr_ [bf_ 4] .ret) .skip))) (.reg [v_ 58 5,i1_ 59 58,v_ 5 59])))))) (.seq (sr_ [z_ 6] (.block 2 (.loop (.seq (sr_ [v_ 72 6,o1 73 2 f5_,o1 74 73 ld,o1 75 74 ln,o2 76 72 75 bls_] (ex_ 76 2)) (.seq (.block 3 (.seq (.gry [true,true,true,true,true,true,true,true,true,true,false,false,false,false] [m_ 79 [s_ 2] f5_,m_ 80 [s_ 79] ld,m_ 81 [s_ 6] .mv,m_ 82 [s_ 80,s_ 81] a3_,m_ 83 [s_ 82] (.load true 3),m_ 84 [s_ 3] f5_,m_ 85 [s_ 84] ld,m_ 86 [s_ 6] .mv,m_ 87 [s_ 85,s_ 86] a3_,m_ 88 [s_ 87] (.load true 3),m_ 7 [] (.alloc (.agg [(.int .i64 0),.nilS,.nilS]) 3),m_ 8 [] (.alloc (.agg [(.int .i64 0),.nilS,.nilS]) 3),h_ [s_ 7,s_ 83] (.store 3),h_ [s_ 8,s_ 88] (.store 3)]) (sr_ [o1 89 7 f0_,o1 90 89 ld,o1 91 8 f0_,o1 92 91 ld,o2 93 90 92 bne_,v_ 94 93,g_ 95 94 false [s_ 7] f1_,g_ 96 94 false [s_ 95] ld,g_ 97 94 false [s_ 8] f1_,g_ 98 94 false [s_ 97] ld,g_ 99 94 false [k_ (.fn 55 []),s_ 96,s_ 98] .call,g_ 100 94 false [s_ 99] nt,m_ 101 [s_ 94,k_ (.bool true),s_ 100] .pick,v_ 102 101,g_ 103 102 false [s_ 7] f2_,g_ 104 102 false [s_ 103] ld,g_ 105 102 false [s_ 8] f2_,g_ 106 102 false [s_ 105] ld,g_ 107 102 false [k_ (.fn 56 []),s_ 104,s_ 106] .call,g_ 108 102 false [s_ 107] nt,m_ 109 [s_ 102,k_ (.bool true),s_ 108] .pick] (i_ 109 (sr_ [bf_ 4] .ret) .skip)))) (.reg [v_ 77 6,i1_ 78 77,v_ 6 78])))))) (sr_ [bt_ 4] .ret)))))
theorem Y3:As Tryz.prog 21 2=some ⟨110,2,[(.slot 4)],Ny⟩:=by kernel_rfl
def Ix:AC:=(sr_ [o1 1 0 .box,o0 2 (.alloc (.agg [(.int .i64 0),(.int .i64 0),(.int .i64 0),(.int .i64 0),.nilS,.nilS]) 6),bf_ 3] (.seq (sr_ [o1 19 1 l6,k1 20 19 19,v_ 18 20,o1 21 18 (.extract 0),o1 22 18 (.extract 1),v_ 4 21,v_ 5 22] (sr_ [v_ 23 5,o1 24 23 nt] (i_ 24 (sr_ [o0 25 (.build [(.int .i64 0),(.int .i64 0),(.int .i64 0),(.int .i64 0),.nilS,.nilS] [(0,1),(1,1),(2,1),(3,1),(4,1),(5,1)] []),n2 2 25 (.store 6),bf_ 3] .ret) .skip))) (sr_ [o1 26 1 f0_,o1 27 26 ld,o1 28 1 f1_,o1 29 28 ld,o1 30 1 f2_,o1 31 30 ld,o1 32 1 f3_,o1 33 32 ld,m_ 34 [s_ 27,s_ 29,s_ 31,s_ 33] (.build [(.int .i64 0),(.int .i64 0),(.int .i64 0),(.int .i64 0),.nilS,.nilS] [(0,1),(1,1),(2,1),(3,1),(4,1),(5,1)] [0,1,2,3]),o0 6 (.alloc (.agg [(.int .i64 0),(.int .i64 0),(.int .i64 0),(.int .i64 0),.nilS,.nilS]) 6),n2 6 34 (.store 6)] (sr_ [z_ 7] (.seq (sr_ [z_ 8] (.block 0 (.loop (.seq (sr_ [v_ 35 8,o1 36 1 f2_,o1 37 36 ld,o2 38 35 37 bls_] (ex_ 38 0)) (.seq (.block 1 (sr_ [o1 41 1 l6,v_ 42 8,m_ 43 [k_ (.fn 46 []),s_ 41,s_ 42,k_ (.int .i64 4096)] .call,v_ 9 43] (sr_ [z_ 10] (.block 2 (.loop (.seq (sr_ [v_ 44 10,v_ 45 9,o1 46 45 ln,o2 47 44 46 bls_] (ex_ 47 2)) (.seq (.block 3 (.seq (.dtl [o1 50 1 l6,v_ 51 8,v_ 52 9,v_ 53 10,o2 54 52 53 a1_,o1 55 54 ld] [k3 56 57 50 51 55,v_ 11 56]) (.seq (sr_ [z_ 12] (.block 4 (.loop (.seq (sr_ [v_ 57 12,o1 58 1 f4_,o1 59 58 ld,o1 60 59 ln,o2 61 57 60 bls_] (ex_ 61 4)) (.seq (.block 5 (sr_ [o1 64 1 f4_,o1 65 64 ld,v_ 66 12,o2 67 65 66 a5_,o1 68 67 (.load true 5),o0 13 (.alloc (.agg [(.int .i64 0),(.int .i64 0),.nilS,(.int .i64 0),.nilS]) 5),n2 13 68 (.store 5)] (sr_ [o1 69 13 f0_,o1 70 69 ld,v_ 71 11,o2 72 70 71 beq_,v_ 73 72,g1 74 73 13 f2_,g1 75 73 74 ld,g1 76 73 75 ln,g_ 77 73 true [s_ 76,k_ (.int .i64 0)] bgt_,m_ 78 [s_ 73,s_ 77,k_ (.bool false)] .pick] (i_ 78 (.seq (.dtl [o1 79 1 l6,v_ 80 9,v_ 81 10,o2 82 80 81 a1_,o1 83 82 ld,o1 84 13 f4_,o1 85 84 ld] [k3 86 58 79 83 85,v_ 14 86]) (sr_ [v_ 87 7,v_ 88 14,o1 89 88 ln,o2 90 87 89 .max,v_ 7 90] (.reg [o1 91 6 f4_,o1 92 91 ld,v_ 93 8,o1 94 13 f1_,o1 95 94 ld,o1 96 13 f2_,o1 97 96 ld,o1 98 13 f3_,o1 99 98 ld,v_ 100 14,m_ 101 [s_ 93,s_ 95,s_ 97,s_ 99,s_ 100] (.build [(.int .i64 0),(.int .i64 0),.nilS,(.int .i64 0),.nilS] [(0,1),(1,1),(2,1),(3,1),(4,1)] [0,1,2,3,4]),o1 102 101 (.bslice 5 1 (.agg [(.int .i64 0),(.int .i64 0),.nilS,(.int .i64 0),.nilS]) [0]),o2 103 92 102 (.app 5 72 (.agg [(.int .i64 0),(.int .i64 0),.nilS,(.int .i64 0),.nilS])),o1 104 6 f4_,n2 104 103 st]))) .skip)))) (.reg [v_ 62 12,i1_ 63 62,v_ 12 63])))))) (.seq (sr_ [z_ 15] (.block 6 (.loop (.seq (sr_ [v_ 105 15,o1 106 1 f5_,o1 107 106 ld,o1 108 107 ln,o2 109 105 108 bls_] (ex_ 109 6)) (.seq (.block 7 (sr_ [o1 112 1 f5_,o1 113 112 ld,v_ 114 15,o2 115 113 114 a3_,o1 116 115 (.load true 3),o0 16 (.alloc (.agg [(.int .i64 0),.nilS,.nilS]) 3),n2 16 116 (.store 3)] (sr_ [o1 117 16 f0_,o1 118 117 ld,v_ 119 11,o2 120 118 119 beq_] (i_ 120 (.seq (.dtl [o1 121 1 l6,v_ 122 9,v_ 123 10,o2 124 122 123 a1_,o1 125 124 ld,o1 126 16 f2_,o1 127 126 ld] [k3 128 58 121 125 127,v_ 17 128]) (sr_ [v_ 129 7,v_ 130 17,o1 131 130 ln,o2 132 129 131 .max,v_ 7 132] (.reg [o1 133 6 f5_,o1 134 133 ld,v_ 135 8,o1 136 16 f1_,o1 137 136 ld,v_ 138 17,o3 139 135 137 138 (.build [(.int .i64 0),.nilS,.nilS] [(0,1),(1,1),(2,1)] [0,1,2]),o1 140 139 (.bslice 3 1 (.agg [(.int .i64 0),.nilS,.nilS]) [0]),o2 141 134 140 (.app 3 56 (.agg [(.int .i64 0),.nilS,.nilS])),o1 142 6 f5_,n2 142 141 st]))) .skip)))) (.reg [v_ 110 15,i1_ 111 110,v_ 15 111])))))) (sr_ [o1 143 6 f4_,o1 144 143 ld,o1 145 144 ln,c2 146 145 (.int .i64 4096) bgt_,v_ 147 146,g_ 148 147 false [s_ 6] f5_,g_ 149 147 false [s_ 148] ld,g_ 150 147 false [s_ 149] ln,g_ 151 147 false [s_ 150,k_ (.int .i64 4096)] bgt_,m_ 152 [s_ 147,k_ (.bool true),s_ 151] .pick] (i_ 152 (sr_ [o0 153 (.build [(.int .i64 0),(.int .i64 0),(.int .i64 0),(.int .i64 0),.nilS,.nilS] [(0,1),(1,1),(2,1),(3,1),(4,1),(5,1)] []),n2 2 153 (.store 6),bf_ 3] .ret) .skip)))))) (.reg [v_ 48 10,i1_ 49 48,v_ 10 49])))))))) (.reg [v_ 39 8,i1_ 40 39,v_ 8 40])))))) (sr_ [o1 154 6 l6,v_ 155 7,c2 156 155 (.int .i64 64) ble_,n2 2 154 (.store 6),v_ 3 156] .ret))))))
theorem Nz:As Tryz.prog 22 1=some ⟨157,1,[(.cell 2 true 6),(.slot 3)],Ix⟩:=by kernel_rfl
def N0:AC:=(sr_ [o1 1 0 .box,z_ 2] (.seq (sr_ [o1 6 1 l6,k1 7 82 6,v_ 5 7,o1 8 5 (.extract 0),o1 9 5 (.extract 1),v_ 3 8,v_ 4 9] (sr_ [v_ 10 3,c2 11 10 (.int .i64 0) bne_] (i_ 11 (sr_ [c1 2 (.int .i64 2) .mv] .ret) .skip))) (sr_ [z_ 2] .ret)))
theorem Y4:As Tryz.prog 39 1=some ⟨12,1,[(.slot 2)],N0⟩:=by kernel_rfl
def N1:AC:=(sr_ [z_ 4] (.seq (sr_ [v_ 8 0,o1 9 8 ln,c2 10 9 (.int .i64 100) bgt_,v_ 11 10,g_ 12 11 false [s_ 1] .mv,g_ 13 11 false [s_ 12] ln,g_ 14 11 false [s_ 13,k_ (.int .i64 200)] bgt_,m_ 15 [s_ 11,k_ (.bool true),s_ 14] .pick] (i_ 15 (sr_ [c1 4 (.int .i64 4000) .mv] .ret) .skip)) (sr_ [c1 5 (.int .i64 1) .mv] (.seq (sr_ [z_ 6] (.block 0 (.loop (.seq (sr_ [v_ 16 6,v_ 17 0,o1 18 17 ln,o2 19 16 18 bls_] (ex_ 19 0)) (.seq (.block 1 (.reg [v_ 22 5,v_ 23 0,v_ 24 6,o2 25 23 24 a1_,o1 26 25 ld,o1 27 26 ln,c2 28 27 (.int .i64 4000) .min,o2 29 22 28 bad_,v_ 5 29])) (.reg [v_ 20 6,i1_ 21 20,v_ 6 21])))))) (.seq (sr_ [z_ 7] (.block 2 (.loop (.seq (sr_ [v_ 30 7,v_ 31 1,o1 32 31 ln,o2 33 30 32 bls_] (ex_ 33 2)) (.seq (.block 3 (.reg [v_ 36 5,i1_ 37 36,v_ 38 1,v_ 39 7,o2 40 38 39 a6_,o1 41 40 f5_,o1 42 41 ld,o1 43 42 ln,c2 44 43 (.int .i64 4000) .min,o2 45 37 44 bad_,v_ 5 45])) (.reg [v_ 34 7,i1_ 35 34,v_ 7 35])))))) (sr_ [v_ 46 5,v_ 4 46] .ret))))))
theorem Y5:As Tryz.prog 43 2=some ⟨47,2,[(.slot 4)],N1⟩:=by kernel_rfl
def Gy:AC:=(sr_ [o1 1 0 .box,ns_ 2,z_ 3] (.seq (sr_ [o1 8 1 l6,k1 9 39 8,c2 10 9 (.int .i64 0) bne_] (i_ 10 (sr_ [ns_ 2,c1 3 (.int .i64 2) .mv] .ret) .skip)) (.seq (.gry [true,true,true,false,true,true,false,false,false,false] [m_ 11 [s_ 1] l6,m_ 12 [s_ 1] f2_,m_ 13 [s_ 12] ld,m_ 14 [s_ 13,s_ 13] (.mkSlice 1 24 .nilS),m_ 15 [s_ 1] f2_,m_ 16 [s_ 15] ld,m_ 17 [s_ 16,s_ 16] (.mkSlice 1 24 .nilS),m_ 18 [s_ 11,s_ 14,s_ 17,k_ (.int .i64 4096)] (.build [(.int .i64 0),(.int .i64 0),(.int .i64 0),(.int .i64 0),.nilS,.nilS,.nilS,.nilS,(.int .i64 0)] [(0,6),(6,1),(7,1),(8,1)] [0,1,2,3]),m_ 19 [s_ 18] .box,m_ 4 [s_ 19] .mv]) (.seq (sr_ [o1 20 1 f4_,o1 21 20 ld,o1 22 21 ln,z_ 23] (.block 0 (.loop (sr_ [o2 24 23 22 bls_] (.seq (ex_ 24 0) (.seq (.block 1 (sr_ [v_ 25 23,o2 26 21 23 a5_,o1 27 26 (.load true 5),o0 6 (.alloc (.agg [(.int .i64 0),(.int .i64 0),.nilS,(.int .i64 0),.nilS]) 5),v_ 5 25,n2 6 27 (.store 5)] (sr_ [o1 28 6 f2_,o1 29 28 ld,o1 30 29 ln,c2 31 30 (.int .i64 0) beq_] (i_ 31 (.grx [false,false,true,true,true,true,false,false,true,true,true,true,true,false,false,false,false,false,false] [m_ 32 [s_ 4] .mv,m_ 33 [s_ 32] .nilCheck,m_ 34 [s_ 33] (.faddr false 6 1),m_ 35 [s_ 34] ld,m_ 36 [s_ 6] f0_,m_ 37 [s_ 36] ld,m_ 38 [s_ 4] .mv,m_ 39 [s_ 38] .nilCheck,m_ 40 [s_ 39] (.faddr false 6 1),m_ 41 [s_ 40] ld,m_ 42 [s_ 6] f0_,m_ 43 [s_ 42] ld,m_ 44 [s_ 41,s_ 43] a1_,m_ 45 [s_ 44] ld,m_ 46 [s_ 5] .mv,m_ 47 [s_ 46] (.bslice 1 1 (.int .i64 0) [0]),m_ 48 [s_ 45,s_ 47] (.app 1 8 (.int .i64 0)),m_ 49 [s_ 35,s_ 37] a1_,h_ [s_ 49,s_ 48] st]) .skip)))) (.reg [i1_ 50 23,v_ 23 50]))))))) (.seq (sr_ [o1 51 1 f2_,o1 52 51 ld,z_ 53] (.block 2 (.loop (sr_ [o2 54 53 52 bls_] (.seq (ex_ 54 2) (.seq (.block 3 (sr_ [v_ 55 53,v_ 7 55] (sr_ [v_ 56 4,v_ 57 7,v_ 58 7,m_ 59 [k_ (.fn 90 []),s_ 56,s_ 57,s_ 58,k_ .nilS] .call,o1 60 59 nt] (i_ 60 (sr_ [ns_ 2,c1 3 (.int .i64 4) .mv] .ret) .skip)))) (.reg [i1_ 61 53,v_ 53 61]))))))) (sr_ [v_ 62 4,o1 63 62 .nilCheck,o1 64 63 (.faddr false 7 1),o1 65 64 ld,v_ 2 65,z_ 3] .ret))))))
theorem Ko:As Tryz.prog 44 1=some ⟨66,1,[(.slot 2),(.slot 3)],Gy⟩:=by kernel_rfl
def L1:AC:=(sr_ [o1 1 0 .box,z_ 2,z_ 3] (.seq (sr_ [o1 10 1 f0_,o1 11 10 ld,c2 12 11 (.int .i64 1) bne_,v_ 13 12,g1 14 13 1 f0_,g1 15 13 14 ld,g_ 16 13 true [s_ 15,k_ (.int .i64 2)] bne_,m_ 17 [s_ 13,s_ 16,k_ (.bool false)] .pick,v_ 18 17,g_ 19 18 false [s_ 1] f1_,g_ 20 18 false [s_ 19] ld,g_ 21 18 false [s_ 20,k_ (.int .i64 1)] bne_,g_ 22 18 false [s_ 21] .mv,g1 23 22 1 f1_,g1 24 22 23 ld,g_ 25 22 true [s_ 24,k_ (.int .i64 2)] bne_,g_ 26 18 false [s_ 22,s_ 25,k_ (.bool false)] .pick,m_ 27 [s_ 18,k_ (.bool true),s_ 26] .pick,v_ 28 27,g_ 29 28 false [s_ 1] f2_,g_ 30 28 false [s_ 29] ld,g_ 31 28 false [s_ 30,k_ (.int .i64 1)] bls_,m_ 32 [s_ 28,k_ (.bool true),s_ 31] .pick,v_ 33 32,g_ 34 33 false [s_ 1] f2_,g_ 35 33 false [s_ 34] ld,g_ 36 33 false [s_ 35,k_ (.int .i64 1024)] bgt_,m_ 37 [s_ 33,k_ (.bool true),s_ 36] .pick,v_ 38 37,g_ 39 38 false [s_ 1] f3_,g_ 40 38 false [s_ 39] ld,g_ 41 38 false [s_ 40,k_ (.int .i64 0)] bls_,m_ 42 [s_ 38,k_ (.bool true),s_ 41] .pick,v_ 43 42,g_ 44 43 false [s_ 1] f3_,g_ 45 43 false [s_ 44] ld,g_ 46 43 false [s_ 1] f2_,g_ 47 43 false [s_ 46] ld,g_ 48 43 false [s_ 45,s_ 47] bge_,m_ 49 [s_ 43,k_ (.bool true),s_ 48] .pick,v_ 50 49,g_ 51 50 false [s_ 1] f4_,g_ 52 50 false [s_ 51] ld,g_ 53 50 false [s_ 52] ln,g_ 54 50 false [s_ 53,k_ (.int .i64 4096)] bgt_,m_ 55 [s_ 50,k_ (.bool true),s_ 54] .pick,v_ 56 55,g_ 57 56 false [s_ 1] f5_,g_ 58 56 false [s_ 57] ld,g_ 59 56 false [s_ 58] ln,g_ 60 56 false [s_ 59,k_ (.int .i64 4096)] bgt_,m_ 61 [s_ 56,k_ (.bool true),s_ 60] .pick] (i_ 61 (sr_ [c1 2 (.int .i64 1) .mv,z_ 3] .ret) .skip)) (.seq (sr_ [z_ 4] (.block 0 (.loop (.seq (sr_ [v_ 62 4,o1 63 1 f4_,o1 64 63 ld,o1 65 64 ln,o2 66 62 65 bls_] (ex_ 66 0)) (.seq (.block 1 (sr_ [o1 69 1 f4_,o1 70 69 ld,v_ 71 4,o2 72 70 71 a5_,o1 73 72 (.load true 5),o0 5 (.alloc (.agg [(.int .i64 0),(.int .i64 0),.nilS,(.int .i64 0),.nilS]) 5),n2 5 73 (.store 5)] (sr_ [o1 74 5 f2_,o1 75 74 ld,o1 76 75 ln,v_ 6 76] (sr_ [v_ 77 6,c2 78 77 (.int .i64 0) beq_,v_ 79 78,g1 80 79 5 f3_,g1 81 79 80 ld,g_ 82 79 true [s_ 81,k_ (.int .i64 0)] beq_,m_ 83 [s_ 79,s_ 82,k_ (.bool false)] .pick,v_ 84 83,g_ 85 84 false [s_ 5] f3_,g_ 86 84 false [s_ 85] ld,g_ 87 84 false [s_ 86,k_ (.int .i64 1)] bge_,g_ 88 84 false [s_ 87] .mv,g1 89 88 5 f3_,g1 90 88 89 ld,g1 91 88 6 .mv,g2 92 88 90 91 ble_,g_ 93 84 false [s_ 88,s_ 92,k_ (.bool false)] .pick,m_ 94 [s_ 84,k_ (.bool true),s_ 93] .pick,v_ 7 94] (sr_ [o1 95 5 f0_,o1 96 95 ld,c2 97 96 (.int .i64 0) bls_,v_ 98 97,g_ 99 98 false [s_ 5] f0_,g_ 100 98 false [s_ 99] ld,g_ 101 98 false [s_ 1] f2_,g_ 102 98 false [s_ 101] ld,g_ 103 98 false [s_ 100,s_ 102] bge_,m_ 104 [s_ 98,k_ (.bool true),s_ 103] .pick,v_ 105 104,g_ 106 105 false [s_ 5] f1_,g_ 107 105 false [s_ 106] ld,g_ 108 105 false [s_ 107,k_ (.int .i64 0)] bls_,m_ 109 [s_ 105,k_ (.bool true),s_ 108] .pick,v_ 110 109,g_ 111 110 false [s_ 5] f1_,g_ 112 110 false [s_ 111] ld,g_ 113 110 false [s_ 1] f2_,g_ 114 110 false [s_ 113] ld,g_ 115 110 false [s_ 112,s_ 114] bge_,m_ 116 [s_ 110,k_ (.bool true),s_ 115] .pick,v_ 117 116,g_ 118 117 false [s_ 7] .mv,g_ 119 117 false [s_ 118] nt,m_ 120 [s_ 117,k_ (.bool true),s_ 119] .pick,v_ 121 120,g_ 122 121 false [s_ 1] f0_,g_ 123 121 false [s_ 122] ld,g_ 124 121 false [s_ 5] f2_,g_ 125 121 false [s_ 124] ld,g_ 126 121 false [k_ (.fn 91 []),s_ 123,s_ 125] .call,g_ 127 121 false [s_ 126] nt,m_ 128 [s_ 121,k_ (.bool true),s_ 127] .pick,v_ 129 128,g_ 130 129 false [s_ 1] l6,g_ 131 129 false [s_ 5] f4_,g_ 132 129 false [s_ 131] ld,g_ 133 129 false [s_ 5] f2_,g_ 134 129 false [s_ 133] ld,g_ 135 129 false [k_ (.fn 92 []),s_ 130,s_ 132,s_ 134] .call,g_ 136 129 false [s_ 135] nt,m_ 137 [s_ 129,k_ (.bool true),s_ 136] .pick] (i_ 137 (sr_ [v_ 138 4,c1 2 (.int .i64 2) .mv,v_ 3 138] .ret) .skip)))))) (.reg [v_ 67 4,i1_ 68 67,v_ 4 68])))))) (.seq (sr_ [z_ 8] (.block 2 (.loop (.seq (sr_ [v_ 139 8,o1 140 1 f5_,o1 141 140 ld,o1 142 141 ln,o2 143 139 142 bls_] (ex_ 143 2)) (.seq (.block 3 (sr_ [o1 146 1 f5_,o1 147 146 ld,v_ 148 8,o2 149 147 148 a3_,o1 150 149 (.load true 3),o0 9 (.alloc (.agg [(.int .i64 0),.nilS,.nilS]) 3),n2 9 150 (.store 3)] (sr_ [o1 151 9 f0_,o1 152 151 ld,c2 153 152 (.int .i64 0) bls_,v_ 154 153,g_ 155 154 false [s_ 9] f0_,g_ 156 154 false [s_ 155] ld,g_ 157 154 false [s_ 1] f2_,g_ 158 154 false [s_ 157] ld,g_ 159 154 false [s_ 156,s_ 158] bge_,m_ 160 [s_ 154,k_ (.bool true),s_ 159] .pick,v_ 161 160,g_ 162 161 false [s_ 1] f0_,g_ 163 161 false [s_ 162] ld,g_ 164 161 false [s_ 9] f1_,g_ 165 161 false [s_ 164] ld,g_ 166 161 false [k_ (.fn 91 []),s_ 163,s_ 165] .call,g_ 167 161 false [s_ 166] nt,m_ 168 [s_ 161,k_ (.bool true),s_ 167] .pick,v_ 169 168,g_ 170 169 false [s_ 1] l6,g_ 171 169 false [s_ 9] f2_,g_ 172 169 false [s_ 171] ld,g_ 173 169 false [s_ 9] f1_,g_ 174 169 false [s_ 173] ld,g_ 175 169 false [k_ (.fn 92 []),s_ 170,s_ 172,s_ 174] .call,g_ 176 169 false [s_ 175] nt,m_ 177 [s_ 169,k_ (.bool true),s_ 176] .pick] (i_ 177 (sr_ [v_ 178 8,c1 2 (.int .i64 3) .mv,v_ 3 178] .ret) .skip)))) (.reg [v_ 144 8,i1_ 145 144,v_ 8 145])))))) (.seq (sr_ [o1 179 1 l6,k1 180 93 179] (i_ 180 (sr_ [c1 2 (.int .i64 4) .mv,z_ 3] .ret) .skip)) (sr_ [z_ 2,z_ 3] .ret))))))
theorem V5:As Tryz.prog 45 1=some ⟨181,1,[(.slot 2),(.slot 3)],L1⟩:=by kernel_rfl
def N2:AC:=(sr_ [o1 3 0 .box,ns_ 6] (sr_ [ns_ 7] (sr_ [o0 12 (.bslice 1 0 (.int .i64 0) []),v_ 8 12] (.seq (.block 0 (.loop (.seq (sr_ [v_ 13 7,o1 14 13 ln,v_ 15 2,o2 16 14 15 ble_] (ex_ 16 0)) (.block 1 (sr_ [v_ 17 7,v_ 18 8,o1 19 18 (.bslice 1 1 .nilS [0]),o2 20 17 19 (.app 1 24 .nilS),v_ 7 20] (sr_ [o1 22 3 l6,v_ 23 1,v_ 24 8,m_ 25 [k_ (.fn 94 []),s_ 22,s_ 23,s_ 24,k_ (.int .i64 0)] .call,v_ 21 25,o1 26 21 (.extract 0),o1 27 21 (.extract 1),v_ 9 26,v_ 10 27] (sr_ [v_ 28 8,o1 29 28 ln,v_ 11 29] (.seq (.block 2 (.loop (.seq (sr_ [v_ 30 10,o1 31 30 nt,v_ 32 31,g1 33 32 11 .mv,g_ 34 32 true [s_ 33,k_ (.int .i64 0)] bgt_,m_ 35 [s_ 32,s_ 34,k_ (.bool false)] .pick] (ex_ 35 2)) (.block 3 (sr_ [v_ 36 11,c2 37 36 (.int .i64 1) bsu_,v_ 11 37] (.dreg [o1 39 3 l6,v_ 40 1,v_ 41 8,v_ 42 11,o2 43 41 42 (.slice 1 false true false),v_ 44 8,v_ 45 11,o2 46 44 45 a1_,o1 47 46 ld,i1_ 48 47,m_ 49 [k_ (.fn 94 []),s_ 39,s_ 40,s_ 43,s_ 48] .call,v_ 38 49,o1 50 38 (.extract 0),o1 51 38 (.extract 1),v_ 9 50,v_ 10 51])))))) (.seq (sr_ [v_ 52 10,o1 53 52 nt] (i_ 53 (sr_ [v_ 54 7,v_ 6 54] .ret) .skip)) (.reg [v_ 55 9,v_ 8 55])))))))))) (sr_ [v_ 56 7,v_ 6 56] .ret)))))
theorem Y6:As Tryz.prog 46 3=some ⟨57,3,[(.slot 6)],N2⟩:=by kernel_rfl
def Ek:AC:=(sr_ [ns_ 6] (sr_ [v_ 12 0,o2 13 12 12 (.mkSlice 1 24 .nilS),v_ 7 13] (.seq (sr_ [v_ 14 1,o1 15 14 ln,z_ 16] (.block 0 (.loop (sr_ [o2 17 16 15 bls_] (.seq (ex_ 17 0) (.seq (.block 1 (sr_ [o2 18 14 16 a5_,o1 19 18 (.load true 5),o0 9 (.alloc (.agg [(.int .i64 0),(.int .i64 0),.nilS,(.int .i64 0),.nilS]) 5),n2 9 19 (.store 5)] (sr_ [v_ 21 2,o1 22 9 (.load true 5),o2 23 21 22 .call,v_ 20 23,o1 24 20 (.extract 0),o1 25 20 (.extract 1),v_ 10 24,v_ 11 25] (sr_ [v_ 26 11] (i_ 26 (.grx [false,false,false,false,true,false,true,false,false,false,false] [m_ 27 [s_ 7] .mv,m_ 28 [s_ 10] .mv,m_ 29 [s_ 7] .mv,m_ 30 [s_ 10] .mv,m_ 31 [s_ 29,s_ 30] a1_,m_ 32 [s_ 31] ld,m_ 33 [s_ 9] (.load true 5),m_ 34 [s_ 33] (.bslice 5 1 (.agg [(.int .i64 0),(.int .i64 0),.nilS,(.int .i64 0),.nilS]) [0]),m_ 35 [s_ 32,s_ 34] (.app 5 72 (.agg [(.int .i64 0),(.int .i64 0),.nilS,(.int .i64 0),.nilS])),m_ 36 [s_ 27,s_ 28] a1_,h_ [s_ 36,s_ 35] st]) .skip))))) (.reg [i1_ 37 16,v_ 16 37]))))))) (sr_ [v_ 38 7,v_ 6 38] .ret))))
theorem Gk:As Tryz.prog 47 3=some ⟨39,3,[(.slot 6)],Ek⟩:=by kernel_rfl
def Ie:AC:=(sr_ [o1 1 0 .box,z_ 2,bf_ 3] (.seq (.dreg [o1 4 1 f0_,o1 5 4 ld,o1 6 1 f2_,o1 7 6 ld,o1 8 7 ln,c2 9 8 (.int .i64 0) bgt_,v_ 2 5,v_ 3 9]) .ret))
theorem O1:As Tryz.prog 48 1=some ⟨10,1,[(.slot 2),(.slot 3)],Ie⟩:=by kernel_rfl
def D6:AC:=(sr_ [ns_ 6] (sr_ [v_ 12 0,o2 13 12 12 (.mkSlice 1 24 .nilS),v_ 7 13] (.seq (sr_ [v_ 14 1,o1 15 14 ln,z_ 16] (.block 0 (.loop (sr_ [o2 17 16 15 bls_] (.seq (ex_ 17 0) (.seq (.block 1 (sr_ [o2 18 14 16 a3_,o1 19 18 (.load true 3),o0 9 (.alloc (.agg [(.int .i64 0),.nilS,.nilS]) 3),n2 9 19 (.store 3)] (sr_ [v_ 21 2,o1 22 9 (.load true 3),o2 23 21 22 .call,v_ 20 23,o1 24 20 (.extract 0),o1 25 20 (.extract 1),v_ 10 24,v_ 11 25] (sr_ [v_ 26 11] (i_ 26 (.grx [false,false,false,false,true,false,true,false,false,false,false] [m_ 27 [s_ 7] .mv,m_ 28 [s_ 10] .mv,m_ 29 [s_ 7] .mv,m_ 30 [s_ 10] .mv,m_ 31 [s_ 29,s_ 30] a1_,m_ 32 [s_ 31] ld,m_ 33 [s_ 9] (.load true 3),m_ 34 [s_ 33] (.bslice 3 1 (.agg [(.int .i64 0),.nilS,.nilS]) [0]),m_ 35 [s_ 32,s_ 34] (.app 3 56 (.agg [(.int .i64 0),.nilS,.nilS])),m_ 36 [s_ 27,s_ 28] a1_,h_ [s_ 36,s_ 35] st]) .skip))))) (.reg [i1_ 37 16,v_ 16 37]))))))) (sr_ [v_ 38 7,v_ 6 38] .ret))))
theorem Gd:As Tryz.prog 49 3=some ⟨39,3,[(.slot 6)],D6⟩:=by kernel_rfl
def If:AC:=(sr_ [o1 1 0 .box,z_ 2,bf_ 3] (sr_ [o1 4 1 f0_,o1 5 4 ld,v_ 2 5,bt_ 3] .ret))
theorem O2:As Tryz.prog 50 1=some ⟨6,1,[(.slot 2),(.slot 3)],If⟩:=by kernel_rfl
def Ig:AC:=(sr_ [ns_ 2] (sr_ [ns_ 3] (.seq (sr_ [v_ 6 0,o1 7 6 ln,z_ 8] (.block 0 (.loop (sr_ [o2 9 8 7 bls_] (.seq (ex_ 9 0) (.seq (.block 1 (sr_ [o2 10 6 8 a1_,o1 11 10 ld,v_ 5 11] (.reg [v_ 12 3,v_ 13 5,k1 14 95 13,o1 15 14 (.bslice 1 1 .nilS [0]),o2 16 12 15 (.app 1 24 .nilS),v_ 3 16]))) (.reg [i1_ 17 8,v_ 8 17]))))))) (sr_ [v_ 18 3,v_ 2 18] .ret))))
theorem O3:As Tryz.prog 51 1=some ⟨19,1,[(.slot 2)],Ig⟩:=by kernel_rfl
def Ih:AC:=(sr_ [o1 2 0 .box,ns_ 4] (sr_ [ns_ 5] (.seq (sr_ [o1 8 2 f1_,o1 9 8 ld,v_ 10 1,o2 11 9 10 (.bslice 1 2 .nilS [0,1]),k1 12 96 11,o1 13 12 ln,z_ 14] (.block 0 (.loop (sr_ [o2 15 14 13 bls_] (.seq (ex_ 15 0) (.seq (.block 1 (sr_ [o2 16 12 14 a6_,o1 17 16 l6,o0 7 (.alloc (.agg [(.int .i64 0),(.int .i64 0),(.int .i64 0),(.int .i64 0),(.int .i64 0),.nilS]) 6),n2 7 17 (.store 6)] (sr_ [o1 18 7 f5_,o1 19 18 ld,k1 20 97 19,o1 21 7 f5_,n2 21 20 st] (.reg [v_ 22 5,o1 23 7 l6,o1 24 23 (.bslice 6 1 (.agg [(.int .i64 0),(.int .i64 0),(.int .i64 0),(.int .i64 0),(.int .i64 0),.nilS]) [0]),o2 25 22 24 (.app 6 64 (.agg [(.int .i64 0),(.int .i64 0),(.int .i64 0),(.int .i64 0),(.int .i64 0),.nilS])),v_ 5 25])))) (.reg [i1_ 26 14,v_ 14 26]))))))) (sr_ [v_ 27 5,v_ 4 27] .ret))))
theorem O4:As Tryz.prog 52 2=some ⟨28,2,[(.slot 4)],Ih⟩:=by kernel_rfl
def Kp:AC:=(sr_ [o1 1 0 .box,z_ 2] (sr_ [z_ 3] (.seq (sr_ [o1 8 1 f4_,o1 9 8 ld,o1 10 9 ln,z_ 11] (.block 0 (.loop (sr_ [o2 12 11 10 bls_] (.seq (ex_ 12 0) (.seq (.block 1 (sr_ [o2 13 9 11 a5_,o1 14 13 (.load true 5),o0 5 (.alloc (.agg [(.int .i64 0),(.int .i64 0),.nilS,(.int .i64 0),.nilS]) 5),n2 5 14 (.store 5)] (.reg [v_ 15 3,o1 16 5 f4_,o1 17 16 ld,o1 18 17 ln,o2 19 15 18 .max,v_ 3 19]))) (.reg [i1_ 20 11,v_ 11 20]))))))) (.seq (sr_ [o1 21 1 f5_,o1 22 21 ld,o1 23 22 ln,z_ 24] (.block 2 (.loop (sr_ [o2 25 24 23 bls_] (.seq (ex_ 25 2) (.seq (.block 3 (sr_ [o2 26 22 24 a3_,o1 27 26 (.load true 3),o0 7 (.alloc (.agg [(.int .i64 0),.nilS,.nilS]) 3),n2 7 27 (.store 3)] (.reg [v_ 28 3,o1 29 7 f2_,o1 30 29 ld,o1 31 30 ln,o2 32 28 31 .max,v_ 3 32]))) (.reg [i1_ 33 24,v_ 24 33]))))))) (sr_ [v_ 34 3,v_ 2 34] .ret)))))
theorem Ss:As Tryz.prog 53 1=some ⟨35,1,[(.slot 2)],Kp⟩:=by kernel_rfl
def Ii:AC:=(sr_ [o1 2 0 .box,o1 3 1 .box,bf_ 4] (sr_ [o1 5 2 f0_,o1 6 5 ld,o1 7 3 f0_,o1 8 7 ld,o2 9 6 8 beq_,v_ 10 9,g1 11 10 2 f1_,g1 12 10 11 ld,g1 13 10 3 f1_,g1 14 10 13 ld,g2 15 10 12 14 beq_,m_ 16 [s_ 10,s_ 15,k_ (.bool false)] .pick,v_ 17 16,g1 18 17 2 f3_,g1 19 17 18 ld,g1 20 17 3 f3_,g1 21 17 20 ld,g2 22 17 19 21 beq_,m_ 23 [s_ 17,s_ 22,k_ (.bool false)] .pick,v_ 24 23,g1 25 24 2 f2_,g1 26 24 25 ld,g1 27 24 3 f2_,g1 28 24 27 ld,g_ 29 24 true [k_ (.fn 55 []),s_ 26,s_ 28] .call,m_ 30 [s_ 24,s_ 29,k_ (.bool false)] .pick,v_ 31 30,g1 32 31 2 f4_,g1 33 31 32 ld,g1 34 31 3 f4_,g1 35 31 34 ld,g_ 36 31 true [k_ (.fn 56 []),s_ 33,s_ 35] .call,m_ 37 [s_ 31,s_ 36,k_ (.bool false)] .pick,v_ 4 37] .ret))
theorem O5:As Tryz.prog 54 2=some ⟨38,2,[(.slot 4)],Ii⟩:=by kernel_rfl
def Ik:AC:=(sr_ [bf_ 4] (.seq (sr_ [v_ 6 0,o1 7 6 ln,v_ 8 1,o1 9 8 ln,o2 10 7 9 bne_] (i_ 10 (sr_ [bf_ 4] .ret) .skip)) (.seq (sr_ [z_ 5] (.block 0 (.loop (.seq (sr_ [v_ 11 5,v_ 12 0,o1 13 12 ln,o2 14 11 13 bls_] (ex_ 14 0)) (.seq (.block 1 (.seq (.dtl [v_ 17 0,v_ 18 5,o2 19 17 18 a1_,o1 20 19 ld,v_ 21 1,v_ 22 5,o2 23 21 22 a1_,o1 24 23 ld] [k2 25 98 20 24,o1 26 25 nt]) (i_ 26 (sr_ [bf_ 4] .ret) .skip))) (.reg [v_ 15 5,i1_ 16 15,v_ 5 16])))))) (sr_ [bt_ 4] .ret))))
theorem O6:As Tryz.prog 55 2=some ⟨27,2,[(.slot 4)],Ik⟩:=by kernel_rfl
def G8:AC:=(sr_ [bf_ 4] (.seq (sr_ [v_ 6 0,o1 7 6 ln,v_ 8 1,o1 9 8 ln,o2 10 7 9 bne_] (i_ 10 (sr_ [bf_ 4] .ret) .skip)) (.seq (sr_ [z_ 5] (.block 0 (.loop (.seq (sr_ [v_ 11 5,v_ 12 0,o1 13 12 ln,o2 14 11 13 bls_] (ex_ 14 0)) (.seq (.block 1 (.seq (.dtl [v_ 17 0,v_ 18 5,o2 19 17 18 a6_,o1 20 19 l6,v_ 21 1,v_ 22 5,o2 23 21 22 a6_,o1 24 23 l6] [k2 25 99 20 24,o1 26 25 nt]) (i_ 26 (sr_ [bf_ 4] .ret) .skip))) (.reg [v_ 15 5,i1_ 16 15,v_ 5 16])))))) (sr_ [bt_ 4] .ret))))
theorem M8:As Tryz.prog 56 2=some ⟨27,2,[(.slot 4)],G8⟩:=by kernel_rfl
def Ld:AC:=(sr_ [o1 3 0 .box,z_ 6] (.seq (sr_ [v_ 7 2,o1 8 7 ln,c2 9 8 (.int .i64 0) beq_] (i_ 9 (sr_ [v_ 10 1,v_ 6 10] .ret) .skip)) (.seq (.dreg [o1 11 3 f4_,o1 12 11 ld,v_ 13 2,v_ 14 2,o1 15 14 ln,c2 16 15 (.int .i64 1) bsu_,o2 17 13 16 a1_,o1 18 17 ld,o2 19 12 18 a5_,o1 20 19 f1_,o1 21 20 ld,v_ 6 21]) .ret)))
theorem Qj:As Tryz.prog 57 3=some ⟨22,3,[(.slot 6)],Ld⟩:=by kernel_rfl
def Kq:AC:=(sr_ [o1 3 0 .box,ns_ 6] (sr_ [ns_ 7] (.seq (sr_ [z_ 8] (.block 0 (.loop (.seq (sr_ [v_ 9 8,v_ 10 1,o1 11 10 ln,o2 12 9 11 bls_] (ex_ 12 0)) (.seq (.block 1 (.dtl [v_ 15 7,o1 16 3 f4_,o1 17 16 ld,v_ 18 1,v_ 19 8,o2 20 18 19 a1_,o1 21 20 ld,o2 22 17 21 a5_,o1 23 22 f4_,o1 24 23 ld] [o2 25 15 24 (.app 6 64 (.agg [(.int .i64 0),(.int .i64 0),(.int .i64 0),(.int .i64 0),(.int .i64 0),.nilS])),v_ 7 25])) (.reg [v_ 13 8,i1_ 14 13,v_ 8 14])))))) (sr_ [v_ 26 7,v_ 27 2,o2 28 26 27 (.app 6 64 (.agg [(.int .i64 0),(.int .i64 0),(.int .i64 0),(.int .i64 0),(.int .i64 0),.nilS])),v_ 6 28] .ret))))
theorem Su:As Tryz.prog 58 3=some ⟨29,3,[(.slot 6)],Kq⟩:=by kernel_rfl
def L2:AC:=(sr_ [ns_ 2] (.seq (sr_ [v_ 3 0] (.block 0 (sr_ [c2 5 3 (.int .i64 1) beq_,v_ 4 5] (i_ 4 (sr_ [m_ 6 [k_ (.int .i64 0),k_ (.int .i64 255)] (.build [(.int .i64 0),(.int .i64 0)] [(0,1),(1,1)] [0,1]),o1 7 6 (.bslice 2 1 (.agg [(.int .i64 0),(.int .i64 0)]) [0]),v_ 2 7] .ret) (sr_ [c2 9 3 (.int .i64 2) beq_,v_ 8 9] (i_ 8 (sr_ [m_ 10 [k_ (.int .i64 0),k_ (.int .i64 55295)] (.build [(.int .i64 0),(.int .i64 0)] [(0,1),(1,1)] [0,1]),m_ 11 [k_ (.int .i64 57344),k_ (.int .i64 1114111)] (.build [(.int .i64 0),(.int .i64 0)] [(0,1),(1,1)] [0,1]),o2 12 10 11 (.bslice 2 2 (.agg [(.int .i64 0),(.int .i64 0)]) [0,1]),v_ 2 12] .ret) .skip)))))) (sr_ [ns_ 2] .ret)))
theorem V6:As Tryz.prog 72 1=some ⟨13,1,[(.slot 2)],L2⟩:=by kernel_rfl
def N3:AC:=(sr_ [o1 1 0 .box,z_ 2,z_ 3] (.seq (sr_ [o1 8 1 l6,k1 9 117 8,o1 10 9 nt] (i_ 10 (sr_ [c1 2 (.int .i64 1) .mv,z_ 3] .ret) .skip)) (.seq (sr_ [o1 11 1 f4_,o1 12 11 ld,o1 13 12 ln,z_ 14] (.block 0 (.loop (sr_ [o2 15 14 13 bls_] (.seq (ex_ 15 0) (.seq (.block 1 (sr_ [v_ 16 14,o2 17 12 14 a5_,o1 18 17 (.load true 5),o0 5 (.alloc (.agg [(.int .i64 0),(.int .i64 0),.nilS,(.int .i64 0),.nilS]) 5),v_ 4 16,n2 5 18 (.store 5)] (sr_ [o1 19 1 l6,o1 20 5 (.load true 5),k2 21 118 19 20,o1 22 21 nt] (i_ 22 (sr_ [v_ 23 4,c1 2 (.int .i64 2) .mv,v_ 3 23] .ret) .skip)))) (.reg [i1_ 24 14,v_ 14 24]))))))) (.seq (sr_ [o1 25 1 f5_,o1 26 25 ld,o1 27 26 ln,z_ 28] (.block 2 (.loop (sr_ [o2 29 28 27 bls_] (.seq (ex_ 29 2) (.seq (.block 3 (sr_ [v_ 30 28,o2 31 26 28 a3_,o1 32 31 (.load true 3),o0 7 (.alloc (.agg [(.int .i64 0),.nilS,.nilS]) 3),v_ 6 30,n2 7 32 (.store 3)] (sr_ [o1 33 1 l6,o1 34 7 f0_,o1 35 34 ld,k2 36 119 33 35,o1 37 36 nt,v_ 38 37,g_ 39 38 false [s_ 1] f0_,g_ 40 38 false [s_ 39] ld,g_ 41 38 false [s_ 7] f1_,g_ 42 38 false [s_ 41] ld,g_ 43 38 false [k_ (.fn 120 []),s_ 40,s_ 42] .call,g_ 44 38 false [s_ 43] nt,m_ 45 [s_ 38,k_ (.bool true),s_ 44] .pick,v_ 46 45,g_ 47 46 false [s_ 1] l6,g_ 48 46 false [s_ 7] f2_,g_ 49 46 false [s_ 48] ld,g_ 50 46 false [s_ 7] f1_,g_ 51 46 false [s_ 50] ld,g_ 52 46 false [k_ (.fn 121 []),s_ 47,s_ 49,s_ 51] .call,g_ 53 46 false [s_ 52] nt,m_ 54 [s_ 46,k_ (.bool true),s_ 53] .pick] (i_ 54 (sr_ [v_ 55 6,c1 2 (.int .i64 3) .mv,v_ 3 55] .ret) .skip)))) (.reg [i1_ 56 28,v_ 28 56]))))))) (.seq (sr_ [o1 57 1 l6,k1 58 122 57] (i_ 58 (sr_ [c1 2 (.int .i64 4) .mv,z_ 3] .ret) .skip)) (sr_ [z_ 2,z_ 3] .ret))))))
theorem Y7:As Tryz.prog 82 1=some ⟨59,1,[(.slot 2),(.slot 3)],N3⟩:=by kernel_rfl
end Go.Proofs.YtbcjoeadpjfcfaaGreat
