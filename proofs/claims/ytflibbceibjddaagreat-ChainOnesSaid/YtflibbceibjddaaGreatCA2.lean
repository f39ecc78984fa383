/-
  Parts of the proof that the law holds whatever the input; without conditions.
-/
import Derived.OrdersIn
import Derived.Deep.LoopGhost
import Derived.Scope
import Derived.Sort.LoopGhostIn
import Derived.RangeFuncNested
import Derived.LoopN
import Derived.IntWalk
import Derived.Below
import Derived.Test.YtflibbceibjddaaGreatCA1
set_option linter.unusedSimpArgs false
set_option linter.unusedVariables false
set_option linter.unusedSectionVars false
namespace Go.Proofs.YtflibbceibjddaaGreat.Abs
section
variable {P:Program}{S:MS}{H:A4}{ρ:Operand->Value}{K:AV->A4->Prop}
theorem XE(hS:SRel S H)(o:Oper){k:AK}(hk:Fx P o.op=some k){xs:List AV}(hx:AB S xs (o.op.operands.toList.map ρ))(h:AI P k H xs K):OpOk P S ((execOp ρ o).run P S.w) K:=by
 obtain⟨dst,op,type,pos,after,guard⟩:=o;cases op with
 |move x=>cases hk;exact s_mv hS (by simpa [Op.operands] using hx) h
 |assign x=>cases hk;exact s_mv hS (by simpa [Op.operands] using hx) h
 |pick c a b=>cases hk;exact zqu hS (by simpa [Op.operands] using hx) h
 |alloc t =>
  simp only[Fx] at hk;split at hk
  ·rename_i i hi
   split at hk
   ·rename_i z hz
    split at hk
    ·rename_i x hzx
     split at hk
     ·rename_i hc
      cases hk;simp only[Ac,Ah,B8] at hc;have:xs=[]:=by have:=hx.length;simpa [Op.operands] using this.symm
      subst this;exact zli hS t hi hz hzx hc.1 hc.2 h
     ·cases hk
    ·cases hk
   ·cases hk
  ·cases hk
 |box t x=>cases hk;exact s_box hS t (by simpa [Op.operands] using hx) h
 |build t ps =>
  have hx':AB S xs (ps.toList.map λp=>ρ p.2):=by simpa [Op.operands,BP,Function.comp_def] using hx
  simp only[Fx] at hk;split at hk
  ·rename_i fs i ht hi
   split at hk
   ·rename_i z hz
    split at hk
    ·rename_i x hzx
     split at hk
     ·rename_i pl hpl
      split at hk
      ·rename_i hc
       cases hk;simp only[Ac] at hc;have hag:∃cs,z=.agg cs:=by cases z<;>simp[Zy] at hc<;>exact⟨_,rfl⟩
       exact zlj hS t ht hi hz hzx hpl hag ps.toList hx' h
      ·cases hk
     ·cases hk
    ·cases hk
   ·cases hk
  ·rename_i n e i ht hi
   split at hk
   ·rename_i z hz
    split at hk
    ·rename_i x hzx
     split at hk
     ·rename_i j hj
      split at hk
      ·rename_i hc
       cases hk;simp only[Ac] at hc;have hag:∃cs,z=.agg cs:=by cases z<;>simp[Zy] at hc<;>exact⟨_,rfl⟩
       exact ze2 hS t ht hi hz hzx hj hag ps.toList hx' h
      ·cases hk
     ·cases hk
    ·cases hk
   ·cases hk
  ·cases hk
 |buildSlice t len ps =>
  have hx':AB S xs (ps.toList.map λp=>ρ p.2):=by simpa [Op.operands,BP,Function.comp_def] using hx
  simp only[Fx] at hk;split at hk
  ·rename_i e ht
   split at hk
   ·rename_i i hi
    split at hk
    ·rename_i z hz
     split at hk
     ·rename_i x hzx
      split at hk
      ·rename_i hc
       cases hk;simp only[Ac,Ah,Ck,B8] at hc;exact ze3 hS t len ht hi hz hzx hc.1.1.1 hc.1.1.2 hc.1.2 hc.2 ps.toList hx' h
      ·cases hk
     ·cases hk
    ·cases hk
   ·cases hk
  ·cases hk
 |load t a =>
  obtain⟨⟨a,s⟩,hs,rfl⟩:=Ag.1 hk;exact zqx hS t hs (by simpa [Op.operands] using hx) h
 |store t a v =>
  obtain⟨⟨a,s⟩,hs,rfl⟩:=Ag.1 hk;exact zlk hS t hs (by simpa [Op.operands] using hx) h
 |nilCheck x=>cases hk;exact z3g hS (v:=ρ x) (by simpa [Op.operands] using hx) h x _ rfl rfl
 |binOp op t x y yt =>
  have hx':AB S xs [ρ x,ρ y]:=by simpa [Op.operands] using hx
  simp only[Fx] at hk;split at hk
  ·rename_i hc
   have hop:op=if (op == .neq) then .neq else .eql:=by
    cases op<;>simp at hc<;>rfl
   split at hk
   ·rename_i ht
    cases hk;have:=s_eqb hS (op == .neq) t ht x y hx' h;rw[<-hop] at this;exact this
   ·cases hk;exact zla hS op t x y hx' h
   ·cases hk;exact zla hS op t x y hx' h
   ·rename_i fs ht
    split at hk
    ·rename_i hc2
     obtain⟨ks,hks,rfl⟩:=Ag.1 hk;simp only[Ac,Cj] at hc2;have:=s_eqs hS (op == .neq) ks t ht hks hc2.1 hc2.2 x y hx' h;rw[<-hop] at this;exact this
    ·cases hk
   ·rename_i e ht
    cases hk;have:=s_eqn hS (op == .neq) t ht x y hx' h;rw[<-hop] at this;exact this
   ·cases hk
  ·cases hk;exact zla hS op t x y hx' h
 |unOp op t x=>cases hk;exact s_un hS op (by simpa [Op.operands] using hx) h
 |convert src dst' x =>
  have hx':AB S xs [ρ x]:=by simpa [Op.operands] using hx
  simp only[Fx] at hk;split at hk
  ·rename_i hs hd;cases hk;exact zqv hS src dst' hs hd hx' h
  ·rename_i e hs hd
   split at hk
   ·rename_i he;cases hk;exact zlh hS src dst' e hs hd he hx' h
   ·rename_i he;cases hk;exact ze1 hS src dst' e hs hd he hx' h
   ·cases hk
  ·cases hk
 |slice t x lo hi mx =>
  simp only[Fx] at hk;split at hk
  ·rename_i e ht
   split at hk
   ·rename_i i hi'
    split at hk
    ·rename_i h0
     cases hk;have hlen:∀(o:Option Operand),(o.map ρ).isSome=o.isSome:=λo=>by cases o<;>rfl
     have hx':AB S xs (ρ x::((lo.map ρ).toList++((hi.map ρ).toList++((mx.map ρ).toList++[])))):=by
      cases lo<;>cases hi<;>cases mx<;>simpa [Op.operands] using hx
     refine zlg hS ht hi' h0 hx' ?_;rw[hlen,hlen,hlen];exact h
    ·cases hk
   ·cases hk
  ·cases hk
 |fieldAddr t x f =>
  simp only[Fx] at hk;split at hk
  ·rename_i fs ht
   split at hk
   ·rename_i fl hf
    obtain⟨⟨a,s⟩,hs,rfl⟩:=Ag.1 hk;exact zlc hS t f ht hf hs (by simpa [Op.operands] using hx) h
   ·cases hk
  ·cases hk
 |field t x f =>
  simp only[Fx] at hk;split at hk
  ·rename_i fs ht
   split at hk
   ·rename_i fl hf
    obtain⟨⟨a,s⟩,hs,rfl⟩:=Ag.1 hk;exact zld hS t f ht hf hs (by simpa [Op.operands] using hx) h
   ·cases hk
  ·cases hk
 |indexAddr t x ix =>
  have hx':AB S xs [ρ x,ρ ix]:=by simpa [Op.operands] using hx
  simp only[Fx] at hk;split at hk
  ·rename_i e ht
   split at hk
   ·rename_i i hi
    split at hk
    ·rename_i h0;cases hk;exact zlf hS t e ht hi h0 hx' h
    ·cases hk
   ·cases hk
  ·rename_i n e ht
   split at hk
   ·cases hk
   ·rename_i hn
    obtain⟨⟨a,s⟩,hs,rfl⟩:=Ag.1 hk;exact zdy hS t e ht hs hn hx' h
  ·cases hk
 |index t x ix =>
  have hx':AB S xs [ρ x,ρ ix]:=by simpa [Op.operands] using hx
  simp only[Fx] at hk;split at hk
  ·rename_i n e ht
   obtain⟨⟨a,s⟩,hs,rfl⟩:=Ag.1 hk;exact zle hS t e ht hs hx' h
  ·rename_i ht;cases hk;exact z3h hS t ht hx' h
  ·cases hk
 |extract x i=>cases hk;exact z7a hS i (by simpa [Op.operands] using hx) h
 |makeSlice t l c =>
  simp only[Fx] at hk;split at hk
  ·rename_i e ht
   split at hk
   ·rename_i i hi
    split at hk
    ·rename_i z hz
     split at hk
     ·rename_i x hzx
      split at hk
      ·rename_i hc
       cases hk;simp only[Ac,Ah,Ck,B8] at hc;exact z7c hS t ht hi hz hzx hc.1.1.1 hc.1.1.2 hc.1.2 hc.2 (by simpa [Op.operands] using hx) h
      ·cases hk
     ·cases hk
    ·cases hk
   ·cases hk
  ·cases hk
 |makeFunc fn first captured =>
  simp only[Fx] at hk;split at hk
  ·rename_i f
   split at hk
   ·rename_i hf
    cases hk;have hf':first=#[]:=by simpa using hf
    subst hf';have hx':AB S xs (captured.toList.map ρ):=by simpa [Op.operands] using hx
    have:=zdz (P:=P) hS f hx' h;have e:(captured.toList.map ρ).toArray=captured.map ρ:=by apply F3;simp
    rw[e] at this;have e0:(#[]:Array Operand).map ρ=#[]:=oc
    show OpOk P S ((do pure (Next.value (<-Instr.makeFunc (.func f) ((#[]:Array Operand).map ρ) (captured.map ρ))):Sem Next).run P S.w) K;rw[e0];exact this
   ·cases hk
  ·cases hk
 |makeMap t r =>
  cases r with
  |some r=>cases hk
  |none =>
   cases hk;have:xs=[]:=by have:=hx.length;simpa [Op.operands] using this.symm
   subst this;exact zlm hS t h
 |lookup t x ix ok =>
  have hx':AB S xs [ρ x,ρ ix]:=by simpa [Op.operands] using hx
  cases ok with
  |true=>cases hk
  |false =>
   simp only[Fx] at hk;split at hk
   ·rename_i k e ht
    split at hk
    ·rename_i i hkk hi
     split at hk
     ·rename_i z hz
      obtain⟨zx,hzx,rfl⟩:=Ag.1 hk;exact ze6 hS t ht hkk hi hz hzx hx' h
     ·cases hk
    ·cases hk
   ·cases hk
 |range t x =>
  have hx':AB S xs [ρ x]:=by simpa [Op.operands] using hx
  simp only[Fx] at hk;split at hk
  ·rename_i kt e ht
   cases hk;exact zea hS ht hx' h
  ·cases hk
 |next it s =>
  have hx':AB S xs [ρ it]:=by simpa [Op.operands] using hx
  simp only[Fx] at hk;split at hk
  ·cases hk
  ·rename_i hs
   cases hk;obtain rfl:s=false:=by simpa using hs
   exact zln hS type hx' h
 |entry it =>
  have hx':AB S xs [ρ it]:=by simpa [Op.operands] using hx
  cases hk;exact zec hS hx' h
 |mapUpdate t m k v =>
  have hx':AB S xs [ρ m,ρ k,ρ v]:=by simpa [Op.operands] using hx
  simp only[Fx] at hk;split at hk
  ·rename_i kt e ht
   split at hk
   ·rename_i hkk
    cases hk;exact ze8 hS t ht hkk hx' h
   ·cases hk
  ·cases hk
 |call c =>
  obtain⟨callee,args,argTypes⟩:=c;simp only[Fx] at hk;cases callee with
  |value f =>
   cases hk;have hx':AB S xs (ρ f::args.toList.map ρ):=by simpa [Op.operands,Call.operands] using hx
   have:=zqy (P:=P) hS hx' h;have e:(args.toList.map ρ).toArray=args.map ρ:=by apply F3;simp
   rw[e] at this;exact this
  |invoke r m=>cases hk
  |builtin b =>
   have hx':AB S xs (args.toList.map ρ):=by simpa [Op.operands,Call.operands] using hx
   have go1:∀{v:Value},args.toList.map ρ=[v]->OpOk P S ((builtin b argTypes type (args.map fun|.const _=>true|_=>false) #[v]).run P S.w) K->OpOk P S ((execOp ρ { dst,op:=.call { callee:=.builtin b,args,argTypes },type,pos,after,guard }).run P S.w) K:=by
    intro v hv hh;have e:args.map ρ=#[v]:=by apply F3;simpa using hv
    rw[<-e] at hh;exact hh
   have go2:∀{u v:Value},args.toList.map ρ=[u,v]->OpOk P S ((builtin b argTypes type (args.map fun|.const _=>true|_=>false) #[u,v]).run P S.w) K->OpOk P S ((execOp ρ { dst,op:=.call { callee:=.builtin b,args,argTypes },type,pos,after,guard }).run P S.w) K:=by
    intro u v hv hh;have e:args.map ρ=#[u,v]:=by apply F3;simpa using hv
    rw[<-e] at hh;exact hh
   have sh1:xs.length=1->∃v,args.toList.map ρ=[v]:=λhl=>List.length_eq_one_iff.1 (by rw[hx'.length,hl])
   have sh2:xs.length=2->∃u v,args.toList.map ρ=[u,v]:=λhl=>by
    have hl':=hx'.length;rw[hl] at hl'
    match args.toList.map ρ,hl' with
    |[u,v],_=>exact⟨u,v,rfl⟩
   cases b<;>try (simp only[FS,reduceCtorEq] at hk;done)
   ·-- append
    simp only[FS] at hk;split at hk
    ·rename_i t u h0 h1
     have fin:∀{e:TypeId}{i:TypeInfo}{z:Value}{x:AV},P.underlying t=some (.slice e)->((∃e',P.underlying u=some (.slice e'))\/P.underlying u=some .string)->P.info? e=some i->i.zero=some z->avOf z=some x ->
      (0<i.size&&0<i.bytes&&z.cells.size == i.size)=true->k=.app i.size i.bytes x->argTypes=#[t,u]->OpOk P S ((execOp ρ { dst,op:=.call { callee:=.builtin .append,args,argTypes },type,pos,after,guard }).run P S.w) K:=by
      intro e i z x ht hu hi hz _ hc hkk hat;subst hkk;simp only[Ac,Ah,Ck] at hc
      have hl:xs.length=2:=by
       match xs,h with
       |[_,_],_=>rfl
       |[],h=>simp[AI] at h
       |[_],h=>simp[AI] at h
       |_::_::_::_,h=>simp[AI] at h
      obtain⟨a,b,hab⟩:=sh2 hl;rw[hab] at hx';refine go2 hab ?_;rw[hat];exact s_app hS ht hu hi hz hc.2 hc.1.1 hc.1.2 _ hx' h
     split at hk
     ·rename_i hat
      split at hk
      ·rename_i e e' ht hu
       split at hk
       ·rename_i i hi
        split at hk
        ·rename_i z hz
         split at hk
         ·rename_i x hzx
          split at hk
          ·rename_i hc
           exact fin ht (.inl ⟨_,hu⟩) hi hz hzx hc (by cases hk;rfl) (by simpa using hat)
          ·cases hk
         ·cases hk
        ·cases hk
       ·cases hk
      ·rename_i e ht hu
       split at hk
       ·rename_i i hi
        split at hk
        ·rename_i z hz
         split at hk
         ·rename_i x hzx
          split at hk
          ·rename_i hc
           exact fin ht (.inr hu) hi hz hzx hc (by cases hk;rfl) (by simpa using hat)
          ·cases hk
         ·cases hk
        ·cases hk
       ·cases hk
      ·rename_i e ik ht hu
       split at hk
       ·rename_i i hi
        split at hk
        ·rename_i z hz
         split at hk
         ·rename_i x hzx
          split at hk
          ·rename_i hc
           cases hk;simp only[Ac,Ah,Ck,B8] at hc
           have hl:xs.length=2:=by
            match xs,h with
            |[_,_],_=>rfl
            |[],h=>simp[AI] at h
            |[_],h=>simp[AI] at h
            |_::_::_::_,h=>simp[AI] at h
           obtain⟨a,b,hab⟩:=sh2 hl;rw[hab] at hx';refine go2 hab ?_;rw[show argTypes=#[t,u] by simpa using hat];obtain⟨y1,y2,rfl,hy1,hy2⟩:=hx'.len2;cases y1<;>cases y2<;>simp only[AI] at h<;>try exact h.elim
           obtain rfl:a=.slice none 0 0:=hy1;obtain rfl:b=.int _ _:=hy2;exact zqz hS ht hu hi hz hzx hc.1.2 hc.2 hc.1.1.1 hc.1.1.2 h.1 h.2.1 _ h.2.2
          ·cases hk
         ·cases hk
        ·cases hk
       ·cases hk
      ·cases hk
     ·cases hk
    ·cases hk
   ·simp only[FS] at hk
    split at hk
    ·rename_i t h0
     split at hk
     ·rename_i e ht
      cases hk
      have hl:xs.length=1:=by
       match xs,h with
       |[_],_=>rfl
       |[],h=>simp[AI] at h
       |_::_::_,h=>simp[AI] at h
      obtain⟨v,hv⟩:=sh1 hl;rw[hv] at hx';exact go1 hv (s_cap hS t type _ argTypes h0 ht hx' h)
     ·cases hk
    ·cases hk
   ·simp only[FS] at hk
    split at hk
    ·rename_i t h0
     split at hk
     ·rename_i e ht
      split at hk
      ·rename_i i hi
       split at hk
       ·rename_i z hz
        split at hk
        ·rename_i x hzx
         split at hk
         ·rename_i hc
          cases hk;simp only[Ac,Ah,Ck,B8] at hc
          have hl:xs.length=1:=by
           match xs,h with
           |[_],_=>rfl
           |[],h=>simp[AI] at h
           |_::_::_,h=>simp[AI] at h
          obtain⟨v,hv⟩:=sh1 hl;rw[hv] at hx';exact go1 hv (s_clr hS argTypes type h0 ht hi hz hzx hc.1.2 hc.2 hc.1.1 _ hx' h)
         ·cases hk
        ·cases hk
       ·cases hk
      ·cases hk
     ·cases hk
    ·cases hk
   ·simp only[FS] at hk
    split at hk
    ·rename_i t h0
     split at hk
     ·rename_i e ht
      cases hk
      have hl:xs.length=1:=by
       match xs,h with
       |[_],_=>rfl
       |[],h=>simp[AI] at h
       |_::_::_,h=>simp[AI] at h
      obtain⟨v,hv⟩:=sh1 hl;rw[hv] at hx';exact go1 hv (s_len hS t type _ argTypes h0 ht hx' h)
     ·rename_i ht
      cases hk
      have hl:xs.length=1:=by
       match xs,h with
       |[_],_=>rfl
       |[],h=>simp[AI] at h
       |_::_::_,h=>simp[AI] at h
      obtain⟨v,hv⟩:=sh1 hl;rw[hv] at hx';exact go1 hv (zqw hS t type _ argTypes h0 ht hx' h)
     ·rename_i kt e ht
      split at hk
      ·cases hk
       have hl:xs.length=1:=by
        match xs,h with
        |[_],_=>rfl
        |[],h=>simp[AI] at h
        |_::_::_,h=>simp[AI] at h
       obtain⟨v,hv⟩:=sh1 hl;rw[hv] at hx';exact go1 hv (zr1 hS t type _ argTypes h0 ht hx' h)
      ·cases hk
     ·cases hk
    ·cases hk
   ·cases hk
    exact s_max hS argTypes type (args.map fun|.const _=>true|_=>false) (vs:=args.map ρ) (by rw[Array.toList_map];exact hx') h
   ·cases hk
    have hl:xs.length=2:=by
     match xs,h with
     |[_,_],_=>rfl
     |[],h=>simp[AI] at h
     |[_],h=>simp[AI] at h
     |_::_::_::_,h=>simp[AI] at h
    obtain⟨u,v,huv⟩:=sh2 hl;rw[huv] at hx';exact go2 huv (s_min hS argTypes type _ hx' h)
 |_=>cases hk
theorem RB(hS:SRel S H)(o:Oper){k:AK}(hk:Dk P o.op=some k){xs:List AV}(hx:AB S xs (o.op.operands.toList.map ρ))(h:AI P k H xs K):OpOk P S ((execOp ρ o).run P S.w) K:=by
 by_cases hn:k=.no
 ·subst hn;exact absurd h (by simp[AI])
 ·exact XE hS o (JG hk hn) hx h
end
def Env.put(env:Env)(dst:Option Nat)(x:AV):Env:=match dst with
 |some d=>fput env d x
 |none=>env
def I1:AV->Bool->Prop->Prop->Prop->Prop
 |.bool true,true,p,_,_=>p
 |.bool false,false,p,_,_=>p
 |.bool true,false,_,q,_=>q
 |.bool false,true,_,q,_=>q
 |.tup [],_,_,_,r=>r
 |_,_,_,_,_=>False
theorem Vb{b w:Bool}{p q r:Prop}(hp:b=w->p)(hq:b=(!w)->q):I1 (.bool b) w p q r:=by
 cases b<;>cases w<;>simp only[I1]<;>first|exact hp rfl|exact hq rfl
theorem Pw{b w:Bool}{p q r:Prop}(h:I1 (.bool b) w p q r):(b=w->p)/\(b=(!w)->q):=by
 cases b<;>cases w<;>simp only[I1] at h<;>simp[h]
def I2(env:Env)(g:Option (Nat × Bool))(f:Bool->Env->Prop):Prop :=
 match g with
 |none=>f true env
 |some (d,want)=>I1 (env d) want (f true (env.put (some d) (.bool want))) (f false (env.put (some d) (.bool (!want)))) (f false env)
def AOp.vals(o:AOp)(env:Env):List AV:=o.args.map (·.eval env)
def runK(P:Program):List AOp->Env->A4->(Env->A4->Prop)->Prop
 |[],env,H,K=>K env H
 |o::l,env,H,K=>I2 env o.guard λw env =>
  if w then AI P o.k H (o.vals env) λx H'=>runK P l (env.put o.dst x) H' K else runK P l (env.put o.dst (.tup [])) H K
def AK.still:AK->Bool
 |.mv|.pick|.build ..|.load ..|.nilCheck|.bin _|.eqb _|.eqs ..|.eqn _|.un _|.conv _|.slice ..|.faddr ..|.field ..|.iaddr _|.iaddrA ..|.index ..|.indexStr|.extract _|.len _|.cap|.max|.min|.mkFunc _|.toStr|.runStr|.mapGet _=>true
 |_=>false
def Vd(P:Program)(k:AK)(H:A4)(xs:List AV)(K:AV->Prop):Prop :=
 match k,xs with
 |.call,.fn f caps::ys=>∃x,B9 P f (ys++caps) H (λy H'=>y=x/\H'=H)/\K x
 |.bslice w len z idx,xs=>Ji w len idx xs/\0<w/\AJ (Gk idx xs (List.replicate len z))=true/\K (.full w (Gk idx xs (List.replicate len z)))
 |k,xs=>k.still=true/\AI P k H xs λx _=>K x
def runQ(P:Program)(H:A4):List AOp->Env->(Env->Prop)->Prop
 |[],env,K=>K env
 |o::l,env,K=>I2 env o.guard λw env =>
  if w then Vd P o.k H (o.vals env) λx=>runQ P H l (env.put o.dst x) K else runQ P H l (env.put o.dst (.tup [])) K
def fen(r:Option Nat):Fence:={ Fence.wide with round:=r }
def mark(D:Nat):Deferred:={ target:=.collected D,args:=#[] }
def Marks(S:MS)(ds:List Deferred):Prop:=S.base<=S.w.heap.size/\∃Ds:List Nat,ds=Ds.map mark/\Ds.Nodup/\∀D∈Ds,S.base<=D/\S.keep D/\¬S.im D/\S.w.heap[D]? = some (.deferred (some []))
theorem Marks.of{S S':MS}{ds:List Deferred}(h:Marks S ds)(hb:S'.base=S.base)(hsz:S.w.heap.size<=S'.w.heap.size)(hk:∀b,S.keep b->S'.keep b)(hf:∀b,S'.im b->S.im b\/¬S.keep b)(hh:∀b,S.keep b->S'.w.heap[b]? = S.w.heap[b]?):Marks S' ds:=by
 obtain⟨hbs,Ds,h1,h2,h3⟩:=h;refine⟨by rw[hb];exact Bl hbs hsz,Ds,h1,h2,λD hD=>?_⟩;obtain⟨k1,k2,k3,k4⟩:=h3 D hD;refine⟨by rw[hb];exact k1,hk D k2,λhi=>?_,by rw[hh D k2];exact k4⟩;rcases hf D hi with h|h
 ·exact k3 h
 ·exact h k2
theorem Marks.mono{S S':MS}{ds:List Deferred}(e:Evo S S')(h:Marks S ds):Marks S' ds:=h.of e.base e.size e.keep e.fresh (λb hb=>e.kept b (.inr hb))
theorem Marks.nil{S:MS}(h:S.base<=S.w.heap.size):Marks S []:=⟨h,[],rfl,Cm,λ_ h=>by cases h⟩
structure FRel(S:MS)(n:Nat)(env:Env)(a:Act):Prop where
 size:a.tmps.size=n
 defers:Marks S a.defers
 val:∀i,i<n->VRel S (env i) (a.tmps.getD i undef)
theorem FRel.mono{S S':MS}{n:Nat}{env:Env}{a:Act}(e:Evo S S')(h:FRel S n env a):FRel S' n env a:=⟨h.size,h.defers.mono e,λi hi=>VRel.mono e _ (h.val i hi)⟩
theorem FRel.put{S:MS}{n:Nat}{env:Env}{a:Act}(h:FRel S n env a){dst:Option Nat}(hd:dst.all (·<n)=true){x:AV}{v:Value}(hv:VRel S x v):FRel S n (env.put dst x) (a.put dst v):=by
 cases dst with
 |none=>exact h
 |some d =>
  simp only[Option.all_some,Ah] at hd;refine⟨by show (a.tmps.setIfInBounds d v).size=n;simp[h.size],h.defers,λi hi=>?_⟩;show VRel S (if i=d then x else env i) ((a.tmps.setIfInBounds d v).getD i undef);by_cases hid:i=d
  ·subst hid
   rw[Ae rfl];have:i<a.tmps.size:=by rw[h.size];exact hi
   simpa [this] using hv
  ·rw[Ad hid]
   have:=h.val i hi;simpa [Array.getElem?_setIfInBounds_ne (Du hid)] using this
section
variable {P:Program}{S:MS}{H:A4}{n:Nat}
theorem Tz{env:Env}{a:Act}(hF:FRel S n env a){x:Operand}{y:AArg}(h:IY n x=some y):VRel S (y.eval env) (a.eval x):=by
 cases x<;>simp only[IY] at h
 ·rename_i t
  split at h
  ·rename_i ht;cases h;exact hF.val t ht
  ·cases h
 ·rename_i v
  obtain⟨z,hz,rfl⟩:=Ag.1 h;exact HB hz
 ·cases h
 ·rename_i f;cases h;exact⟨[],rfl,rfl⟩
theorem KS{env:Env}{a:Act}(hF:FRel S n env a):∀{l:List Operand}{l':List AArg},l.mapM (IY n)=some l'->AB S (l'.map (·.eval env)) (l.map a.eval)
 |[],l',h=>by simp at h;subst h;rfl
 |x::l,l',h=>by
  rw[Cb] at h;simp only[Option.bind_eq_bind,BA,Option.pure_def,Aq] at h;obtain⟨y,hy,r,hr,rfl⟩:=h;exact⟨_,_,rfl,Tz hF hy,KS hF hr⟩
theorem Cp{ops:Array Oper}{o:Oper}{q:AOp}(h:CL P n ops o=some q):Dk P o.op=some q.k/\o.op.operands.toList.mapM (IY n)=some q.args/\q.dst=o.dst/\o.dst.all (·<n)=true /\
 ((o.guard=none/\q.guard=none)\/∃j want d,o.guard=some (j,want)/\q.guard=some (d,want)/\(ops[j]?).bind (·.dst)=some d/\d<n):=by
 unfold CL at h;split at h
 ·rename_i k args hk hargs
  split at h
  ·rename_i hd
   split at h
   ·rename_i hg;cases h;exact⟨hk,hargs,rfl,hd,.inl ⟨hg,rfl⟩⟩
   ·rename_i j want hg
    split at h
    ·rename_i d hj
     split at h
     ·rename_i hdn;cases h;exact⟨hk,hargs,rfl,hd,.inr ⟨j,want,d,hg,rfl,hj,hdn⟩⟩
     ·cases h
    ·cases h
  ·cases h
 ·cases h
theorem RD{env:Env}{a:Act}(hF:FRel S n env a){ops:Array Oper}{j d:Nat}(hj:(ops[j]?).bind (·.dst)=some d)(hd:d<n):
 (∀b,env d=.bool b->yielded ops a.tmps j=some b)/\(env d=.tup []->yielded ops a.tmps j=none):=by
 have hv:=hF.val d hd;have hlt:d<a.tmps.size:=by rw[hF.size];exact hd
 have e:a.tmps[d]? = some (a.tmps.getD d undef):=by simp[hlt]
 refine⟨λb hb=>?_,λhb=>?_⟩
 ·rw[hb] at hv
  simp only[yielded,hj,Option.bind_some,e,show a.tmps.getD d undef=.bool b from hv]
 ·rw[hb] at hv
  obtain⟨vs,hv,hvs⟩:=hv;simp only[yielded,hj,Option.bind_some,e,hv]
theorem Z9{env:Env}{d:Nat}{x:AV}(h:env d=x):env.put (some d) x=env:=by
 funext j;show (if j=d then x else env j)=_;split
 ·rename_i hj;rw[hj,h]
 ·rfl
theorem Px{ops:Array Oper}{o:Oper}{q:AOp}(h:CL P n ops o=some q){env:Env}{a:Act}(hF:FRel S n env a){f:Bool->Env->Prop}(hg:I2 env q.guard f):
 f (Region.wanted o (yielded ops a.tmps)) env:=by
 obtain⟨_,_,_,_,h5⟩:=Cp h;rcases h5 with⟨h1,h2⟩|⟨j,want,d,h1,h2,h3,h4⟩
 ·rw[h2] at hg
  have:Region.wanted o (yielded ops a.tmps)=true:=by simp[Region.wanted,h1]
  rw[this];exact hg
 ·rw[h2] at hg
  obtain⟨y1,y2⟩:=RD hF h3 h4;simp only[I2] at hg;cases hx:env d<;>rw[hx] at hg<;>try exact (show False from hg).elim
  ·rename_i b
   have hg:=Pw hg;have hy:=y1 b hx;have hw:Region.wanted o (yielded ops a.tmps)=(b == want):=by simp only[Region.wanted,h1,hy];cases b<;>cases want<;>rfl
   rw[hw];by_cases hb:b=want
   ·have:=hg.1 hb
    rw[Z9 (by rw[hx,hb])] at this;simpa [hb] using this
   ·have hb':b=!want:=by cases b<;>cases want<;>simp_all
    have:=hg.2 hb';rw[Z9 (by rw[hx,hb'])] at this;have e:(b == want)=false:=by simpa using hb
    rw[e];exact this
  ·rename_i vs
   cases vs with
   |nil =>
    have hw:Region.wanted o (yielded ops a.tmps)=false:=by simp[Region.wanted,h1,y2 hx]
    rw[hw];exact hg
   |cons _ _=>exact (show False from hg).elim
theorem Kl{S:MS}:VRel S (.tup []) undef:=⟨[],rfl,rfl⟩
theorem Py{f:FuncId}{args:Array Value}{w:World}{R:Ending->World->Prop}{r:Option Nat}{m:Nat}(h:Calls P f args w R):CallsIn (fen r) m P f args w R:=by
 have:=(callsIn_wide (n:=m)).2 h;exact this
theorem zed(hS:SRel S H){env:Env}{a:Act}(hF:FRel S n env a){o:Oper}{q:AOp}{ops:Array Oper}(h:CL P n ops o=some q){K:AV->A4->Prop}(hst:AI P q.k H (q.vals env) K)
 {N:Act->World->Prop} {Q:Exit->Act->World->Prop} (hN:∀S' H' x a',Evo S S'->SRel S' H'->FRel S' n (env.put q.dst x) a'->K x H'->N a' S'.w) (r:Option Nat) (m:Nat):o.wpIn (fen r) m P a S.w N Q:=by
 obtain⟨h1,h2,h3,h4,_⟩:=Cp h;have hargs:=KS hF h2;have h1':=JG h1 λe=>by rw[e] at hst;simp[AI] at hst
 have hsem:o.semAt (fen r).round a.eval=execOp a.eval o:=Oper.semAt_eq _ _ _ λc hc=>by rw[hc] at h1';cases h1'
 rcases RB hS o h1 (ρ:=a.eval) hargs hst with⟨v,S',x,H',hr,e,hS',hv,hK⟩|⟨f,cargs,hr,hc⟩
 ·have hN':=λv' (hv':VRel S' x v')=>hN S' H' x (a.put o.dst v') e hS' (by rw[h3];exact (hF.mono e).put h4 hv') hK
  refine⟨λ_ _=>trivial,?_⟩;rw[hsem];rcases hr with hr|⟨hr,rfl⟩<;>rw[hr]
  ·exact hN' v hv
  ·exact hN' undef hv
 ·refine⟨λ_ _=>trivial,?_⟩
  rw[hsem,hr,Oper.uponIn_enter];refine⟨λh=>(by cases h),Py (hc.mono λe w' hh=>?_)⟩;obtain⟨v,S',x,H',rfl,rfl,ev,hS',hv,hK⟩:=hh;exact hN S' H' x (a.put o.dst v) ev hS' (by rw[h3];exact (hF.mono ev).put h4 hv) hK
theorem Mx{ops:Array Oper}{Q:Exit->Act->World->Prop}:∀(l:List Oper)(l':List AOp)(k:Nat),(∀j,l[j]? = ops[k+j]?)->l.mapM (CL P n ops)=some l'->∀{S:MS}{H:A4}{env:Env}{a:Act}{K:Env->A4->Prop},
 SRel S H->FRel S n env a->runK P l' env H K->(∀S' H' env' a',Evo S S'->SRel S' H'->FRel S' n env' a'->K env' H'->Q .normal a' S'.w)->∀(rd:Option Nat)(m:Nat),wpOpsIn (fen rd) m P ops Q (List.range' k l.length) a S.w
 |[],l',k,_,hm,S,H,env,a,K,hS,hF,hr,hQ,rd,m=>by
  simp at hm;subst hm;exact hQ S H env a (.refl S) hS hF hr
 |o::l,l',k,hl,hm,S,H,env,a,K,hS,hF,hr,hQ,rd,m=>by
  rw[Cb] at hm;simp only[Option.bind_eq_bind,BA,Option.pure_def,Aq] at hm;obtain⟨q,hq,r,hrr,rfl⟩:=hm;have h0:ops[k]? = some o:=by simpa using (hl 0).symm
  have hl':∀j,l[j]? = ops[k+1+j]? := λj=>by have:=hl (j+1);simpa [Bu,BX 1 j] using this
  have hg:=Px hq hF hr;rw[show List.range' k (o::l).length=k::List.range' (k+1) l.length from rfl];simp only[wpOpsIn,h0];cases hw:Region.wanted o (yielded ops a.tmps)
  ·rw[hw] at hg
   simp only[A8,Bq] at hg ⊢;obtain⟨_,_,h3,h4,_⟩:=Cp hq;exact⟨λ_ _=>trivial,Mx l r (k+1) hl' hrr hS (by rw[h3];exact hF.put h4 Kl) hg hQ rd m⟩
  ·rw[hw] at hg
   simp only[Br] at hg ⊢;refine zed hS hF hq hg (λS' H' x a' e hS' hF' hK=>?_) rd m;exact Mx l r (k+1) hl' hrr hS' hF' hK (λS2 H2 env2 a2 e2 hS2 hF2 hK2=>hQ S2 H2 env2 a2 (e.trans e2) hS2 hF2 hK2) rd m
end
section
variable {P:Program}{H:A4}{n:Nat}{ops:Array Oper}{md:Region.Mode}{rd:Option Nat}{mm:Nat}
def QY(P:Program)(k:AK)(H:A4)(xs:List AV)(x:AV):Prop :=
 (∃f caps ys,k=.call/\xs=.fn f caps::ys/\B9 P f (ys++caps) H λy H'=>y=x/\H'=H) \/
 (∃w len z idx,k=.bslice w len z idx/\Ji w len idx xs/\0<w/\AJ (Gk idx xs (List.replicate len z))=true/\x=.full w (Gk idx xs (List.replicate len z))) \/
 (k.still=true/\AI P k H xs λy H'=>y=x/\H'=H)
theorem zee{op:BinOp}{k:IntKind}{a b:Int}{K:AV->Prop}(h:binI op k a b K):∃x,binI op k a b (λy=>y=x)/\K x:=by
 cases op<;>simp only[binI] at h ⊢
 case quo=>exact⟨_,⟨h.1,rfl⟩,h.2⟩
 case rem=>exact⟨_,⟨h.1,rfl⟩,h.2⟩
 all_goals exact⟨_,rfl,h⟩
theorem RE{w:Nat}{x:AV}{lo hi mx:Option Int}{K:AV->Prop}(h:HE w x lo hi mx H K):∃y,HE w x lo hi mx H (λz=>z=y)/\K y:=by
 cases mx with
 |some m =>
  simp only[HE] at h ⊢;obtain⟨h1,h2,h3,h4⟩:=h;cases x<;>simp only at h4<;>try exact h4.elim
  all_goals exact⟨_,⟨h1,h2,h3,rfl⟩,h4⟩
 |none =>
  cases x<;>simp only[HE] at h ⊢<;>try exact h.elim
  ·exact⟨_,⟨h.1,h.2.1,rfl⟩,h.2.2⟩
  ·exact⟨_,⟨h.1,h.2.1,rfl⟩,h.2.2⟩
  ·exact⟨_,⟨h.1,h.2.1,h.2.2.1,h.2.2.2.1,rfl⟩,h.2.2.2.2⟩
  ·exact⟨_,⟨h.1,h.2.1,h.2.2.1,h.2.2.2.1,rfl⟩,h.2.2.2.2⟩
  ·exact⟨_,⟨h.1,h.2.1,h.2.2.1,h.2.2.2.1,h.2.2.2.2.1,h.2.2.2.2.2.1,rfl⟩,h.2.2.2.2.2.2⟩
theorem peel{α:Type}{A:Prop}{F G:α->Prop}(a:A)(h:∃x,F x/\G x):∃x,(A/\F x)/\G x:=h.elim λx hx=>⟨x,⟨a,hx.1⟩,hx.2⟩
set_option maxHeartbeats 2000000 in
theorem Pz{k:AK}(hk:k.still=true){xs:List AV}{K:AV->Prop}(h:AI P k H xs λx _=>K x):∃x,AI P k H xs (λy H'=>y=x/\H'=H)/\K x:=by
 cases k with
 |mv =>
  match xs,h with
  |[],h=>simp[AI] at h
  |_::_::_,h=>simp[AI] at h
  |[x],h =>
   exact⟨_,Aa rfl rfl,h⟩
 |pick =>
  match xs,h with
  |[],h=>simp[AI] at h
  |[_],h=>simp[AI] at h
  |[_,_],h=>simp[AI] at h
  |_::_::_::_::_,h=>simp[AI] at h
  |[x,y,z],h =>
   cases x<;>simp only[AI] at h<;>try exact h.elim
   all_goals repeat (first|(exact⟨_,Aa rfl rfl,h⟩;done)|(refine peel h.1 ?_;replace h:=h.2))
 |build z pl idx =>
  obtain⟨y,hy,h⟩:=C1 h;refine⟨.agg y,?_,h⟩;show optK _ _;rw[hy];exact⟨rfl,rfl⟩
 |load a s =>
  match xs,h with
  |[],h=>simp[AI] at h
  |_::_::_,h=>simp[AI] at h
  |[x],h =>
   cases x<;>simp only[AI] at h<;>try exact h.elim
   all_goals repeat (first|(exact⟨_,Aa rfl rfl,h⟩;done)|(refine peel h.1 ?_;replace h:=h.2))
 |nilCheck =>
  match xs,h with
  |[],h=>simp[AI] at h
  |_::_::_,h=>simp[AI] at h
  |[x],h =>
   cases x<;>simp only[AI] at h<;>try exact h.elim
   all_goals repeat (first|(exact⟨_,Aa rfl rfl,h⟩;done)|(refine peel h.1 ?_;replace h:=h.2))
 |bin op =>
  match xs,h with
  |[],h=>simp[AI] at h
  |[_],h=>simp[AI] at h
  |_::_::_::_,h=>simp[AI] at h
  |[x,y],h =>
   cases x<;>cases y<;>simp only[AI] at h<;>try exact h.elim
   ·cases op
    case shl=>exact⟨_,Aa h.1 (Aa rfl rfl),h.2⟩
    case shr=>exact⟨_,Aa h.1 (Aa rfl rfl),h.2⟩
    all_goals
     obtain⟨z,h1,h2⟩:=zee h.2;refine⟨z,Aa h.1 ?_,h2⟩;simpa only[GV] using h1
   ·cases op<;>first|exact h.elim|exact⟨_,Aa rfl rfl,h⟩
 |eqb neg =>
  match xs,h with
  |[],h=>simp[AI] at h
  |[_],h=>simp[AI] at h
  |_::_::_::_,h=>simp[AI] at h
  |[x,y],h =>
   cases x<;>cases y<;>simp only[AI] at h<;>try exact h.elim
   all_goals repeat (first|(exact⟨_,Aa rfl rfl,h⟩;done)|(refine peel h.1 ?_;replace h:=h.2))
 |eqs neg ks =>
  match xs,h with
  |[],h=>simp[AI] at h
  |[_],h=>simp[AI] at h
  |_::_::_::_,h=>simp[AI] at h
  |[x,y],h =>
   cases x<;>cases y<;>simp only[AI] at h<;>try exact h.elim
   obtain⟨b,hb,h⟩:=C1 h;refine⟨.bool (if neg then !b else b),?_,h⟩;show optK _ _;rw[hb];exact⟨rfl,rfl⟩
 |eqn neg =>
  match xs,h with
  |[],h=>simp[AI] at h
  |[_],h=>simp[AI] at h
  |_::_::_::_,h=>simp[AI] at h
  |[x,y],h =>
   cases y<;>simp only[AI] at h<;>try exact h.elim
   cases x<;>simp only at h<;>try exact h.elim
   all_goals repeat (first|(exact⟨_,Aa rfl rfl,h⟩;done)|(refine peel h.1 ?_;replace h:=h.2))
 |un op =>
  match xs,h with
  |[],h=>simp[AI] at h
  |_::_::_,h=>simp[AI] at h
  |[x],h =>
   cases op<;>cases x<;>simp only[AI] at h<;>try exact h.elim
   all_goals repeat (first|(exact⟨_,Aa rfl rfl,h⟩;done)|(refine peel h.1 ?_;replace h:=h.2))
 |conv k =>
  match xs,h with
  |[],h=>simp[AI] at h
  |_::_::_,h=>simp[AI] at h
  |[x],h =>
   cases x<;>simp only[AI] at h<;>try exact h.elim
   all_goals repeat (first|(exact⟨_,Aa rfl rfl,h⟩;done)|(refine peel h.1 ?_;replace h:=h.2))
 |slice w lo hi mx =>
  match xs,h with
  |[],h=>simp[AI] at h
  |x::l,h =>
   obtain⟨p,hp,h⟩:=C1 (show optK _ _ from h);obtain⟨q,hq,h⟩:=C1 h;obtain⟨r,hr,hr2,h⟩:=C1 h;obtain⟨z,h1,h2⟩:=RE h;refine⟨z,?_,h2⟩;show optK (optA lo l) _;rw[hp];show optK (optA hi p.2) _;rw[hq];show optK (optA mx q.2) _;rw[hr];exact⟨hr2,by simpa only[GV] using h1⟩
 |faddr a off s =>
  match xs,h with
  |[],h=>simp[AI] at h
  |_::_::_,h=>simp[AI] at h
  |[x],h =>
   cases x<;>simp only[AI] at h<;>try exact h.elim
   all_goals repeat (first|(exact⟨_,Aa rfl rfl,h⟩;done)|(refine peel h.1 ?_;replace h:=h.2))
 |field a off s =>
  match xs,h with
  |[],h=>simp[AI] at h
  |_::_::_,h=>simp[AI] at h
  |[x],h =>
   cases x<;>simp only[AI] at h<;>try exact h.elim
   all_goals repeat (first|(exact⟨_,Aa rfl rfl,h⟩;done)|(refine peel h.1 ?_;replace h:=h.2))
 |iaddr w =>
  match xs,h with
  |[],h=>simp[AI] at h
  |[_],h=>simp[AI] at h
  |_::_::_::_,h=>simp[AI] at h
  |[x,y],h =>
   cases x<;>cases y<;>simp only[AI] at h<;>try exact h.elim
   all_goals repeat (first|(exact⟨_,Aa rfl rfl,h⟩;done)|(refine peel h.1 ?_;replace h:=h.2))
 |iaddrA n w a =>
  match xs,h with
  |[],h=>simp[AI] at h
  |[_],h=>simp[AI] at h
  |_::_::_::_,h=>simp[AI] at h
  |[x,y],h =>
   cases x<;>cases y<;>simp only[AI] at h<;>try exact h.elim
   all_goals repeat (first|(exact⟨_,Aa rfl rfl,h⟩;done)|(refine peel h.1 ?_;replace h:=h.2))
 |index n w a =>
  match xs,h with
  |[],h=>simp[AI] at h
  |[_],h=>simp[AI] at h
  |_::_::_::_,h=>simp[AI] at h
  |[x,y],h =>
   cases x<;>cases y<;>simp only[AI] at h<;>try exact h.elim
   all_goals repeat (first|(exact⟨_,Aa rfl rfl,h⟩;done)|(refine peel h.1 ?_;replace h:=h.2))
 |indexStr =>
  match xs,h with
  |[],h=>simp[AI] at h
  |[_],h=>simp[AI] at h
  |_::_::_::_,h=>simp[AI] at h
  |[x,y],h =>
   cases x<;>cases y<;>simp only[AI] at h<;>try exact h.elim
   all_goals repeat (first|(exact⟨_,Aa rfl rfl,h⟩;done)|(refine peel h.1 ?_;replace h:=h.2))
 |extract i =>
  match xs,h with
  |[],h=>simp[AI] at h
  |_::_::_,h=>simp[AI] at h
  |[x],h =>
   cases x<;>simp only[AI] at h<;>try exact h.elim
   all_goals repeat (first|(exact⟨_,Aa rfl rfl,h⟩;done)|(refine peel h.1 ?_;replace h:=h.2))
 |len str =>
  cases str
  ·match xs,h with
   |[],h=>simp[AI] at h
   |_::_::_,h=>simp[AI] at h
   |[x],h =>
    cases x<;>simp only[AI] at h<;>try exact h.elim
    all_goals exact⟨_,Aa rfl rfl,h⟩
  ·match xs,h with
   |[],h=>simp[AI] at h
   |_::_::_,h=>simp[AI] at h
   |[x],h =>
    cases x<;>simp only[AI] at h<;>try exact h.elim
    all_goals exact⟨_,Aa rfl rfl,h⟩
 |cap =>
  match xs,h with
  |[],h=>simp[AI] at h
  |_::_::_,h=>simp[AI] at h
  |[x],h =>
   cases x<;>simp only[AI] at h<;>try exact h.elim
   all_goals exact⟨_,Aa rfl rfl,h⟩
 |max =>
  match xs,h with
  |[],h=>simp[AI] at h
  |x::r,h =>
   cases x<;>simp only[AI] at h<;>try exact h.elim
   obtain⟨y,h1,h2⟩:=C1 h;exact⟨y,by show optK (maxF _ _ r) _;rw[h1];exact⟨rfl,rfl⟩,h2⟩
 |min =>
  match xs,h with
  |[],h=>simp[AI] at h
  |[_],h=>simp[AI] at h
  |_::_::_::_,h=>simp[AI] at h
  |[x,y],h =>
   cases x<;>cases y<;>simp only[AI] at h<;>try exact h.elim
   all_goals repeat (first|(exact⟨_,Aa rfl rfl,h⟩;done)|(refine peel h.1 ?_;replace h:=h.2))
 |mkFunc f =>
  exact⟨_,Aa rfl rfl,h⟩
 |mapGet z =>
  match xs,h with
  |[],h=>simp[AI] at h
  |[x],h=>cases x<;>simp[AI] at h
  |_::_::_::_,h=>simp[AI] at h
  |[x,y],h =>
   cases x<;>try (simp only[AI] at h;done)
   cases y<;>simp only[AI] at h<;>try exact h.elim
   obtain⟨h1,h2,h3,h4,h5⟩:=h;obtain⟨u,hu,h5⟩:=C1 h5;exact⟨u,⟨h1,h2,h3,h4,by rw[hu];exact⟨rfl,rfl⟩⟩,h5⟩
 |toStr =>
  match xs,h with
  |[],h=>simp[AI] at h
  |_::_::_,h=>simp[AI] at h
  |[x],h =>
   obtain⟨h1,h2,bs,h3,h4⟩:=h;exact⟨_,⟨h1,h2,bs,h3,rfl,rfl⟩,h4⟩
 |runStr =>
  match xs,h with
  |[],h=>simp[AI] at h
  |_::_::_,h=>simp[AI] at h
  |[x],h =>
   obtain⟨h1,h2,bs,h3,h4⟩:=h;exact⟨_,⟨h1,h2,bs,h3,rfl,rfl⟩,h4⟩
 |_=>simp[AK.still] at hk
theorem Ve{k:AK}{xs:List AV}{K:AV->Prop}(h:Vd P k H xs K):∃x,QY P k H xs x/\K x:=by
 unfold Vd at h;split at h
 ·obtain⟨x,h1,h2⟩:=h
  exact⟨x,.inl ⟨_,_,_,rfl,rfl,h1⟩,h2⟩
 ·exact⟨_,.inr (.inl ⟨_,_,_,_,rfl,h.1,h.2.1,h.2.2.1,rfl⟩),h.2.2.2⟩
 ·obtain⟨x,h1,h2⟩:=Pz h.1 h.2
  exact⟨x,.inr (.inr ⟨h.1,h1⟩),h2⟩
theorem Vf{op:Op}{w len:Nat}{z:AV}{idx:List Nat}(h:Dk P op=some (.bslice w len z idx)):
 ∃t ps e i zv,op=.buildSlice t len ps/\P.underlying t=some (.slice e)/\P.info? e=some i/\i.zero=some zv/\avOf zv=some z/\0<i.size/\zv.cells.size=i.size/\(∀c∈zv.cells,c.oneCell'=true)/\len * i.size<=2 ^ 24/\w=i.size/\idx=ps.toList.map (·.1):=by
 replace h:=JG h oc;cases op
 case buildSlice t len' ps =>
  simp only[Fx] at h;split at h
  ·rename_i e ht
   split at h
   ·rename_i i hi
    split at h
    ·rename_i zv hz
     split at h
     ·rename_i x hzx
      split at h
      ·rename_i hc
       cases h;simp only[Ac,Ah,Ck,B8] at hc;exact⟨t,ps,e,i,zv,rfl,ht,hi,hz,hzx,hc.1.1.1,hc.1.1.2,hc.1.2,hc.2,rfl,rfl⟩
      ·cases h
     ·cases h
    ·cases h
   ·cases h
  ·cases h
 case makeMap t r=>cases r<;>cases h
 case lookup t a b c =>
  cases c
  ·simp only[Fx] at h
   repeat' split at h
   all_goals first|(cases h;done)|(obtain⟨_,_,h⟩:=Ag.1 h;cases h;done)
  ·cases h
 all_goals
  exfalso;simp only[Fx,FS] at h
  repeat' split at h
 all_goals
  first
   |(cases h;done)
   |(obtain⟨⟨_,_⟩,_,h⟩:=Ag.1 h;cases h;done)
   |(obtain⟨_,_,h⟩:=Ag.1 h;cases h;done)
def MS.sealed_(S:MS)(o:Obj):MS:={ S with w:=S.w.alloc o,im:=λb=>S.im b\/b=S.w.heap.size }
theorem z7h{S:MS}(hS:SRel S H)(o:Obj):Evo S (S.sealed_ o)/\SRel (S.sealed_ o) H:=by
 have e:Evo S (S.sealed_ o):=by
  refine⟨rfl,rfl,⟨rfl,Ab _⟩,rfl,by show _<=(S.w.alloc o).heap.size;rw[size_alloc];omega,λb hb=>heap_alloc_lt _ _ _ (hS.im b hb),λb hb=>.inl hb,λb hb=>hb,λb hb=>?_,Ab _,λg hg=>Ab _,λg hg _=>⟨rfl,rfl,rfl⟩⟩;rcases hb with hb|hb
  ·exact .inl hb
  ·exact .inr λhk=>by have:=hS.im b (.inr hk);omega
 refine⟨e,hS.n,λg hg=>?_,hS.apart,λb hb=>?_⟩
 ·have hr:=hS.grp g hg
  refine hr.mono' e (by rw[hS.n];exact hg) rfl (λhh=>heap_alloc_lt _ _ _ (hr.has_lt hh)) (λhh=>?_);have h1:=hr.has_ni hh;have h2:=hr.has_lt hh;rintro ((hi|hi)|hk)
  ·exact h1 (.inl hi)
  ·omega
  ·exact h1 (.inr hk)
 ·show b<(S.w.alloc o).heap.size
  rw[size_alloc];rcases hb with (hb|hb)|hb
  ·have:=hS.im b (.inl hb);omega
  ·omega
  ·have:=hS.im b (.inr hb);omega
theorem ZA{S:MS}(hS:SRel S H){env:Env}{a:Act}(hF:FRel S n env a){o:Oper}{q:AOp}(h:CL P n ops o=some q){x:AV}(hq:QY P q.k H (q.vals env) x)
 {N:Act->World->Prop} {Q:Exit->Act->World->Prop} (hN:∀S' a',Evo S S'->SRel S' H->FRel S' n (env.put q.dst x) a'->N a' S'.w):o.wpIn (fen rd) mm P a S.w N Q:=by
 rcases hq with⟨f,caps,ys,hk,hxs,hc⟩|⟨w,len,z,idx,hk,hfit,hw,hp,rfl⟩|⟨_,hst⟩
 ·have hst:AI P q.k H (q.vals env) (λy H'=>y=x/\H'=H):=by rw[hk,hxs];exact hc
  refine zed hS hF h hst (λS' H' y a' e hS' hF' hK=>?_) rd mm;obtain⟨rfl,rfl⟩:=hK;exact hN S' a' e hS' hF'
 ·obtain⟨h1,h2,h3,h4,_⟩:=Cp h
  have hargs:=KS hF h2;rw[hk] at h1;obtain⟨t,ps,e,i,zv,hop,ht,hi,hz,hzx,h0,hzs,hz1,hmax,rfl,rfl⟩:=Vf h1
  have hx':AB S (q.vals env) (ps.toList.map λp=>a.eval p.2):=by
   have:AB S (q.vals env) (o.op.operands.toList.map a.eval):=hargs;rw[hop] at this;simpa [Op.operands,BP,Function.comp_def] using this
  obtain⟨cells,vs,run,g2,g3,g4,g5⟩:=R9 (P:=P) (S:=S) len ht hi hz hzx h0 hzs hz1 hmax ps.toList hx' hfit;obtain⟨ev,hS'⟩:=z7h hS (.cells cells e)
  have hrun:(execOp a.eval o).run P S.w=.ok (.value (.slice (some ⟨S.w.heap.size,0,none⟩) len len)) (S.w.alloc (.cells cells e)):=by
   rw[<-run];obtain⟨dst,op,type,pos,after,guard⟩:=o;change op=_ at hop;subst hop;rfl
  have hsem:o.semAt (fen rd).round a.eval=execOp a.eval o:=Oper.semAt_eq _ _ _ λc hc=>by rw[hop] at hc;cases hc
  refine⟨λ_ _=>trivial,?_⟩;rw[hsem,hrun];refine hN (S.sealed_ (.cells cells e)) (a.put o.dst (.slice (some ⟨S.w.heap.size,0,none⟩) len len)) ev hS' ?_;rw[h3];refine (hF.mono ev).put h4 ⟨hp,hw,_,vs,?_,?_,AB.mono ev _ g3,λ_=>⟨S.w.heap.size,0,rfl,.inr rfl,g5.row (heap_alloc_new _ _)⟩⟩
  ·rw[Ia];simp
  ·intro hn;cases hn
 ·refine zed hS hF h hst (λS' H' y a' e hS' hF' hK=>?_) rd mm
  obtain⟨rfl,rfl⟩:=hK;exact hN S' a' e hS' hF'
def Lets(q:AOp)(env:Env):Prop:=match q.guard with|none=>True|some (d,want)=>env d=.bool want
def Bars(q:AOp)(env:Env):Prop:=match q.guard with|none=>False|some (d,want)=>env d=.bool (!want)\/env d=.tup []
def Km(P:Program)(H:A4)(q:AOp)(x:AV)(env:Env):Prop:=(Lets q env/\QY P q.k H (q.vals env) x)\/(Bars q env/\x=.tup [])
theorem LJ{o:Oper}{q:AOp}(h:CL P n ops o=some q){S:MS}{env:Env}{a:Act}(hF:FRel S n env a):(Lets q env->Region.wanted o (yielded ops a.tmps)=true)/\(Bars q env->Region.wanted o (yielded ops a.tmps)=false):=by
 obtain⟨_,_,_,_,h5⟩:=Cp h;rcases h5 with⟨h1,h2⟩|⟨j,want,d,h1,h2,h3,h4⟩
 ·simp[Lets,Bars,h2,Region.wanted,h1]
 ·obtain⟨y1,y2⟩:=RD hF h3 h4
  simp only[Lets,Bars,h2,Region.wanted,h1];refine⟨λhh=>?_,λhh=>?_⟩
  ·rw[y1 _ hh];simp
  ·rcases hh with hh|hh
   ·rw[y1 _ hh];cases want<;>rfl
   ·rw[y2 hh];rfl
theorem Vg{S:MS}(hS:SRel S H){env:Env}{a:Act}(hF:FRel S n env a){i:Nat}{o:Oper}(ho:ops[i]? = some o){q:AOp}(h:CL P n ops o=some q){x:AV}(hy:Km P H q x env)
 {N:Act->World->Prop} {Q:Exit->Act->World->Prop} (hN:∀S' a',Evo S S'->SRel S' H->FRel S' n (env.put q.dst x) a'->N a' S'.w):wpOpIn (fen rd) mm P ops Q i N a S.w:=by
 obtain⟨hl,hb⟩:=LJ h hF;unfold wpOpIn;simp only[ho];rcases hy with⟨h1,h2⟩|⟨h1,rfl⟩
 ·rw[Ae (hl h1)]
  exact ZA hS hF h h2 hN
 ·rw[Ad (by rw[hb h1];simp)]
  obtain⟨_,_,h3,h4,_⟩:=Cp h;exact⟨λ_ _=>trivial,hN S _ (.refl S) hS (by rw[h3];exact hF.put h4 Kl)⟩
def anyA(P:Program)(md:Region.Mode)(ops:Array Oper)(l:List AOp)(H:A4)(Q:Env->Prop):Nat->Array Bool->Env->Prop
 |0,listed,env=>Region.ready md ops listed=[]/\Q env
 |fuel+1,listed,env=>(Region.ready md ops listed=[]->Q env)/\∀i∈Region.ready md ops listed,∃q x,l[i]? = some q/\Km P H q x env/\anyA P md ops l H Q fuel (listed.setIfInBounds i true) (env.put q.dst x)
theorem FT{l:List Oper}{l':List AOp}(h:l.mapM (CL P n ops)=some l'):∀{i:Nat}{o:Oper},l[i]? = some o->∃q,l'[i]? = some q/\CL P n ops o=some q:=by
 induction l generalizing l' with
 |nil=>intro i o ho;simp at ho
 |cons y l ih =>
  rw[Cb] at h;simp only[Option.bind_eq_bind,BA,Option.pure_def,Aq] at h;obtain⟨q,hq,r,hr,rfl⟩:=h;intro i o ho;cases i with
  |zero=>simp at ho;subst ho;exact⟨q,rfl,hq⟩
  |succ i=>simp at ho;simpa using ih hr ho
theorem Vh{l:List AOp}(hl:ops.toList.mapM (CL P n ops)=some l){Q:Env->Prop}{Q':Exit->Act->World->Prop}:∀(fuel:Nat)(listed:Array Bool)(env:Env)(S:MS)(a:Act),anyA P md ops l H Q fuel listed env->SRel S H->FRel S n env a ->
 (∀S' env' a',Evo S S'->SRel S' H->FRel S' n env' a'->Q env'->Q' .normal a' S'.w)->wpAnyIn (fen rd) mm P md ops Q' fuel listed a S.w
 |0,listed,env,S,a,h,hS,hF,hQ=>⟨h.1,hQ S env a (.refl S) hS hF h.2⟩
 |fuel+1,listed,env,S,a,h,hS,hF,hQ=>by
  refine⟨λh0=>hQ S env a (.refl S) hS hF (h.1 h0),λi hi=>?_⟩;obtain⟨q,x,hq,hy,hrest⟩:=h.2 i hi;obtain⟨_,o,ho,_⟩:=mem_ready.1 hi;obtain⟨q',hq',hc⟩:=FT hl (i:=i) (o:=o) (by simpa using ho);rw[hq] at hq';cases hq';exact Vg hS hF ho hc hy λS' a' e hS' hF'=>Vh hl fuel _ _ S' a' hrest hS' hF' λS2 env2 a2 e2 hS2 hF2 hQ2=>hQ S2 env2 a2 (e.trans e2) hS2 hF2 hQ2
theorem XF{x:Operand}{t:Nat}(h:IY n x=some (.slot t)):x=.tmp t:=by
 cases x<;>simp only[IY] at h
 ·split at h
  ·cases h;rfl
  ·cases h
 ·obtain⟨_,_,h⟩:=Ag.1 h;cases h
 ·cases h
 ·cases h
theorem My{d:Nat}:∀{l:List Operand}{l':List AArg},l.mapM (IY n)=some l'->AArg.slot d∈l'->Operand.tmp d∈l
 |[],l',h,hd=>by simp at h;subst h;simp at hd
 |x::l,l',h,hd=>by
  rw[Cb] at h;simp only[Option.bind_eq_bind,BA,Option.pure_def,Aq] at h;obtain⟨y,hy,r,hr,rfl⟩:=h;rcases Af.1 hd with rfl|hd
  ·rw[XF hy];simp
  ·exact List.mem_cons_of_mem _ (My hr hd)
theorem OR{o:Oper}{q:AOp}(h:CL P n ops o=some q){dst:Option Nat}(hd:∀d,dst=some d->d∉o.looksAt ops)(env:Env)(x:AV):
 q.vals (env.put dst x)=q.vals env/\(Lets q (env.put dst x)↔Lets q env)/\(Bars q (env.put dst x)↔Bars q env):=by
 cases dst with
 |none=>exact⟨rfl,Iff.rfl,Iff.rfl⟩
 |some d =>
  have hnd:=hd d rfl;obtain⟨_,h2,_,_,h5⟩:=Cp h;refine⟨?_,?_⟩
  ·unfold AOp.vals
   refine A6 λy hy=>?_;cases y with
   |const z=>rfl
   |slot t =>
    have ht:t≠d:=λe=>by
     subst e;have:=My h2 hy;exact hnd (DG _ (List.mem_filterMap.2 ⟨.tmp t,this,rfl⟩))
    show (if t=d then x else env t)=env t;rw[Ad ht]
  ·rcases h5 with⟨_,hg⟩|⟨j,want,d',hg,hg',hj,_⟩
   ·simp[Lets,Bars,hg]
   ·have hne:d'≠d:=λe=>by
     subst e;exact hnd (Ez _ (by simp[hg,hj]))
    have e:env.put (some d) x d'=env d':=by show (if d'=d then x else env d')=_;rw[Ad hne]
    simp[Lets,Bars,hg',e]
theorem put_comm(env:Env){x y:Option Nat}(u v:AV)(h:∀d,x=some d->y≠some d):(env.put x u).put y v=(env.put y v).put x u:=by
 cases x with
 |none=>rfl
 |some d =>
  cases y with
  |none=>rfl
  |some e =>
   have hne:e≠d:=λhe=>h d rfl (he ▸ rfl);funext j;show (if j=e then v else if j=d then u else env j)=(if j=d then u else if j=e then v else env j);by_cases h1:j=e
   ·subst h1;rw[Ae rfl,Ad hne,Ae rfl]
   ·rw[Ad h1,Ad h1]
theorem KT{o:Oper}{q:AOp}(h:CL P n ops o=some q){dst:Option Nat}(hd:∀d,dst=some d->d∉o.looksAt ops){env:Env}{x y:AV}:Km P H q y (env.put dst x)↔Km P H q y env:=by
 obtain⟨h1,h2,h3⟩:=OR h hd env x;unfold Km;rw[h1,h2,h3]
theorem RF{l:List AOp}(hl:ops.toList.mapM (CL P n ops)=some l){Q:Env->Prop}{i:Nat}{oi:Oper}{qi:AOp}{x:AV}(hi:ops[i]? = some oi)(hqi:l[i]? = some qi):∀(fuel:Nat)(listed:Array Bool)(env:Env),
 (∀j oj,ops[j]? = some oj->j≠i->listed.getD j true=false->(∀e∈oj.after,Region.binds md e=true->e.on≠i)->oi.apart ops oj=true) ->
 i∈Region.ready md ops listed->Km P H qi x env->anyA P md ops l H Q fuel (listed.setIfInBounds i true) (env.put qi.dst x)->anyA P md ops l H Q (fuel+1) listed env:=by
 have hci:CL P n ops oi=some qi:=by
  obtain⟨q,hq,hc⟩:=FT hl (i:=i) (o:=oi) (by simpa using hi);rw[hqi] at hq;cases hq;exact hc
 intro fuel
 induction fuel with
 |zero =>
  intro listed env _ hr hy H;refine⟨λh=>(by rw[h] at hr;cases hr),λj hj=>?_⟩;by_cases hji:j=i
  ·subst hji;exact⟨qi,x,hqi,hy,H⟩
  ·have:=ready_mono hj hji
   rw[H.1] at this;cases this
 |succ fuel ih =>
  intro listed env hfree hr hy H;refine⟨λh=>(by rw[h] at hr;cases hr),λj hj=>?_⟩;by_cases hji:j=i
  ·subst hji;exact⟨qi,x,hqi,hy,H⟩
  ·obtain⟨qj,xj,hqj,hyj,hrest⟩:=H.2 j (ready_mono hj hji)
   obtain⟨hjun,oj,hoj,hall⟩:=mem_ready.1 hj
   have hcj:CL P n ops oj=some qj:=by
    obtain⟨q,hq,hc⟩:=FT hl (i:=j) (o:=oj) (by simpa using hoj);rw[hqj] at hq;cases hq;exact hc
   have hnot:∀e∈oj.after,Region.binds md e=true->e.on≠i:=λe he hb heq=>by
    have h1:=hall e he hb;have h0:=(mem_ready.1 hr).1;rw[heq] at h1;rcases Aj i listed.size with h'|h'
    ·simp[h'] at h0 h1;rw[h0] at h1;cases h1
    ·simp[CF h'] at h1
   obtain⟨a1,a2,a3⟩:=Oper.apart_spec (hfree j oj hoj hji hjun hnot);have di:qi.dst=oi.dst:=(Cp hci).2.2.1;have dj:qj.dst=oj.dst:=(Cp hcj).2.2.1
   have hfree':∀k ok,ops[k]? = some ok->k≠i->(listed.setIfInBounds j true).getD k true=false ->
    (∀e∈ok.after,Region.binds md e=true->e.on≠i)->oi.apart ops ok=true:=λk ok hk hki hun hno=>by
    refine hfree k ok hk hki ?_ hno;by_cases hjk:j=k
    ·subst hjk;exact hjun
    ·rw[getD_set_ne true hjk] at hun;exact hun
   refine⟨qj,xj,hqj,(KT hcj (by rw[di];exact a1)).1 hyj,ih (listed.setIfInBounds j true) _ hfree' (ready_mono hr (Du hji)) ((KT hci (by rw[dj];exact a3)).2 hy) ?_⟩;rw[CP _ _ hji,put_comm env xj x (by rw[di,dj];intro d hd hh;exact a2 d hh hd)];exact hrest
theorem G0{q:AOp}{env:Env}{f:Bool->Env->Prop}(hg:I2 env q.guard f):(Lets q env/\f true env)\/(Bars q env/\f false env):=by
 unfold Lets Bars;cases hq:q.guard with
 |none=>rw[hq] at hg;exact .inl ⟨oy,hg⟩
 |some gw =>
  obtain⟨d,want⟩:=gw;rw[hq] at hg;simp only[I2] at hg;cases hx:env d<;>rw[hx] at hg<;>try exact (show False from hg).elim
  ·rename_i b
   have hg:=Pw hg;by_cases hb:b=want
   ·have:=hg.1 hb
    rw[Z9 (by rw[hx,hb])] at this;exact .inl ⟨by simp[hx,hb],this⟩
   ·have hb':b=!want:=by cases b<;>cases want<;>simp_all
    have:=hg.2 hb';rw[Z9 (by rw[hx,hb'])] at this;exact .inr ⟨.inl (by simp[hx,hb']),this⟩
  ·rename_i vs
   cases vs with
   |nil=>exact .inr ⟨.inr hx,hg⟩
   |cons _ _=>exact (show False from hg).elim
theorem ZB{L:List AOp}(hL:ops.toList.mapM (CL P n ops)=some L){Q:Env->Prop}:∀(l:List Oper)(l':List AOp)(k:Nat)(listed:Array Bool)(env:Env),(∀j,l[j]? = ops[k+j]?)->(∀j,l'[j]? = L[k+j]?)->l.length=l'.length ->
 Region.lexFrom md ops l.length k listed=true->runQ P H l' env Q->anyA P md ops L H Q l.length listed env
 |[],[],_,_,_,_,_,_,hB,h=>⟨by simpa [Region.lexFrom] using hB,h⟩
 |o::l,q::l',k,listed,env,hl,hl',hlen,hB,h=>by
  have h0:ops[k]? = some o:=by simpa using (hl 0).symm
  have h0':L[k]? = some q:=by simpa using (hl' 0).symm
  simp only[List.length_cons,Region.lexFrom,Ac] at hB;obtain⟨⟨hr,hf⟩,hB'⟩:=hB;simp only[runQ] at h;have ih:=λenv' (hh:runQ P H l' env' Q)=>ZB hL l l' (k+1) (listed.setIfInBounds k true) env' (λj=>by have:=hl (j+1);simpa [Bu,BX 1 j] using this) (λj=>by have:=hl' (j+1);simpa [Bu,BX 1 j] using this) (by simpa using hlen) hB' hh;rcases G0 h with⟨h1,h2⟩|⟨h1,h2⟩
  ·simp only[Br] at h2
   obtain⟨x,hx,hK⟩:=Ve h2;exact RF hL h0 h0' l.length listed env (Region.free_spec h0 hf) (by simpa using hr) (.inl ⟨h1,hx⟩) (ih _ hK)
  ·simp only[A8,Bq] at h2
   exact RF hL h0 h0' l.length listed env (Region.free_spec h0 hf) (by simpa using hr) (.inr ⟨h1,rfl⟩) (ih _ h2)
 |[],_::_,_,_,_,_,_,hlen,_,_=>by simp at hlen
 |_::_,[],_,_,_,_,_,hlen,_,_=>by simp at hlen
theorem mapM_length{α β:Type}{f:α->Option β}:∀{l:List α}{l':List β},l.mapM f=some l'->l.length=l'.length
 |[],l',h=>by simp at h;subst h;rfl
 |x::l,l',h=>by
  rw[Cb] at h;simp only[Option.bind_eq_bind,BA,Option.pure_def,Aq] at h;obtain⟨y,_,r,hr,rfl⟩:=h;simp[mapM_length hr]
theorem Vi{α β:Type}{f:α->Option β}:∀{l:List α}{l':List β},l.mapM f=some l'->∀m,(l.drop m).mapM f=some (l'.drop m)
 |[],l',h,m=>by simp at h;subst h;simp
 |x::l,l',h,0=>by simpa using h
 |x::l,l',h,m+1=>by
  rw[Cb] at h;simp only[Option.bind_eq_bind,BA,Option.pure_def,Aq] at h;obtain⟨y,_,r,hr,rfl⟩:=h;simpa using Vi hr m
theorem z3l{S:MS}{a:Act}{env:Env}{id:Nat}{l:List AOp}(hm:P.follows .mixedOrders=true)(hB:Region.lexB .any ops=true)(hl:ops.toList.mapM (CL P n ops)=some l)(hS:SRel S H)(hF:FRel S n env a){K:Env->Prop}(h:runQ P H l env K)
 {Q:Exit->Act->World->Prop} (hQ:∀S' env' a',Evo S S'->SRel S' H->FRel S' n env' a'->K env'->Q .normal a' S'.w):(Code.region id ops true).wpIn (fen rd) mm P Q a S.w:=by
 simp only[Region.lexB,Ac] at hB;have hlen:ops.toList.length=l.length:=mapM_length hl;have:=ZB (md:=.any) hl ops.toList l 0 (Array.replicate ops.size false) env oc oc hlen (by simpa using hB.2) h;have e:=Evo.drew S;exact wpIn_region_any hm (Vh hl ops.size _ env { S with w:=S.w.drew } a (by simpa using this) hS.drew (hF.mono e) λS' env' a' e' hS' hF' hK=>hQ S' env' a' (e.trans e') hS' hF' hK)
def anyL(P:Program)(md:Region.Mode)(ops:Array Oper)(l:List AOp)(H:A4)(m:Nat)(L:Array Bool->Env->Prop):Nat->Array Bool->Env->Prop
 |0,listed,env=>L listed env
 |f+1,listed,env=>Region.ready md ops listed≠[]/\∀i∈Region.ready md ops listed,i<m/\∃q x,l[i]? = some q/\Km P H q x env/\anyL P md ops l H m L f (listed.setIfInBounds i true) (env.put q.dst x)
theorem RG{l:List AOp}(hl:ops.toList.mapM (CL P n ops)=some l){m g:Nat}{L:Array Bool->Env->Prop}{Q':Exit->Act->World->Prop}:∀(f:Nat)(listed:Array Bool)(env:Env)(S:MS)(a:Act),anyL P md ops l H m L f listed env->SRel S H->FRel S n env a ->
 (∀listed S' env' a',Evo S S'->SRel S' H->FRel S' n env' a'->L listed env'->wpAnyIn (fen rd) mm P md ops Q' g listed a' S'.w)->wpAnyIn (fen rd) mm P md ops Q' (f+g) listed a S.w
 |0,listed,env,S,a,h,hS,hF,hQ=>by rw[AY];exact hQ listed S env a (.refl S) hS hF h
 |f+1,listed,env,S,a,h,hS,hF,hQ=>by
  rw[show f+1+g=(f+g)+1 by omega];refine⟨λh0=>absurd h0 h.1,λi hi=>?_⟩;obtain⟨_,q,x,hq,hy,hrest⟩:=h.2 i hi;obtain⟨_,o,ho,_⟩:=mem_ready.1 hi;obtain⟨q',hq',hc⟩:=FT hl (i:=i) (o:=o) (by simpa using ho);rw[hq] at hq';cases hq';exact Vg hS hF ho hc hy λS' a' e hS' hF'=>RG hl f _ _ S' a' hrest hS' hF' λlisted S2 env2 a2 e2 hS2 hF2 hQ2=>hQ listed S2 env2 a2 (e.trans e2) hS2 hF2 hQ2
theorem RH{l:List AOp}(hl:ops.toList.mapM (CL P n ops)=some l){m:Nat}{L:Array Bool->Env->Prop}{i:Nat}{oi:Oper}{qi:AOp}{x:AV}(hi:ops[i]? = some oi)(hqi:l[i]? = some qi)
 (hs:Region.sinkB md ops m=true) (hc:Region.chainB md ops m=true) (hn:m<ops.size) (hin:i<m) (hdone:∀listed env,L listed env->∀j∈Region.ready md ops listed,m<=j):∀(f:Nat)(listed:Array Bool)(env:Env),HeadInv md ops m listed ->
 (∀j oj,ops[j]? = some oj->j≠i->listed.getD j true=false->(∀e∈oj.after,Region.binds md e=true->e.on≠i)->oi.apart ops oj=true) ->
 i∈Region.ready md ops listed->Km P H qi x env->anyL P md ops l H m L f (listed.setIfInBounds i true) (env.put qi.dst x)->anyL P md ops l H m L (f+1) listed env:=by
 have hci:CL P n ops oi=some qi:=by
  obtain⟨q,hq,hc⟩:=FT hl (i:=i) (o:=oi) (by simpa using hi);rw[hqi] at hq;cases hq;exact hc
 intro f
 induction f with
 |zero =>
  intro listed env inv _ hr hy h;have hun:=(mem_ready.1 hr).1;refine⟨λh=>(by rw[h] at hr;cases hr),λj hj=>?_⟩
  have hjm:j<m:=by
   rcases Aj j m with h|h
   ·exact h
   ·exact absurd hj (tail_waits hs hc hn inv _ i rfl hin hun j h)
  refine⟨hjm,?_⟩;by_cases hji:j=i
  ·subst hji;exact⟨qi,x,hqi,hy,h⟩
  ·have:=hdone _ _ h j (ready_mono hj hji)
   omega
 |succ f ih =>
  intro listed env inv hfree hr hy h;have hun:=(mem_ready.1 hr).1;refine⟨λh=>(by rw[h] at hr;cases hr),λj hj=>?_⟩
  have hjm:j<m:=by
   rcases Aj j m with h|h
   ·exact h
   ·exact absurd hj (tail_waits hs hc hn inv _ i rfl hin hun j h)
  refine⟨hjm,?_⟩;by_cases hji:j=i
  ·subst hji;exact⟨qi,x,hqi,hy,h⟩
  ·obtain⟨_,qj,xj,hqj,hyj,hrest⟩:=h.2 j (ready_mono hj hji)
   obtain⟨hjun,oj,hoj,hall⟩:=mem_ready.1 hj
   have hcj:CL P n ops oj=some qj:=by
    obtain⟨q,hq,hc⟩:=FT hl (i:=j) (o:=oj) (by simpa using hoj);rw[hqj] at hq;cases hq;exact hc
   have hnot:∀e∈oj.after,Region.binds md e=true->e.on≠i:=λe he hb heq=>by
    have h1:=hall e he hb;rw[heq,getD_both hun] at h1;cases h1
   obtain⟨a1,a2,a3⟩:=Oper.apart_spec (hfree j oj hoj hji hjun hnot);have di:qi.dst=oi.dst:=(Cp hci).2.2.1;have dj:qj.dst=oj.dst:=(Cp hcj).2.2.1
   have hfree':∀k ok,ops[k]? = some ok->k≠i->(listed.setIfInBounds j true).getD k true=false ->
    (∀e∈ok.after,Region.binds md e=true->e.on≠i)->oi.apart ops ok=true:=λk ok hk hki hun hno=>by
    refine hfree k ok hk hki ?_ hno;by_cases hjk:j=k
    ·subst hjk;exact hjun
    ·rw[getD_set_ne true hjk] at hun;exact hun
   refine⟨qj,xj,hqj,(KT hcj (by rw[di];exact a1)).1 hyj,ih (listed.setIfInBounds j true) _ (inv.set hj hjm) hfree' (ready_mono hr (Du hji)) ((KT hci (by rw[dj];exact a3)).2 hy) ?_⟩;rw[CP _ _ hji,put_comm env xj x (by rw[di,dj];intro d hd hh;exact a2 d hh hd)];exact hrest
theorem ZC{L0:List AOp}(hL:ops.toList.mapM (CL P n ops)=some L0){m g:Nat}{Q:Env->Prop}(hs:Region.sinkB md ops m=true)(hc:Region.chainB md ops m=true)(hn:m<ops.size):
 ∀(l:List Oper)(l':List AOp)(k:Nat)(listed:Array Bool)(env:Env),(∀j,j<l.length->l[j]? = ops[k+j]?)->(∀j,j<l.length->l'[j]? = L0[k+j]?)->l.length=l'.length->k+l.length=m->HeadInv md ops m listed ->
 Region.lexHead md ops g l.length k listed=true->runQ P H l' env Q->anyL P md ops L0 H m (λlisted' env'=>Region.seqB md ops g m listed'=true/\Q env') l.length listed env
 |[],[],k,_,_,_,_,_,hk,_,hB,h=>by
  have:k=m:=by simpa using hk
  subst this;exact⟨by simpa [Region.lexHead] using hB,h⟩
 |o::l,q::l',k,listed,env,hl,hl',hlen,hk,inv,hB,h=>by
  have h0:ops[k]? = some o:=by simpa using (hl 0 oc).symm
  have h0':L0[k]? = some q:=by simpa using (hl' 0 oc).symm
  simp only[List.length_cons,Region.lexHead,Ac] at hB;obtain⟨⟨hr,hf⟩,hB'⟩:=hB;have hkm:k<m:=by simp only[List.length_cons] at hk;omega
  have hr':k∈Region.ready md ops listed:=by simpa using hr
  simp only[runQ] at h;have ih:=λenv' (hh:runQ P H l' env' Q)=>ZC hL hs hc hn l l' (k+1) (listed.setIfInBounds k true) env' (λj hj=>by have:=hl (j+1) (by simp;omega);simpa [Bu,BX 1 j] using this) (λj hj=>by have:=hl' (j+1) (by simp;omega);simpa [Bu,BX 1 j] using this) (by simpa using hlen) (by simp only[List.length_cons] at hk;omega) (inv.set hr' hkm) hB' hh;rcases G0 h with⟨h1,h2⟩|⟨h1,h2⟩
  ·simp only[Br] at h2
   obtain⟨x,hx,hK⟩:=Ve h2;exact RH hL h0 h0' hs hc hn hkm (λlisted' env' hh=>seqB_ready hh.1) l.length listed env inv (Region.free_spec h0 hf) hr' (.inl ⟨h1,hx⟩) (ih _ hK)
  ·simp only[A8,Bq] at h2
   exact RH hL h0 h0' hs hc hn hkm (λlisted' env' hh=>seqB_ready hh.1) l.length listed env inv (Region.free_spec h0 hf) hr' (.inr ⟨h1,rfl⟩) (ih _ h2)
 |[],_::_,_,_,_,_,_,hlen,_,_,_,_=>by simp at hlen
 |_::_,[],_,_,_,_,_,hlen,_,_,_,_=>by simp at hlen
theorem z7i{Q':Exit->Act->World->Prop}:∀(g k:Nat)(listed:Array Bool)(a:Act)(w:World),k+g=ops.size->Region.seqB md ops g k listed=true->wpOpsIn (fen rd) mm P ops Q' (List.range' k g) a w->wpAnyIn (fen rd) mm P md ops Q' g listed a w
 |0,_,_,_,_,_,hB,h=>⟨by simpa [Region.seqB] using hB,by simpa [wpOpsIn] using h⟩
 |g+1,k,listed,a,w,hk,hB,h=>by
  simp only[Region.seqB,Ac,Ah] at hB;refine⟨λh1=>(by rw[hB.1] at h1;cases h1),λi hi=>?_⟩;rw[hB.1] at hi;have hik:i=k:=by simpa using hi
  subst hik;have hlt:i<ops.size:=om
  have h0:ops[i]? = some ops[i]:=D7 hlt;rw[show List.range' i (g+1)=i::List.range' (i+1) g from rfl] at h
  have hw:wpOpIn (fen rd) mm P ops Q' i (wpOpsIn (fen rd) mm P ops Q' (List.range' (i+1) g)) a w:=by
   unfold wpOpIn;simp only[wpOpsIn,h0] at h ⊢;exact h
  exact wpOpIn_mono (λa' w' h'=>z7i g (i+1) _ a' w' om hB.2 h') hw
theorem z7j{S:MS}{a:Act}{env:Env}{id m:Nat}{l:List AOp}(hm:P.follows .mixedOrders=true)(hB:Region.lexTailB .any ops m=true)(hl:ops.toList.mapM (CL P n ops)=some l)(hS:SRel S H)(hF:FRel S n env a){K:Env->A4->Prop}
 (h:runQ P H (l.take m) env λenv'=>runK P (l.drop m) env' H K)
 {Q:Exit->Act->World->Prop} (hQ:∀S' H' env' a',Evo S S'->SRel S' H'->FRel S' n env' a'->K env' H'->Q .normal a' S'.w):(Code.region id ops true).wpIn (fen rd) mm P Q a S.w:=by
 simp only[Region.lexTailB,Ac,Ah] at hB;obtain⟨⟨⟨⟨hsel,hn⟩,hs⟩,hc⟩,hlex⟩:=hB;have hlen:ops.toList.length=l.length:=mapM_length hl;have hn':m<ops.toList.length:=by simpa using hn
 have htl:(ops.toList.take m).length=m:=by simp;omega
 have inv0:HeadInv .any ops m (Array.replicate ops.size false) :=
  ⟨oc,λj oj _ hl=>(by rw[getD_replicate_false] at hl;cases hl),λt _ ht=>getD_in (by simpa using ht) (getD_replicate_false _ _)⟩
 have e:=Evo.drew S
 have hA:=ZC (md:=.any) (g:=ops.size-m) hl hs hc hn (ops.toList.take m) (l.take m) 0 _ env (λj hj=>by
  rw[htl] at hj
  simp[hj]) (λj hj=>by
  rw[htl] at hj
  simp[hj]) (by rw[Bb,Bb,hlen]) (by simpa using htl) inv0 (by rw[htl];exact hlex) h
 rw[htl] at hA;refine wpIn_region_any hm ?_;have hsz:ops.size=m+(ops.size-m):=om
 have:=RG (rd:=rd) (mm:=mm) (Q':=Q) (g:=ops.size-m) hl m _ env { S with w:=S.w.drew } a hA hS.drew (hF.mono e) λlisted S' env' a' e' hS' hF' hh=>by
  obtain⟨hseq,hK⟩:=hh;have hdl:(ops.toList.drop m).length=ops.size-m:=oc
  refine z7i _ _ _ _ _ om hseq ?_;have hmd:(ops.toList.drop m).mapM (CL P n ops)=some (l.drop m):=Vi hl m;have:=Mx (Q:=Q) (ops.toList.drop m) (l.drop m) m (λj=>by simp) hmd hS' hF' hK (λS2 H2 env2 a2 e2 hS2 hF2 hK2=>hQ S2 H2 env2 a2 ((e.trans e').trans e2) hS2 hF2 hK2) rd mm
  rwa [hdl] at this
 rw[<-hsz] at this;exact this
end
def hl(l:List Grp):A4:=⟨l.length,λg=>l.getD g default⟩
theorem ahp{n m:Nat}{f g:Nat->Grp}(h:n=m)(k:∀j,f j=g j):(⟨n,f⟩:A4)=⟨m,g⟩:=by
 subst h;rw[show f=g from funext k]
theorem Gl(l:List Grp)(G:Grp):(hl l).push G=hl (l++[G]):=by
 refine ahp (by simp[hl]) λj=>?_;show (if j=l.length then G else l.getD j default)=(l++[G]).getD j default;by_cases h:j=l.length
 ·rw[Ae h,h];simp
 ·rw[Ad h]
  by_cases hj:j<l.length
  ·simp[List.getD,A9 hj]
  ·simp[List.getD,BE (show l.length<=j by omega),BE (show (l++[G]).length<=j by simp;omega)]
theorem IJ(l:List Grp)(g:Nat)(G:Grp)(h:g<l.length):(hl l).set g G=hl (l.set g G):=by
 refine ahp (by simp[hl]) λj=>?_;show (if j=g then G else l.getD j default)=(l.set g G).getD j default;by_cases hj:j=g
 ·rw[Ae hj,hj];simp[h]
 ·rw[Ad hj];simp[List.getD,CW (Du hj)]
structure Alike(H H':A4)(g:Nat):Prop where
 ver:(H'.at_ g).ver=(H.at_ g).ver
 w:(H'.at_ g).w=(H.at_ g).w
 exact:(H'.at_ g).exact=(H.at_ g).exact
 len:(H'.at_ g).xs.length=(H.at_ g).xs.length
theorem Alike.of_eq{H H':A4}{g:Nat}(h:H'.at_ g=H.at_ g):Alike H H' g:=by constructor<;>rw[h]
def BW(p:Nat->Prop):List AV->Prop
 |[]=>True
 |.ref g _ _ _::r=>p g/\BW p r
 |.ptr g _ _ _::r=>p g/\BW p r
 |.map g _::r=>p g/\BW p r
 |_::r=>BW p r
theorem CI{p q:Nat->Prop}(h:∀g,p g->q g):∀{xs:List AV},BW p xs->BW q xs
 |[],_=>trivial
 |x::r,hx=>by
  cases x<;>simp only[BW] at hx ⊢<;>first|exact CI h hx|exact⟨h _ hx.1,CI h hx.2⟩
section
variable {P:Program}{H H':A4}
theorem Vj{w:Nat}{x:AV}{lo hi mx:Option Int}{K:AV->Prop}(h:BW (Alike H H') [x])(hs:HE w x lo hi mx H K):HE w x lo hi mx H' K:=by
 cases mx with
 |some m=>simpa only[HE] using hs
 |none =>
  cases x<;>simp only[HE] at hs ⊢<;>try exact hs
  obtain⟨⟨h1,h2,h3,h4⟩,_⟩:=h;rw[h1,h2,h3,h4];exact hs
set_option maxHeartbeats 4000000 in
theorem LK{k:AK}(hk:k.still=true)(hr:k.reads=false){xs:List AV}{x:AV}(hg:BW (Alike H H') xs)(h:AI P k H xs λy _=>y=x):AI P k H' xs λy _=>y=x:=by
 cases k<;>simp only[AK.still,AK.reads,reduceCtorEq] at hk hr
 case cap=>rcases xs with _|⟨a,_|⟨b,r⟩⟩<;>first|exact h|(cases a<;>exact h)
 case mv=>rcases xs with _|⟨a,_|⟨b,r⟩⟩<;>exact h
 case pick=>rcases xs with _|⟨a,_|⟨b,_|⟨c,_|⟨d,r⟩⟩⟩⟩<;>first|exact h|(cases a<;>exact h)
 case build=>exact h
 case nilCheck=>rcases xs with _|⟨a,_|⟨b,r⟩⟩<;>first|exact h|(cases a<;>exact h)
 case bin=>rcases xs with _|⟨a,_|⟨b,_|⟨c,r⟩⟩⟩<;>first|exact h|(cases a<;>exact h)|(cases a<;>cases b<;>exact h)
 case eqb=>rcases xs with _|⟨a,_|⟨b,_|⟨c,r⟩⟩⟩<;>first|exact h|(cases a<;>exact h)|(cases a<;>cases b<;>exact h)
 case eqs=>rcases xs with _|⟨a,_|⟨b,_|⟨c,r⟩⟩⟩<;>first|exact h|(cases a<;>exact h)|(cases a<;>cases b<;>exact h)
 case eqn=>rcases xs with _|⟨a,_|⟨b,_|⟨c,r⟩⟩⟩<;>first|exact h|(cases a<;>exact h)|(cases b<;>first|exact h|(cases a<;>exact h))
 case un=>rcases xs with _|⟨a,_|⟨b,r⟩⟩<;>exact h
 case conv=>rcases xs with _|⟨a,_|⟨b,r⟩⟩<;>first|exact h|(cases a<;>exact h)
 case slice =>
  rcases xs with _|⟨a,r⟩
  ·exact h
  ·have ha:BW (Alike H H') [a]:=by
    cases a<;>simp only[BW] at hg ⊢<;>exact⟨hg.1,oy⟩
   obtain⟨p,hp,h⟩:=C1 h;obtain⟨q,hq,h⟩:=C1 h;obtain⟨s,hs,h1,h2⟩:=C1 h;simp only[AI,hp,optK,hq,hs];exact⟨h1,Vj ha h2⟩
 case faddr =>
  rcases xs with _|⟨a,_|⟨b,r⟩⟩<;>try exact h
  ·cases a<;>try exact h
   obtain⟨⟨h1,h2,h3,h4⟩,_⟩:=hg;simp only[AI] at h ⊢;rw[h1];exact h
  ·cases a<;>exact h
 case field=>rcases xs with _|⟨a,_|⟨b,r⟩⟩<;>first|exact h|(cases a<;>exact h)
 case iaddr =>
  rcases xs with _|⟨a,_|⟨b,_|⟨c,r⟩⟩⟩<;>try exact h
  ·cases a<;>exact h
  ·cases a<;>cases b<;>try exact h
   obtain⟨⟨h1,h2,h3,h4⟩,_⟩:=hg;simp only[AI] at h ⊢;rw[h1,h2];exact h
  ·cases a<;>cases b<;>exact h
 case iaddrA =>
  rcases xs with _|⟨a,_|⟨b,_|⟨c,r⟩⟩⟩<;>try exact h
  ·cases a<;>exact h
  ·cases a<;>cases b<;>try exact h
   obtain⟨⟨h1,h2,h3,h4⟩,_⟩:=hg;simp only[AI] at h ⊢;rw[h1];exact h
  ·cases a<;>cases b<;>exact h
 case index=>rcases xs with _|⟨a,_|⟨b,_|⟨c,r⟩⟩⟩<;>first|exact h|(cases a<;>exact h)|(cases a<;>cases b<;>exact h)
 case indexStr=>rcases xs with _|⟨a,_|⟨b,_|⟨c,r⟩⟩⟩<;>first|exact h|(cases a<;>exact h)|(cases a<;>cases b<;>exact h)
 case extract=>rcases xs with _|⟨a,_|⟨b,r⟩⟩<;>first|exact h|(cases a<;>exact h)
 case len s=>cases s<;>rcases xs with _|⟨a,_|⟨b,r⟩⟩<;>first|exact h|(cases a<;>exact h)
 case max=>rcases xs with _|⟨a,r⟩<;>first|exact h|(cases a<;>exact h)
 case min=>rcases xs with _|⟨a,_|⟨b,_|⟨c,r⟩⟩⟩<;>first|exact h|(cases a<;>exact h)|(cases a<;>cases b<;>exact h)
 case mkFunc=>exact h
set_option maxHeartbeats 4000000 in
theorem No{k:AK}(hk:k.still=true){xs:List AV}{x:AV}(hg:BW (λg=>H'.at_ g=H.at_ g) xs)(h:AI P k H xs λy _=>y=x):AI P k H' xs λy _=>y=x:=by
 cases hr:k.reads
 ·exact LK hk hr (CI (λg e=>Alike.of_eq e) hg) h
 ·cases k<;>simp only[AK.reads,reduceCtorEq] at hr
  case load =>
   rcases xs with _|⟨a,_|⟨b,r⟩⟩<;>try exact h
   ·cases a<;>try exact h
    simp only[AI] at h ⊢;rw[hg.1];exact h
   ·cases a<;>exact h
  case toStr =>
   rcases xs with _|⟨a,_|⟨b,r⟩⟩<;>try exact h
   cases a<;>try exact h
   ·simp only[AI,Hw,Hv] at h ⊢
    rw[hg.1];exact h
  case runStr =>
   rcases xs with _|⟨a,_|⟨b,r⟩⟩<;>try exact h
   cases a<;>try exact h
   ·simp only[AI,Hw,Hv] at h ⊢
    rw[hg.1];exact h
  case mapGet =>
   rcases xs with _|⟨a,_|⟨b,_|⟨c,r⟩⟩⟩<;>try exact h
   ·cases a<;>exact h
   ·cases a<;>cases b<;>try exact h
    simp only[AI] at h ⊢;rw[hg.1];exact h
   ·cases a<;>cases b<;>exact h
theorem XG{w:Nat}{x:AV}{lo hi mx:Option Int}{K K':AV->Prop}(hk:∀x,K x->K' x)(h:HE w x lo hi mx H K):HE w x lo hi mx H K':=by
 obtain⟨y,h1,h2⟩:=RE h;cases mx with
 |some m =>
  simp only[HE] at h ⊢;obtain⟨a1,a2,a3,a4⟩:=h;refine⟨a1,a2,a3,?_⟩;cases x<;>first|exact a4|exact hk _ a4
 |none =>
  cases x<;>simp only[HE] at h ⊢<;>try exact h
  ·exact⟨h.1,h.2.1,hk _ h.2.2⟩
  ·exact⟨h.1,h.2.1,hk _ h.2.2⟩
  ·exact⟨h.1,h.2.1,h.2.2.1,h.2.2.2.1,hk _ h.2.2.2.2⟩
  ·exact⟨h.1,h.2.1,h.2.2.1,h.2.2.2.1,hk _ h.2.2.2.2⟩
  ·exact⟨h.1,h.2.1,h.2.2.1,h.2.2.2.1,h.2.2.2.2.1,h.2.2.2.2.2.1,hk _ h.2.2.2.2.2.2⟩
set_option maxHeartbeats 4000000 in
theorem still_mono{k:AK}(hs:k.still=true){xs:List AV}{K K':AV->A4->Prop}(hk:∀x H',K x H'->K' x H')(h:AI P k H xs K):AI P k H xs K':=by
 cases k<;>simp only[AK.still,reduceCtorEq] at hs
 case bin op =>
  have hb:∀{k:IntKind}{a b:Int}{L L':AV->Prop},(∀x,L x->L' x)->binI op k a b L->binI op k a b L':=λ{k a b L L'} hl hh=>by
   cases op<;>simp only[binI] at hh ⊢<;>first|exact hl _ hh|exact⟨hh.1,hl _ hh.2⟩
  rcases xs with _|⟨a,_|⟨b,_|⟨c,r⟩⟩⟩
  ·exact h
  ·cases a<;>exact h
  ·cases a<;>cases b<;>try exact h
   ·cases op<;>simp only[AI] at h ⊢<;>first|exact⟨h.1,hk _ _ h.2⟩|exact⟨h.1,hb (λx hh=>hk x H hh) h.2⟩
   ·cases op<;>simp only[AI] at h ⊢<;>first|exact h|exact hk _ _ h
  ·cases a<;>cases b<;>exact h
 case cap=>rcases xs with _|⟨a,_|⟨b,r⟩⟩<;>first|exact h|(cases a<;>first|exact h|exact hk _ _ h)
 case mapGet z =>
  rcases xs with _|⟨a,_|⟨b,_|⟨c,r⟩⟩⟩
  ·exact h
  ·cases a<;>exact h
  ·cases a<;>cases b<;>try exact h
   obtain⟨h1,h2,h3,h4,h5⟩:=h;obtain⟨u,hu,h5⟩:=C1 h5;exact⟨h1,h2,h3,h4,by rw[hu];exact hk _ _ h5⟩
  ·cases a<;>cases b<;>exact h
 case slice =>
  rcases xs with _|⟨a,r⟩
  ·exact h
  ·obtain⟨p,hp,h⟩:=C1 h
   obtain⟨q,hq,h⟩:=C1 h;obtain⟨s,hs,h1,h2⟩:=C1 h;simp only[AI,hp,optK,hq,hs];exact⟨h1,XG (λx hh=>hk x H hh) h2⟩
 case build =>
  obtain⟨y,hy,h⟩:=C1 h;simp only[AI,hy,optK];exact hk _ _ h
 case eqs =>
  rcases xs with _|⟨a,_|⟨b,_|⟨c,r⟩⟩⟩
  ·exact h
  ·cases a<;>exact h
  ·cases a<;>cases b<;>try exact h
   obtain⟨y,hy,h⟩:=C1 h;simp only[AI,hy,optK];exact hk _ _ h
  ·cases a<;>cases b<;>exact h
 case toStr =>
  rcases xs with _|⟨a,_|⟨b,r⟩⟩
  ·exact h
  ·obtain⟨h1,h2,bs,h3,h4⟩:=h
   exact⟨h1,h2,bs,h3,hk _ _ h4⟩
  ·exact h
 case runStr =>
  rcases xs with _|⟨a,_|⟨b,r⟩⟩
  ·exact h
  ·obtain⟨h1,h2,bs,h3,h4⟩:=h
   exact⟨h1,h2,bs,h3,hk _ _ h4⟩
  ·exact h
 case un op =>
  rcases xs with _|⟨a,_|⟨b,r⟩⟩
  ·exact h
  ·cases op<;>cases a<;>simp only[AI] at h ⊢<;>first|exact h|exact hk _ _ h
  ·exact h
 case len s=>cases s<;>rcases xs with _|⟨a,_|⟨b,r⟩⟩<;>(try (cases a))<;>simp only[AI] at h ⊢<;>(repeat (first|exact h|exact hk _ _ h|(refine⟨h.1,?_⟩;replace h:=h.2)))
 case mv=>rcases xs with _|⟨a,_|⟨b,r⟩⟩<;>first|exact h|exact hk _ _ h
 case mkFunc=>exact hk _ _ h
 case pick=>rcases xs with _|⟨a,_|⟨b,_|⟨c,_|⟨d,r⟩⟩⟩⟩<;>(first|exact h|(cases a<;>first|exact h|exact hk _ _ h))
 case nilCheck=>rcases xs with _|⟨a,_|⟨b,r⟩⟩<;>(first|exact h|(cases a<;>first|exact h|(simp only[AI] at h ⊢;(repeat (first|exact h|exact hk _ _ h|(refine⟨h.1,?_⟩;replace h:=h.2))))))
 case conv=>rcases xs with _|⟨a,_|⟨b,r⟩⟩<;>(first|exact h|(cases a<;>first|exact h|(simp only[AI] at h ⊢;(repeat (first|exact h|exact hk _ _ h|(refine⟨h.1,?_⟩;replace h:=h.2))))))
 case load=>rcases xs with _|⟨a,_|⟨b,r⟩⟩<;>(first|exact h|(cases a<;>first|exact h|(simp only[AI] at h ⊢;(repeat (first|exact h|exact hk _ _ h|(refine⟨h.1,?_⟩;replace h:=h.2))))))
 case faddr=>rcases xs with _|⟨a,_|⟨b,r⟩⟩<;>(first|exact h|(cases a<;>first|exact h|(simp only[AI] at h ⊢;(repeat (first|exact h|exact hk _ _ h|(refine⟨h.1,?_⟩;replace h:=h.2))))))
 case field=>rcases xs with _|⟨a,_|⟨b,r⟩⟩<;>(first|exact h|(cases a<;>first|exact h|(simp only[AI] at h ⊢;(repeat (first|exact h|exact hk _ _ h|(refine⟨h.1,?_⟩;replace h:=h.2))))))
 case extract=>rcases xs with _|⟨a,_|⟨b,r⟩⟩<;>(first|exact h|(cases a<;>first|exact h|(simp only[AI] at h ⊢;(repeat (first|exact h|exact hk _ _ h|(refine⟨h.1,?_⟩;replace h:=h.2))))))
 case eqb=>rcases xs with _|⟨a,_|⟨b,_|⟨c,r⟩⟩⟩<;>(first|exact h|(cases a<;>first|exact h|(cases b<;>first|exact h|(simp only[AI] at h ⊢;(repeat (first|exact h|exact hk _ _ h|(refine⟨h.1,?_⟩;replace h:=h.2)))))))
 case iaddr=>rcases xs with _|⟨a,_|⟨b,_|⟨c,r⟩⟩⟩<;>(first|exact h|(cases a<;>first|exact h|(cases b<;>first|exact h|(simp only[AI] at h ⊢;(repeat (first|exact h|exact hk _ _ h|(refine⟨h.1,?_⟩;replace h:=h.2)))))))
 case iaddrA=>rcases xs with _|⟨a,_|⟨b,_|⟨c,r⟩⟩⟩<;>(first|exact h|(cases a<;>first|exact h|(cases b<;>first|exact h|(simp only[AI] at h ⊢;(repeat (first|exact h|exact hk _ _ h|(refine⟨h.1,?_⟩;replace h:=h.2)))))))
 case index=>rcases xs with _|⟨a,_|⟨b,_|⟨c,r⟩⟩⟩<;>(first|exact h|(cases a<;>first|exact h|(cases b<;>first|exact h|(simp only[AI] at h ⊢;(repeat (first|exact h|exact hk _ _ h|(refine⟨h.1,?_⟩;replace h:=h.2)))))))
 case indexStr=>rcases xs with _|⟨a,_|⟨b,_|⟨c,r⟩⟩⟩<;>(first|exact h|(cases a<;>first|exact h|(cases b<;>first|exact h|(simp only[AI] at h ⊢;(repeat (first|exact h|exact hk _ _ h|(refine⟨h.1,?_⟩;replace h:=h.2)))))))
 case max =>
  rcases xs with _|⟨a,r⟩
  ·exact h
  ·cases a<;>try exact h
   obtain⟨y,h1,h2⟩:=C1 h;simp only[AI];rw[h1];exact hk _ _ h2
 case min=>rcases xs with _|⟨a,_|⟨b,_|⟨c,r⟩⟩⟩<;>(first|exact h|(cases a<;>first|exact h|(cases b<;>first|exact h|(simp only[AI] at h ⊢;(repeat (first|exact h|exact hk _ _ h|(refine⟨h.1,?_⟩;replace h:=h.2)))))))
 case eqn=>rcases xs with _|⟨a,_|⟨b,_|⟨c,r⟩⟩⟩<;>(first|exact h|(cases a<;>exact h)|(cases b<;>first|exact h|(cases a<;>first|exact h|(simp only[AI] at h ⊢;(repeat (first|exact h|exact hk _ _ h|(refine⟨h.1,?_⟩;replace h:=h.2)))))))
def QG(P:Program)(k:AK)(l:List Grp)(xs:List AV)(x:AV):Prop :=
 (∃f caps ys,k=.call/\xs=.fn f caps::ys/\∀H,B9 P f (ys++caps) H λy H'=>y=x/\H'=H) \/
 (∃w len z idx,k=.bslice w len z idx/\Ji w len idx xs/\0<w/\AJ (Gk idx xs (List.replicate len z))=true/\x=.full w (Gk idx xs (List.replicate len z))) \/
 (k.still=true/\BW (·<l.length) xs/\AI P k (hl l) xs λy _=>y=x)
theorem QG.qy{k:AK}{l:List Grp}{xs:List AV}{x:AV}(h:QG P k l xs x):QY P k (hl l) xs x:=by
 rcases h with⟨f,caps,ys,h1,h2,h3⟩|h|⟨h1,_,h3⟩
 ·exact .inl ⟨f,caps,ys,h1,h2,h3 _⟩
 ·exact .inr (.inl h)
 ·obtain⟨x',h4,rfl⟩:=Pz h1 h3
  exact .inr (.inr ⟨h1,h4⟩)
inductive Turn(l:List Grp):List Grp->Prop where
 |push (G:Grp):Turn l (l++[G])
 |store (g:Nat) (G:Grp) (h:g<l.length) (a:G.ver=(l.getD g default).ver) (b:G.w=(l.getD g default).w) (c:G.exact=(l.getD g default).exact) (d:G.xs.length=(l.getD g default).xs.length):Turn l (l.set g G)
theorem Da(l:List Grp)(g:Nat):(hl l).at_ g=l.getD g default:=(rfl)
theorem QG.push{k:AK}{l:List Grp}{xs:List AV}{x:AV}(G:Grp)(h:QG P k l xs x):QG P k (l++[G]) xs x:=by
 rcases h with h|h|⟨h1,h2,h3⟩
 ·exact .inl h
 ·exact .inr (.inl h)
 ·refine .inr (.inr ⟨h1,CI (λg hg=>by rw[Ai];omega) h2,No h1 (CI (λg hg=>?_) h2) h3⟩)
  rw[Da,Da];simp[List.getD,A9 hg]
theorem QG.stored{k:AK}(hr:k.reads=false){l:List Grp}{xs:List AV}{x:AV}{g:Nat}{G:Grp}(hg:g<l.length)(a:G.ver=(l.getD g default).ver)(b:G.w=(l.getD g default).w)(c:G.exact=(l.getD g default).exact)(d:G.xs.length=(l.getD g default).xs.length)
 (h:QG P k l xs x):QG P k (l.set g G) xs x:=by
 rcases h with h|h|⟨h1,h2,h3⟩
 ·exact .inl h
 ·exact .inr (.inl h)
 ·refine .inr (.inr ⟨h1,by rw[C3];exact h2,LK h1 hr (CI (λj hj=>?_) h2) h3⟩)
  by_cases hjg:j=g
  ·subst hjg
   constructor<;>rw[Da,Da]<;>simp[List.getD,hg] at a b c d ⊢<;>assumption
  ·refine Alike.of_eq ?_
   rw[Da,Da];simp[List.getD,CW (Du hjg)]
set_option maxHeartbeats 4000000 in
theorem QG.blind{k:AK}(hb:k.blind=true){l l':List Grp}(hlen:l.length<=l'.length){xs:List AV}{x:AV}(h:QG P k l xs x):QG P k l' xs x:=by
 rcases h with h|h|⟨h1,h2,h3⟩
 ·exact .inl h
 ·exact .inr (.inl h)
 ·refine .inr (.inr ⟨h1,CI (λg hg=>by omega) h2,?_⟩)
  cases k<;>simp only[AK.still,AK.blind,reduceCtorEq] at h1 hb
  case cap=>rcases xs with _|⟨a,_|⟨b,r⟩⟩<;>first|exact h3|(cases a<;>exact h3)
  case mv=>rcases xs with _|⟨a,_|⟨b,r⟩⟩<;>exact h3
  case pick=>rcases xs with _|⟨a,_|⟨b,_|⟨c,_|⟨d,r⟩⟩⟩⟩<;>first|exact h3|(cases a<;>exact h3)
  case build=>exact h3
  case nilCheck=>rcases xs with _|⟨a,_|⟨b,r⟩⟩<;>first|exact h3|(cases a<;>exact h3)
  case bin=>rcases xs with _|⟨a,_|⟨b,_|⟨c,r⟩⟩⟩<;>first|exact h3|(cases a<;>exact h3)|(cases a<;>cases b<;>exact h3)
  case eqb=>rcases xs with _|⟨a,_|⟨b,_|⟨c,r⟩⟩⟩<;>first|exact h3|(cases a<;>exact h3)|(cases a<;>cases b<;>exact h3)
  case eqs=>rcases xs with _|⟨a,_|⟨b,_|⟨c,r⟩⟩⟩<;>first|exact h3|(cases a<;>exact h3)|(cases a<;>cases b<;>exact h3)
  case eqn=>rcases xs with _|⟨a,_|⟨b,_|⟨c,r⟩⟩⟩<;>first|exact h3|(cases a<;>exact h3)|(cases b<;>first|exact h3|(cases a<;>exact h3))
  case un=>rcases xs with _|⟨a,_|⟨b,r⟩⟩<;>exact h3
  case conv=>rcases xs with _|⟨a,_|⟨b,r⟩⟩<;>first|exact h3|(cases a<;>exact h3)
  case field=>rcases xs with _|⟨a,_|⟨b,r⟩⟩<;>first|exact h3|(cases a<;>exact h3)
  case index=>rcases xs with _|⟨a,_|⟨b,_|⟨c,r⟩⟩⟩<;>first|exact h3|(cases a<;>exact h3)|(cases a<;>cases b<;>exact h3)
  case indexStr=>rcases xs with _|⟨a,_|⟨b,_|⟨c,r⟩⟩⟩<;>first|exact h3|(cases a<;>exact h3)|(cases a<;>cases b<;>exact h3)
  case extract=>rcases xs with _|⟨a,_|⟨b,r⟩⟩<;>first|exact h3|(cases a<;>exact h3)
  case len s=>cases s<;>rcases xs with _|⟨a,_|⟨b,r⟩⟩<;>first|exact h3|(cases a<;>exact h3)
  case max=>rcases xs with _|⟨a,r⟩<;>first|exact h3|(cases a<;>exact h3)
  case min=>rcases xs with _|⟨a,_|⟨b,_|⟨c,r⟩⟩⟩<;>first|exact h3|(cases a<;>exact h3)|(cases a<;>cases b<;>exact h3)
  case mkFunc=>exact h3
end
section
variable {P:Program}{n:Nat}{ops:Array Oper}{md:Region.Mode}{rd:Option Nat}{mm:Nat}
def Comm(P:Program)(e:AK)(l l':List Grp):Prop:=∀q:AK,Lq q e=true->∀ys z,QG P q l ys z->QG P q l' ys z
theorem at_lt{l:List Grp}{g:Nat}(h:((hl l).at_ g).exact=true):g<l.length:=by
 rcases Aj g l.length with hg|hg
 ·exact hg
 ·rw[Da] at h
  have:l.getD g default=default:=by simp[List.getD,BE hg]
  rw[this] at h;cases h
theorem zlo{k:AK}{e:Nat}(he:k.eff=some e)(hap:k.appOk=true){l:List Grp}{xs:List AV}{K:AV->A4->Prop}(hoff:Tp k xs)(h:AI P k (hl l) xs K):
 ∃x l',AI P k (hl l) xs (λy H'=>y=x/\H'=hl l')/\K x (hl l')/\Comm P k l l':=by
 have hpush:∀G,k.eff=some 0->Comm P k l (l++[G]):=λG h0 q hq ys z hh=>hh.push G;cases k<;>simp only[AK.eff,Aq,reduceCtorEq] at he<;>try (exact absurd hap ox)
 case mkMap =>
  match xs,h with
  |_::_,h=>exact h.elim
  |[],h =>
   have h':K (.map l.length 1) ((hl l).push ⟨0,1,true,[]⟩):=h;rw[Gl] at h'
   exact⟨_,_,⟨rfl,Gl _ _⟩,h',λq hq ys u hh=>by
    simp only[Lq,AK.eff,Ac] at hq
    exact hh.blind hq.2 oc⟩
 case mapSet =>
  match xs,h with
  |[],h=>exact h.elim
  |[x],h=>cases x<;>exact h.elim
  |[x,y],h=>cases x<;>first|exact h.elim|(cases y<;>exact h.elim)
  |x::y::u::v::r,h=>cases x<;>first|exact h.elim|(cases y<;>exact h.elim)
  |[x,y,u],h =>
   cases x<;>try exact h.elim
   cases y<;>try exact h.elim
   obtain⟨h1,h2,h3,h4,h5⟩:=h;obtain⟨zs,h6,h7⟩:=C1 h5;have hg:=at_lt h4;rw[IJ _ _ _ hg] at h7;refine⟨_,_,⟨h1,h2,h3,h4,by rw[h6];exact⟨rfl,IJ _ _ _ hg⟩⟩,h7,λq hq ys u hh=>?_⟩;simp only[Lq,AK.eff,Ac] at hq;exact hh.blind hq.2 oc
 case alloc z w =>
  match xs,h with
  |_::_,h=>exact h.elim
  |[],h =>
   have h':K (.ptr l.length 1 0 0) ((hl l).push ⟨w,1,true,[z]⟩):=h;rw[Gl] at h';exact⟨_,_,⟨rfl,Gl _ _⟩,h',hpush _ rfl⟩
 case box =>
  match xs,h with
  |[],h=>exact h.elim
  |_::_::_,h=>exact h.elim
  |[x],h =>
   obtain⟨h1,h2,h3⟩:=h;rw[Gl] at h3;exact⟨_,_,⟨h1,h2,rfl,Gl _ _⟩,h3,hpush _ rfl⟩
 case mkSlice w b z =>
  match xs,h with
  |[],h=>exact h.elim
  |[x],h=>cases x<;>exact h.elim
  |x::y::u::r,h=>cases x<;>first|exact h.elim|(cases y<;>exact h.elim)
  |[x,y],h =>
   cases x<;>try exact h.elim
   cases y<;>try exact h.elim
   obtain⟨h1,h2,h3,h4⟩:=h;rw[Gl] at h4;exact⟨_,_,⟨h1,h2,h3,rfl,Gl _ _⟩,h4,hpush _ rfl⟩
 case store s =>
  match xs,h with
  |[],h=>exact h.elim
  |[x],h=>cases x<;>exact h.elim
  |x::y::u::r,h=>cases x<;>exact h.elim
  |[x,y],h =>
   cases x<;>try exact h.elim
   rename_i g v i o;obtain⟨h1,h2,h3,h4,h5,h6,h7,h8⟩:=h
   have hg:g<l.length:=by
    rcases Aj g l.length with hg|hg
    ·exact hg
    ·exfalso
     rw[Da] at h2;have:l.getD g default=default:=by simp[List.getD,BE hg]
     rw[this] at h2;exact absurd h2 (AZ _)
   rw[IJ _ _ _ hg] at h8;refine⟨_,_,⟨h1,h2,h3,h4,h5,h6,h7,rfl,IJ _ _ _ hg⟩,h8,λq hq ys z hh=>?_⟩;simp only[Lq,AK.eff,Ac,Cj] at hq;exact hh.stored hq.2 hg h1.symm rfl rfl (by simp[Da])
 case app w b z =>
  have hbl:∀l',l.length<=l'.length->Comm P (.app w b z) l l':=λl' hl q hq ys u hh=>by
   simp only[Lq,AK.eff,Ac] at hq;exact hh.blind hq.2 hl
  match xs,h with
  |[],h=>exact h.elim
  |[x],h=>exact h.elim
  |x::y::u::r,h=>exact h.elim
  |[s,y],h =>
   obtain⟨h1,h2⟩:=h;obtain⟨news,h3,h4⟩:=C1 h2
   have mk:∀{K':AV->A4->Prop},LD w b s news (hl l) K'->AI P (.app w b z) (hl l) [s,y] K':=λhh=>by
    refine⟨h1,?_⟩;rw[h3];exact hh
   suffices hh:∃x l',LD w b s news (hl l) (λy H'=>y=x/\H'=hl l')/\K x (hl l')/\l.length<=l'.length by
    obtain⟨x,l',k1,k2,k3⟩:=hh;exact⟨x,l',mk k1,k2,hbl l' k3⟩
   cases s<;>simp only[LD] at h4 ⊢<;>try exact h4.elim
   ·obtain⟨a1,a2⟩:=h4
    rw[Gl] at a2 ⊢;exact⟨_,_,⟨a1,rfl,rfl⟩,a2,oc⟩
   ·obtain⟨a1,a2⟩:=h4
    rw[Gl] at a2 ⊢;exact⟨_,_,⟨a1,rfl,rfl⟩,a2,oc⟩
   ·obtain⟨a1,a2,a3⟩:=h4
    rcases Nat.eq_zero_or_pos news.length with h0|h0
    ·exact⟨_,_,⟨a1,λ_=>⟨rfl,rfl⟩,λh=>absurd h om⟩,a2 h0,Ab _⟩
    ·obtain⟨a3,a4⟩:=a3 h0
     rw[Gl] at a4 ⊢;exact⟨_,_,⟨a1,λh=>absurd h om,λ_=>⟨a3,rfl,rfl⟩⟩,a4,oc⟩
   ·rename_i g v off len
    obtain⟨a1,a2,a3,a4,a5⟩:=h4;have hset:∀G:Grp,K (.ref g v off (len+news.length)) ((hl l).set g G)->g<l.length->True:=λ_ _ _=>trivial;cases hc:(!((hl l).at_ g).exact||((hl l).at_ g).xs.isEmpty)
    ·rw[hc] at a5
     simp only at a5
     have hg:g<l.length:=by
      rcases Aj g l.length with hg|hg
      ·exact hg
      ·have:(hl l).at_ g=default:=by rw[Da];simp[List.getD,BE hg]
       rw[this] at hc;cases hc
     by_cases hle:off+len+news.length<=((hl l).at_ g).xs.length
     ·have:=a5.1 hle
      rw[IJ _ _ _ hg] at this;exact⟨_,_,⟨a1,a2,a3,a4,λ_=>⟨rfl,IJ _ _ _ hg⟩,λhlt=>absurd hlt om⟩,this,oc⟩
     ·have:=a5.2 om
      rw[Gl] at this;exact⟨_,_,⟨a1,a2,a3,a4,λhlt=>absurd hlt hle,λ_=>⟨rfl,Gl _ _⟩⟩,this,oc⟩
    ·rw[hc] at a5
     simp only at a5;obtain⟨b1,b2,b3,_⟩:=a5;have b4:off=0:=hoff;by_cases hg:g<l.length
     ·by_cases hle:off+len=((hl l).at_ g).xs.length
      ·have:=b2 hle
       rw[IJ _ _ _ hg] at this;exact⟨_,_,⟨a1,a2,a3,a4,b1,λ_=>⟨rfl,IJ _ _ _ hg⟩,λhlt=>absurd hlt om,λhz=>absurd b4 hz⟩,this,oc⟩
      ·obtain⟨c1,c2⟩:=b3 om
       rw[IJ _ _ _ hg] at c2;exact⟨_,_,⟨a1,a2,a3,a4,b1,λhlt=>absurd hlt hle,λ_=>⟨c1,rfl,IJ _ _ _ hg⟩,λhz=>absurd b4 hz⟩,c2,oc⟩
     ·exfalso
      have:(hl l).at_ g=default:=by rw[Da];simp[List.getD,BE (G9 hg)]
      rw[this] at a2;simp only[AK.appOk,Ah] at hap;rw[<-a2] at hap;exact Cl 0 hap
def Rr(P:Program)(q:AOp)(x:AV)(env:Env)(l l':List Grp):Prop :=
 (Lets q env/\((q.k.eff=none/\QG P q.k l (q.vals env) x/\l'=l)\/(q.k.eff≠none/\AI P q.k (hl l) (q.vals env) (λy H'=>y=x/\H'=hl l')/\Comm P q.k l l')))\/(Bars q env/\x=.tup []/\l'=l)
theorem T3{l l':List Grp}{S:MS}(hS:SRel S (hl l)){env:Env}{a:Act}(hF:FRel S n env a){i:Nat}{o:Oper}(ho:ops[i]? = some o){q:AOp}(h:CL P n ops o=some q){x:AV}(hy:Rr P q x env l l')
 {N:Act->World->Prop} {Q:Exit->Act->World->Prop} (hN:∀S' a',Evo S S'->SRel S' (hl l')->FRel S' n (env.put q.dst x) a'->N a' S'.w):wpOpIn (fen rd) mm P ops Q i N a S.w:=by
 obtain⟨hL,hB⟩:=LJ h hF;unfold wpOpIn;simp only[ho];rcases hy with⟨h1,⟨_,h2,rfl⟩|⟨_,h2,_⟩⟩|⟨h1,rfl,rfl⟩
 ·rw[Ae (hL h1)]
  exact ZA hS hF h h2.qy hN
 ·rw[Ae (hL h1)]
  refine zed hS hF h h2 (λS' H' y a' e hS' hF' hK=>?_) rd mm;obtain⟨rfl,rfl⟩:=hK;exact hN S' a' e hS' hF'
 ·rw[Ad (by rw[hB h1];simp)]
  obtain⟨_,_,h3,h4,_⟩:=Cp h;exact⟨λ_ _=>trivial,hN S _ (.refl S) hS (by rw[h3];exact hF.put h4 Kl)⟩
def anyG(P:Program)(md:Region.Mode)(ops:Array Oper)(L:List AOp)(Q:Env->List Grp->Prop):Nat->Array Bool->Env->List Grp->Prop
 |0,listed,env,l=>Region.ready md ops listed=[]/\Q env l
 |f+1,listed,env,l=>(Region.ready md ops listed=[]->Q env l)/\∀i∈Region.ready md ops listed,∃q x l',L[i]? = some q/\Rr P q x env l l'/\anyG P md ops L Q f (listed.setIfInBounds i true) (env.put q.dst x) l'
theorem RI{L:List AOp}(hL:ops.toList.mapM (CL P n ops)=some L){Q:Env->List Grp->Prop}{Q':Exit->Act->World->Prop}:∀(fuel:Nat)(listed:Array Bool)(env:Env)(l:List Grp)(S:MS)(a:Act),anyG P md ops L Q fuel listed env l->SRel S (hl l)->FRel S n env a ->
 (∀S' env' l' a',Evo S S'->SRel S' (hl l')->FRel S' n env' a'->Q env' l'->Q' .normal a' S'.w)->wpAnyIn (fen rd) mm P md ops Q' fuel listed a S.w
 |0,listed,env,l,S,a,h,hS,hF,hQ=>⟨h.1,hQ S env l a (.refl S) hS hF h.2⟩
 |fuel+1,listed,env,l,S,a,h,hS,hF,hQ=>by
  refine⟨λh0=>hQ S env l a (.refl S) hS hF (h.1 h0),λi hi=>?_⟩;obtain⟨q,x,l',hq,hy,hrest⟩:=h.2 i hi;obtain⟨_,o,ho,_⟩:=mem_ready.1 hi;obtain⟨q',hq',hc⟩:=FT hL (i:=i) (o:=o) (by simpa using ho);rw[hq] at hq';cases hq';exact T3 hS hF ho hc hy λS' a' e hS' hF'=>RI hL fuel _ _ _ S' a' hrest hS' hF' λS2 env2 l2 a2 e2 hS2 hF2 hQ2=>hQ S2 env2 l2 a2 (e.trans e2) hS2 hF2 hQ2
theorem Mz{o:Oper}{q:AOp}(h:CL P n ops o=some q){dst:Option Nat}(hd:∀d,dst=some d->d∉o.looksAt ops){env:Env}{x y:AV}{l l':List Grp}:Rr P q y (env.put dst x) l l'↔Rr P q y env l l':=by
 obtain⟨h1,h2,h3⟩:=OR h hd env x;unfold Rr;rw[h1,h2,h3]
theorem z3m{L:List AOp}(hL:ops.toList.mapM (CL P n ops)=some L){Q:Env->List Grp->Prop}{i:Nat}{oi:Oper}{qi:AOp}{x:AV}(hi:ops[i]? = some oi)(hqi:L[i]? = some qi)(hpair:∀j,i<j->X7 md ops L i j=true):∀(fuel:Nat)(listed:Array Bool)(env:Env)(l l1:List Grp),
 (∀j,j<i->listed.getD j true=true) ->
 (∀j oj,ops[j]? = some oj->j≠i->listed.getD j true=false->(∀e∈oj.after,Region.binds md e=true->e.on≠i)->oi.apart ops oj=true) ->
 i∈Region.ready md ops listed->Rr P qi x env l l1->anyG P md ops L Q fuel (listed.setIfInBounds i true) (env.put qi.dst x) l1->anyG P md ops L Q (fuel+1) listed env l:=by
 have hci:CL P n ops oi=some qi:=by
  obtain⟨q,hq,hc⟩:=FT hL (i:=i) (o:=oi) (by simpa using hi);rw[hqi] at hq;cases hq;exact hc
 intro fuel
 induction fuel with
 |zero =>
  intro listed env l l1 _ _ hr hy h;refine⟨λh=>(by rw[h] at hr;cases hr),λj hj=>?_⟩;by_cases hji:j=i
  ·subst hji;exact⟨qi,x,l1,hqi,hy,h⟩
  ·have:=ready_mono hj hji
   rw[h.1] at this;cases this
 |succ fuel ih =>
  intro listed env l l1 hlow hfree hr hy h;refine⟨λh=>(by rw[h] at hr;cases hr),λj hj=>?_⟩;by_cases hji:j=i
  ·subst hji;exact⟨qi,x,l1,hqi,hy,h⟩
  ·obtain⟨qj,xj,l2,hqj,hyj,hrest⟩:=h.2 j (ready_mono hj hji)
   obtain⟨hjun,oj,hoj,hall⟩:=mem_ready.1 hj
   have hcj:CL P n ops oj=some qj:=by
    obtain⟨q,hq,hc⟩:=FT hL (i:=j) (o:=oj) (by simpa using hoj);rw[hqj] at hq;cases hq;exact hc
   have hun:=(mem_ready.1 hr).1
   have hnot:∀e∈oj.after,Region.binds md e=true->e.on≠i:=λe he hb heq=>by
    have h1:=hall e he hb;rw[heq,getD_both hun] at h1;cases h1
   have hij:i<j:=by
    rcases Gj i j with h1|h1|h1
    ·exact h1
    ·exact absurd h1.symm hji
    ·rw[hlow j h1] at hjun;cases hjun
   obtain⟨a1,a2,a3⟩:=Oper.apart_spec (hfree j oj hoj hji hjun hnot);have di:qi.dst=oi.dst:=(Cp hci).2.2.1;have dj:qj.dst=oj.dst:=(Cp hcj).2.2.1
   have hfree':∀k ok,ops[k]? = some ok->k≠i->(listed.setIfInBounds j true).getD k true=false ->
    (∀e∈ok.after,Region.binds md e=true->e.on≠i)->oi.apart ops ok=true:=λk ok hk hki hun hno=>by
    refine hfree k ok hk hki ?_ hno;by_cases hjk:j=k
    ·subst hjk;exact hjun
    ·rw[getD_set_ne true hjk] at hun;exact hun
   have hlow':∀k,k<i->(listed.setIfInBounds j true).getD k true=true:=λk hk=>by
    rw[getD_set_ne true om];exact hlow k hk
   have hp:qi.k.eff=none/\(qj.k.eff=none\/Lq qi.k qj.k=true):=by
    have h1:=hpair j hij;simp only[X7,hqi,hqj,EV,Ac,EH] at h1;rcases h1 with h1|h1
    ·exact h1
    ·obtain⟨oj',hoj',e,he,hb,hon⟩:=Region.waitsFor_spec h1
     have:oj'=oj:=A5 (hoj'.symm.trans hoj);subst this;exact absurd hon (hnot e he hb)
   have hl1:l1=l:=by
    rcases hy with⟨_,⟨_,_,hh⟩|⟨hh,_⟩⟩|⟨_,_,hh⟩
    ·exact hh
    ·exact absurd hp.1 hh
    ·exact hh
   subst hl1;have hyj':=(Mz hcj (by rw[di];exact a1)).1 hyj
   have hyi:Rr P qi x env l2 l2:=by
    rcases hyj' with⟨_,⟨_,_,rfl⟩|⟨hne,_,hcm⟩⟩|⟨_,_,rfl⟩
    ·exact hy
    ·rcases hy with⟨b1,⟨b2,b3,_⟩|⟨b2,_⟩⟩|⟨b1,b2,_⟩
     ·exact .inl ⟨b1,.inl ⟨b2,hcm qi.k (hp.2.resolve_left hne) _ _ b3,rfl⟩⟩
     ·exact absurd hp.1 b2
     ·exact .inr ⟨b1,b2,rfl⟩
    ·exact hy
   refine⟨qj,xj,l2,hqj,hyj',ih (listed.setIfInBounds j true) _ l2 l2 hlow' hfree' (ready_mono hr (Du hji)) ((Mz hci (by rw[dj];exact a3)).2 hyi) ?_⟩;rw[CP _ _ hji,put_comm env xj x (by rw[di,dj];intro d hd hh;exact a2 d hh hd)];exact hrest
def runG(P:Program):List AOp->Env->List Grp->(Env->List Grp->Prop)->Prop
 |[],env,l,K=>K env l
 |o::r,env,l,K=>I2 env o.guard λw env =>
  if w then (if o.k.eff.isNone then ∃x,QG P o.k l (o.vals env) x/\runG P r (env.put o.dst x) l K else ∃x l',AI P o.k (hl l) (o.vals env) (λy H'=>y=x/\H'=hl l')/\Comm P o.k l l'/\runG P r (env.put o.dst x) l' K)
  else runG P r (env.put o.dst (.tup [])) l K
theorem ZD{L:List AOp}(hL:ops.toList.mapM (CL P n ops)=some L){Q:Env->List Grp->Prop}(hpair:∀i j,i<j->X7 md ops L i j=true)(hap:∀q∈L,q.k.appOk=true):∀(r:List Oper)(r':List AOp)(k:Nat)(listed:Array Bool)(env:Env)(l:List Grp),(∀j,r[j]? = ops[k+j]?)->(∀j,r'[j]? = L[k+j]?)->r.length=r'.length->(∀j,j<k->listed.getD j true=true) ->
 Region.lexFrom md ops r.length k listed=true->runG P r' env l Q->anyG P md ops L Q r.length listed env l
 |[],[],_,_,_,_,_,_,_,_,hB,h=>⟨by simpa [Region.lexFrom] using hB,h⟩
 |o::r,q::r',k,listed,env,l,hr0,hr0',hlen,hlow,hB,h=>by
  have h0:ops[k]? = some o:=by simpa using (hr0 0).symm
  have h0':L[k]? = some q:=by simpa using (hr0' 0).symm
  have hk:k<ops.size:=(AU.1 h0).1;simp only[List.length_cons,Region.lexFrom,Ac] at hB;obtain⟨⟨hr,hf⟩,hB'⟩:=hB;simp only[runG] at h;have hr':k∈Region.ready md ops listed:=by simpa using hr
  have hlow':∀j,j<k+1->(listed.setIfInBounds k true).getD j true=true:=λj hj=>by
   by_cases hjk:k=j
   ·subst hjk
    rcases Aj k listed.size with hs|hs
    ·simp[hs]
    ·simp[CF hs]
   ·rw[getD_set_ne true hjk]
    exact hlow j om
  have ih:=λenv' l' (hh:runG P r' env' l' Q)=>ZD hL hpair hap r r' (k+1) (listed.setIfInBounds k true) env' l' (λj=>by have:=hr0 (j+1);simpa [Bu,BX 1 j] using this) (λj=>by have:=hr0' (j+1);simpa [Bu,BX 1 j] using this) (by simpa using hlen) hlow' hB' hh;have first:=λx l1 (hy:Rr P q x env l l1) (hh:runG P r' (env.put q.dst x) l1 Q)=>z3m hL h0 h0' (λj hj=>hpair k j hj) r.length listed env l l1 hlow (Region.free_spec h0 hf) hr' hy (ih _ _ hh)
  rcases G0 h with⟨h1,h2⟩|⟨h1,h2⟩
  ·simp only[Br] at h2
   cases he:q.k.eff with
   |none =>
    simp only[he,Option.isNone_none,Br] at h2;obtain⟨x,hx,hK⟩:=h2;exact first x l (.inl ⟨h1,.inl ⟨he,hx,rfl⟩⟩) hK
   |some e =>
    simp only[he,Option.isNone_some,A8,Bq] at h2;obtain⟨x,l',b1,b3,b2⟩:=h2;exact first x l' (.inl ⟨h1,.inr ⟨by simp[he],b1,b3⟩⟩) b2
  ·simp only[A8,Bq] at h2
   exact first (.tup []) l (.inr ⟨h1,rfl,rfl⟩) h2
 |[],_::_,_,_,_,_,_,_,hlen,_,_,_=>by simp at hlen
 |_::_,[],_,_,_,_,_,_,hlen,_,_,_=>by simp at hlen
theorem zef{S:MS}{a:Act}{env:Env}{id:Nat}{L:List AOp}{l:List Grp}(hm:P.follows .mixedOrders=true)(hB:Region.lexB .any ops=true)(hp:UR .any ops L=true)(hL:ops.toList.mapM (CL P n ops)=some L)(hS:SRel S (hl l))(hF:FRel S n env a){K:Env->List Grp->Prop}(h:runG P L env l K)
 {Q:Exit->Act->World->Prop} (hQ:∀S' env' l' a',Evo S S'->SRel S' (hl l')->FRel S' n env' a'->K env' l'->Q .normal a' S'.w):(Code.region id ops true).wpIn (fen rd) mm P Q a S.w:=by
 simp only[Region.lexB,Ac] at hB;have hlen:ops.toList.length=L.length:=mapM_length hL;simp only[UR,Ac] at hp;have hap:∀q∈L,q.k.appOk=true:=λq hq=>AP.1 hp.1 q hq
 have hpair:∀i j,i<j->X7 .any ops L i j=true:=λi j hij=>by
  by_cases hj:j<ops.size
  ·exact AP.1 (AP.1 hp.2 j (AF.2 hj)) i (AF.2 hij)
  ·have:L[j]? = none:=BE (by rw[<-hlen];simp;omega)
   unfold X7;rw[this];split<;>first|rfl|(rename_i hh;cases hh)|(rename_i hh _;cases hh)
 have:=ZD (md:=.any) hL hpair hap ops.toList L 0 (Array.replicate ops.size false) env l oc oc hlen (λj hj=>by omega) (by simpa using hB.2) h;have e:=Evo.drew S;exact wpIn_region_any hm (RI hL ops.size _ env l { S with w:=S.w.drew } a (by simpa using this) hS.drew (hF.mono e) λS' env' l' a' e' hS' hF' hK=>hQ S' env' l' a' (e.trans e') hS' hF' hK)
end
section
variable {P:Program}{n:Nat}{ops:Array Oper}{md:Region.Mode}{rd:Option Nat}{mm:Nat}
theorem QG.away{k:AK}{l l':List Grp}(hlen:l.length<=l'.length){xs:List AV}{x:AV}(hx:BW (λg=>g<l.length->l'.getD g default=l.getD g default) xs)(h:QG P k l xs x):QG P k l' xs x:=by
 rcases h with h|h|⟨h1,h2,h3⟩
 ·exact .inl h
 ·exact .inr (.inl h)
 ·have key:∀{xs:List AV}{p q:Nat->Prop},BW p xs->BW q xs->BW (λg=>p g/\q g) xs:=by
   intro xs
   induction xs with
   |nil=>intro p q _ _;trivial
   |cons a r ih =>
    intro p q hp hq;cases a<;>simp only[BW] at hp hq ⊢<;>first|exact ih hp hq|exact⟨⟨hp.1,hq.1⟩,ih hp.2 hq.2⟩
  refine .inr (.inr ⟨h1,CI (λg hg=>by omega) h2,No h1 (CI (λg hg=>?_) (key h2 hx)) h3⟩);rw[Da,Da];exact hg.2 hg.1
def XH(P:Program)(f:Bool)(ks:List Nat)(q:AOp)(x:AV)(env:Env)(l l':List Grp):Prop :=
 Rr P q x env l l'/\(Lets q env->f=true->BW (·∉ks) (q.vals env))/\(q.k.eff=some 2->l.length<=l'.length/\∀g,g∉ks->g<l.length->l'.getD g default=l.getD g default)
def anyX(P:Program)(fl:List Bool)(ks:List Nat)(md:Region.Mode)(ops:Array Oper)(L:List AOp)(Q:Env->List Grp->Prop):Nat->Array Bool->Env->List Grp->Prop
 |0,listed,env,l=>Region.ready md ops listed=[]/\Q env l
 |f+1,listed,env,l=>(Region.ready md ops listed=[]->Q env l)/\∀i∈Region.ready md ops listed,∃q x l',L[i]? = some q/\XH P (fl.getD i false) ks q x env l l'/\anyX P fl ks md ops L Q f (listed.setIfInBounds i true) (env.put q.dst x) l'
theorem RJ{fl:List Bool}{ks:List Nat}{L:List AOp}(hL:ops.toList.mapM (CL P n ops)=some L){Q:Env->List Grp->Prop}{Q':Exit->Act->World->Prop}:∀(fuel:Nat)(listed:Array Bool)(env:Env)(l:List Grp)(S:MS)(a:Act),anyX P fl ks md ops L Q fuel listed env l->SRel S (hl l)->FRel S n env a ->
 (∀S' env' l' a',Evo S S'->SRel S' (hl l')->FRel S' n env' a'->Q env' l'->Q' .normal a' S'.w)->wpAnyIn (fen rd) mm P md ops Q' fuel listed a S.w
 |0,listed,env,l,S,a,h,hS,hF,hQ=>⟨h.1,hQ S env l a (.refl S) hS hF h.2⟩
 |fuel+1,listed,env,l,S,a,h,hS,hF,hQ=>by
  refine⟨λh0=>hQ S env l a (.refl S) hS hF (h.1 h0),λi hi=>?_⟩;obtain⟨q,x,l',hq,hy,hrest⟩:=h.2 i hi;obtain⟨_,o,ho,_⟩:=mem_ready.1 hi;obtain⟨q',hq',hc⟩:=FT hL (i:=i) (o:=o) (by simpa using ho);rw[hq] at hq';cases hq';exact T3 hS hF ho hc hy.1 λS' a' e hS' hF'=>RJ hL fuel _ _ _ S' a' hrest hS' hF' λS2 env2 l2 a2 e2 hS2 hF2 hQ2=>hQ S2 env2 l2 a2 (e.trans e2) hS2 hF2 hQ2
theorem Vk{f:Bool}{ks:List Nat}{o:Oper}{q:AOp}(h:CL P n ops o=some q){dst:Option Nat}(hd:∀d,dst=some d->d∉o.looksAt ops){env:Env}{x y:AV}{l l':List Grp}:XH P f ks q y (env.put dst x) l l'↔XH P f ks q y env l l':=by
 obtain⟨h1,h2,h3⟩:=OR h hd env x;unfold XH;rw[Mz h hd,h1,h2]
theorem z3n{fl:List Bool}{ks:List Nat}{L:List AOp}(hL:ops.toList.mapM (CL P n ops)=some L){Q:Env->List Grp->Prop}{i:Nat}{oi:Oper}{qi:AOp}{x:AV}(hi:ops[i]? = some oi)(hqi:L[i]? = some qi)
 (hpair:∀j,i<j->match L[j]? with|some qj=>(qi.k.eff=none/\(qj.k.eff=none\/Lq qi.k qj.k=true\/fl.getD i false=true/\qj.k.eff=some 2))\/Region.waitsFor md ops j i=true|none=>True):∀(fuel:Nat)(listed:Array Bool)(env:Env)(l l1:List Grp),
 (∀j,j<i->listed.getD j true=true) ->
 (∀j oj,ops[j]? = some oj->j≠i->listed.getD j true=false->(∀e∈oj.after,Region.binds md e=true->e.on≠i)->oi.apart ops oj=true) ->
 i∈Region.ready md ops listed->XH P (fl.getD i false) ks qi x env l l1->anyX P fl ks md ops L Q fuel (listed.setIfInBounds i true) (env.put qi.dst x) l1->anyX P fl ks md ops L Q (fuel+1) listed env l:=by
 have hci:CL P n ops oi=some qi:=by
  obtain⟨q,hq,hc⟩:=FT hL (i:=i) (o:=oi) (by simpa using hi);rw[hqi] at hq;cases hq;exact hc
 intro fuel
 induction fuel with
 |zero =>
  intro listed env l l1 _ _ hr hy h;refine⟨λh=>(by rw[h] at hr;cases hr),λj hj=>?_⟩;by_cases hji:j=i
  ·subst hji;exact⟨qi,x,l1,hqi,hy,h⟩
  ·have:=ready_mono hj hji
   rw[h.1] at this;cases this
 |succ fuel ih =>
  intro listed env l l1 hlow hfree hr hy h;refine⟨λh=>(by rw[h] at hr;cases hr),λj hj=>?_⟩;by_cases hji:j=i
  ·subst hji;exact⟨qi,x,l1,hqi,hy,h⟩
  ·obtain⟨qj,xj,l2,hqj,hyj,hrest⟩:=h.2 j (ready_mono hj hji)
   obtain⟨hjun,oj,hoj,hall⟩:=mem_ready.1 hj
   have hcj:CL P n ops oj=some qj:=by
    obtain⟨q,hq,hc⟩:=FT hL (i:=j) (o:=oj) (by simpa using hoj);rw[hqj] at hq;cases hq;exact hc
   have hun:=(mem_ready.1 hr).1
   have hnot:∀e∈oj.after,Region.binds md e=true->e.on≠i:=λe he hb heq=>by
    have h1:=hall e he hb;rw[heq,getD_both hun] at h1;cases h1
   have hij:i<j:=by
    rcases Gj i j with h1|h1|h1
    ·exact h1
    ·exact absurd h1.symm hji
    ·rw[hlow j h1] at hjun;cases hjun
   obtain⟨a1,a2,a3⟩:=Oper.apart_spec (hfree j oj hoj hji hjun hnot);have di:qi.dst=oi.dst:=(Cp hci).2.2.1;have dj:qj.dst=oj.dst:=(Cp hcj).2.2.1
   have hfree':∀k ok,ops[k]? = some ok->k≠i->(listed.setIfInBounds j true).getD k true=false ->
    (∀e∈ok.after,Region.binds md e=true->e.on≠i)->oi.apart ops ok=true:=λk ok hk hki hun hno=>by
    refine hfree k ok hk hki ?_ hno;by_cases hjk:j=k
    ·subst hjk;exact hjun
    ·rw[getD_set_ne true hjk] at hun;exact hun
   have hlow':∀k,k<i->(listed.setIfInBounds j true).getD k true=true:=λk hk=>by
    rw[getD_set_ne true om];exact hlow k hk
   have hp:qi.k.eff=none/\(qj.k.eff=none\/Lq qi.k qj.k=true\/fl.getD i false=true/\qj.k.eff=some 2):=by
    have h1:=hpair j hij;rw[hqj] at h1;rcases h1 with h1|h1
    ·exact h1
    ·obtain⟨oj',hoj',e,he,hb,hon⟩:=Region.waitsFor_spec h1
     have:oj'=oj:=A5 (hoj'.symm.trans hoj);subst this;exact absurd hon (hnot e he hb)
   have hl1:l1=l:=by
    rcases hy.1 with⟨_,⟨_,_,hh⟩|⟨hh,_⟩⟩|⟨_,_,hh⟩
    ·exact hh
    ·exact absurd hp.1 hh
    ·exact hh
   subst hl1;have hyj':=(Vk hcj (by rw[di];exact a1)).1 hyj
   have hyi:XH P (fl.getD i false) ks qi x env l2 l2:=by
    refine⟨?_,hy.2.1,λh2=>by rw[hp.1] at h2;cases h2⟩;rcases hyj'.1 with⟨_,⟨_,_,rfl⟩|⟨hne,_,hcm⟩⟩|⟨_,_,rfl⟩
    ·exact hy.1
    ·rcases hy.1 with⟨b1,⟨b2,b3,_⟩|⟨b2,_⟩⟩|⟨b1,b2,_⟩
     ·refine .inl ⟨b1,.inl ⟨b2,?_,rfl⟩⟩
      rcases hp.2.resolve_left hne with h3|⟨h3,h4⟩
      ·exact hcm qi.k h3 _ _ b3
      ·obtain⟨c1,c2⟩:=hyj'.2.2 h4
       exact b3.away c1 (CI (λg hg=>c2 g hg) (hy.2.1 b1 h3))
     ·exact absurd hp.1 b2
     ·exact .inr ⟨b1,b2,rfl⟩
    ·exact hy.1
   refine⟨qj,xj,l2,hqj,hyj',ih (listed.setIfInBounds j true) _ l2 l2 hlow' hfree' (ready_mono hr (Du hji)) ((Vk hci (by rw[dj];exact a3)).2 hyi) ?_⟩;rw[CP _ _ hji,put_comm env xj x (by rw[di,dj];intro d hd hh;exact a2 d hh hd)];exact hrest
def runX(P:Program)(ks:List Nat):List Bool->List AOp->Env->List Grp->(Env->List Grp->Prop)->Prop
 |_,[],env,l,K=>K env l
 |fl,o::r,env,l,K=>I2 env o.guard λw env =>
  if w then (if o.k.eff.isNone then (fl.headD false=true->BW (·∉ks) (o.vals env))/\∃x,QG P o.k l (o.vals env) x/\runX P ks fl.tail r (env.put o.dst x) l K
   else ∃x l',AI P o.k (hl l) (o.vals env) (λy H'=>y=x/\H'=hl l')/\Comm P o.k l l'/\(o.k.eff=some 2->l.length<=l'.length/\∀g,g∉ks->g<l.length->l'.getD g default=l.getD g default)/\(fl.headD false=true->BW (·∉ks) (o.vals env))/\runX P ks fl.tail r (env.put o.dst x) l' K)
  else runX P ks fl.tail r (env.put o.dst (.tup [])) l K
theorem ZE{fl:List Bool}{ks:List Nat}{L:List AOp}(hL:ops.toList.mapM (CL P n ops)=some L){Q:Env->List Grp->Prop}
 (hpair:∀i j qi,i<j->L[i]? = some qi->match L[j]? with|some qj=>(qi.k.eff=none/\(qj.k.eff=none\/Lq qi.k qj.k=true\/fl.getD i false=true/\qj.k.eff=some 2))\/Region.waitsFor md ops j i=true|none=>True):∀(r:List Oper)(r':List AOp)(k:Nat)(listed:Array Bool)(env:Env)(l:List Grp),(∀j,r[j]? = ops[k+j]?)->(∀j,r'[j]? = L[k+j]?)->r.length=r'.length->(∀j,j<k->listed.getD j true=true) ->
 Region.lexFrom md ops r.length k listed=true->runX P ks (fl.drop k) r' env l Q->anyX P fl ks md ops L Q r.length listed env l
 |[],[],_,_,_,_,_,_,_,_,hB,h=>⟨by simpa [Region.lexFrom] using hB,h⟩
 |o::r,q::r',k,listed,env,l,hr0,hr0',hlen,hlow,hB,h=>by
  have h0:ops[k]? = some o:=by simpa using (hr0 0).symm
  have h0':L[k]? = some q:=by simpa using (hr0' 0).symm
  have hk:k<ops.size:=(AU.1 h0).1;simp only[List.length_cons,Region.lexFrom,Ac] at hB;obtain⟨⟨hr,hf⟩,hB'⟩:=hB;simp only[runX] at h;have hhd:(fl.drop k).headD false=fl.getD k false:=by simp[List.headD_eq_head?_getD,List.head?_drop]
  have htl:(fl.drop k).tail=fl.drop (k+1):=oc
  rw[hhd,htl] at h;have hr':k∈Region.ready md ops listed:=by simpa using hr
  have hlow':∀j,j<k+1->(listed.setIfInBounds k true).getD j true=true:=λj hj=>by
   by_cases hjk:k=j
   ·subst hjk
    rcases Aj k listed.size with hs|hs
    ·simp[hs]
    ·simp[CF hs]
   ·rw[getD_set_ne true hjk]
    exact hlow j om
  have ih:=λenv' l' (hh:runX P ks (fl.drop (k+1)) r' env' l' Q)=>ZE hL hpair r r' (k+1) (listed.setIfInBounds k true) env' l' (λj=>by have:=hr0 (j+1);simpa [Bu,BX 1 j] using this) (λj=>by have:=hr0' (j+1);simpa [Bu,BX 1 j] using this) (by simpa using hlen) hlow' hB' hh;have first:=λx l1 (hy:XH P (fl.getD k false) ks q x env l l1) (hh:runX P ks (fl.drop (k+1)) r' (env.put q.dst x) l1 Q)=>z3n hL h0 h0' (λj hj=>hpair k j q hj h0') r.length listed env l l1 hlow (Region.free_spec h0 hf) hr' hy (ih _ _ hh)
  rcases G0 h with⟨h1,h2⟩|⟨h1,h2⟩
  ·simp only[Br] at h2
   cases he:q.k.eff with
   |none =>
    simp only[he,Option.isNone_none,Br] at h2;obtain⟨hfl,x,hx,hK⟩:=h2;exact first x l ⟨.inl ⟨h1,.inl ⟨he,hx,rfl⟩⟩,λ_=>hfl,λhh=>by rw[he] at hh;cases hh⟩ hK
   |some e =>
    simp only[he,Option.isNone_some,A8,Bq] at h2;obtain⟨x,l',b1,b3,b4,b5,b2⟩:=h2;exact first x l' ⟨.inl ⟨h1,.inr ⟨by simp[he],b1,b3⟩⟩,λ_=>b5,λhh=>b4 (by rw[<-he];exact hh)⟩ b2
  ·simp only[A8,Bq] at h2
   refine first (.tup []) l ⟨.inr ⟨h1,rfl,rfl⟩,λhL'=>?_,λ_=>⟨Ab _,λ_ _ _=>rfl⟩⟩ h2
   exfalso;unfold Lets at hL';unfold Bars at h1;split at hL'
   ·rename_i hg;rw[hg] at h1;exact h1
   ·rename_i d want hg
    rw[hg] at h1;simp only at h1;rw[hL'] at h1;rcases h1 with h1|h1
    ·cases want<;>simp at h1
    ·cases h1
 |[],_::_,_,_,_,_,_,_,hlen,_,_,_=>by simp at hlen
 |_::_,[],_,_,_,_,_,_,hlen,_,_,_=>by simp at hlen
theorem zr2{S:MS}{a:Act}{env:Env}{id:Nat}{ks:List Nat}{L:List AOp}{l:List Grp}(hm:P.follows .mixedOrders=true)(hB:Region.lexB .any ops=true)(hp:Zz .any ops L=true)(hL:ops.toList.mapM (CL P n ops)=some L)(hS:SRel S (hl l))(hF:FRel S n env a){K:Env->List Grp->Prop}(h:runX P ks (Pq .any ops L) L env l K)
 {Q:Exit->Act->World->Prop} (hQ:∀S' env' l' a',Evo S S'->SRel S' (hl l')->FRel S' n env' a'->K env' l'->Q .normal a' S'.w):(Code.region id ops true).wpIn (fen rd) mm P Q a S.w:=by
 simp only[Region.lexB,Ac] at hB;have hlen:ops.toList.length=L.length:=mapM_length hL
 have hpair:∀i j qi,i<j->L[i]? = some qi->match L[j]? with|some qj=>(qi.k.eff=none/\(qj.k.eff=none\/Lq qi.k qj.k=true\/(Pq .any ops L).getD i false=true/\qj.k.eff=some 2))\/Region.waitsFor .any ops j i=true|none=>True:=λi j qi hij hqi=>by
  by_cases hj:j<ops.size
  ·have h1:=AP.1 (AP.1 hp j (AF.2 hj)) i (AF.2 hij)
   unfold zqs at h1;rw[hqi] at h1;cases hqj:L[j]? with
   |none=>trivial
   |some qj =>
    rw[hqj] at h1;simp only[EV,Ac,EH,Ck] at h1;rcases h1 with⟨h1,h2⟩|h1
    ·refine .inl ⟨h1,?_⟩
     rcases h2 with (h2|h2)|h2
     ·exact .inl h2
     ·exact .inr (.inl h2)
     ·exact .inr (.inr h2)
    ·exact .inr h1
  ·have:L[j]? = none:=BE (by rw[<-hlen];simp;omega)
   rw[this];trivial
 have:=ZE (md:=.any) (fl:=Pq .any ops L) (ks:=ks) hL hpair ops.toList L 0 (Array.replicate ops.size false) env l oc oc hlen (λj hj=>by omega) (by simpa using hB.2) (by simpa using h);have e:=Evo.drew S;exact wpIn_region_any hm (RJ hL ops.size _ env l { S with w:=S.w.drew } a (by simpa using this) hS.drew (hF.mono e) λS' env' l' a' e' hS' hF' hK=>hQ S' env' l' a' (e.trans e') hS' hF' hK)
end
section
variable {P:Program}{S:MS}{H:A4}{K:AV->A4->Prop}
def XI:AK->List AV->Nat->Grp->AV->Prop
 |.alloc z w,[],g,G,x=>G=⟨w,2,true,[z]⟩/\x=.ptr g 2 0 0
 |.box,[y],g,G,x=>GB y.cells=true/\0<y.cells.length/\G=⟨y.cells.length,2,true,[y]⟩/\x=.ptr g 2 0 0
 |.mkSlice w bytes z,[.int _ l,.int _ c],g,G,x=>0<=l/\l<=c/\c * bytes<=140737488355328/\G=⟨w,2,true,List.replicate c.toNat z⟩/\x=.ref g 2 0 l.toNat
 |_,_,_,_,_=>False
theorem XJ(hS:SRel S H)(cells:Array Value)(T:TypeId)(w:Nat)(ys:List AV)(cap:Nat)(hsz:cells.size=cap * w){vs:List Value}(hv:AB S ys vs)(hf:Hg cells w vs)(hx:ys.length=cap)(hw:0<w){g:Nat}(hg:g<H.n)(hG:H.at_ g=⟨w,1,true,[]⟩):
 Evo S (S.moved (S.w.alloc (.cells cells T)) g S.w.heap.size 2 cap w)/\SRel (S.moved (S.w.alloc (.cells cells T)) g S.w.heap.size 2 cap w) (H.set g ⟨w,2,true,ys⟩):=by
 have hGr:=hS.grp g hg;have ec:S.cur g=1:=by rw[hGr.ver,hG]
 exact hS.moved hg (by rw[hG];exact hw) (S.w.alloc (.cells cells T)) S.w.heap.size cap ⟨w,2,true,ys⟩ rfl ⟨rfl,Ab _⟩ rfl (by show _<=(S.w.heap.push _).size;simp) (λb _ hb=>heap_alloc_lt S.w _ b hb) (.inr (.inl (Ab _)))
  (λ_=>⟨cells,T,vs,heap_alloc_new S.w _,hsz,hv,hf⟩) (by simp[hx]) (λ_=>hx) hw (by rw[ec];show 1<=2;omega) (λhh=>by rw[ec] at hh;change 2=1 at hh;omega)
theorem zjt(hS:SRel S H)(o:Obj)(cap w:Nat){g:Nat}(hg:g<H.n):VRel (S.moved (S.w.alloc o) g S.w.heap.size 2 cap w) (.ptr g 2 0 0) (.pointer (some ⟨S.w.heap.size,0,none⟩)):=by
 refine⟨⟨_,rfl⟩,?_,?_,λ_=>?_⟩
 ·show g<S.n;rw[hS.n];exact hg
 ·show 2<=fput _ _ _ _;rw[AM];exact Ab _
 ·show _=Value.pointer (some ⟨fput _ _ _ _,_,_⟩);rw[AM];simp
theorem zr3(hS:SRel S H)(o:Obj)(cap w len:Nat)(hl:len<=cap){g:Nat}(hg:g<H.n):VRel (S.moved (S.w.alloc o) g S.w.heap.size 2 cap w) (.ref g 2 0 len) (.slice (some ⟨S.w.heap.size,0,none⟩) len cap):=by
 refine⟨⟨_,_,rfl,λh=>by cases h⟩,?_,?_,λ_=>⟨_,_,rfl,.inl ⟨?_,?_,?_⟩⟩⟩
 ·show g<S.n;rw[hS.n];exact hg
 ·show 2<=fput _ _ _ _;rw[AM];exact Ab _
 ·show _=some (Addr.mk (fput _ _ _ _) _ _);rw[AM];simp
 ·show _=fput _ _ _ _-_;rw[AM];simp
 ·show _<=fput _ _ _ _;rw[AM];omega
theorem Vl{v:Value}{w:Nat}(h0:v.cells.size=w)(h1:∀c∈v.cells,c.oneCell'=true):Hg v.cells w [v]:=λk u hu=>by
 cases k with
 |zero=>simp only[List.getElem?_cons_zero,Aq] at hu;subst hu;exact⟨h0,h1,λj hj=>by simp⟩
 |succ k=>simp at hu
theorem z7k(hS:SRel S H)(t:TypeId){i:TypeInfo}{z:Value}{x:AV}(hi:P.info? t=some i)(hz:i.zero=some z)(hx:avOf z=some x)(h0:0<z.cells.size)(h1:∀c∈z.cells,c.oneCell'=true){g:Nat}(hg:g<H.n)(hG:H.at_ g=⟨z.cells.size,1,true,[]⟩)
 (hK:K (.ptr g 2 0 0) (H.set g ⟨z.cells.size,2,true,[x]⟩)):OpOk P S ((do pure (Next.value (<-Instr.alloc t true (.tuple #[]))):Sem Next).run P S.w) K:=by
 obtain⟨e',hS'⟩:=XJ hS z.cells t z.cells.size [x] 1 oc (.one (HB hx)) (Vl rfl h1) rfl h0 hg hG;refine FH (v:=.pointer (some ⟨S.w.heap.size,0,none⟩)) ?_ e' hS' (zjt hS _ _ _ hg) hK;simp[Instr.alloc,zeroValue,typeInfo,hi,hz,newVar,EI];rfl
theorem zlp(hS:SRel S H)(t:TypeId){v:Value}{x:AV}(hv:VRel S x v)(h1:GB x.cells=true)(h2:0<x.cells.length){g:Nat}(hg:g<H.n)(hG:H.at_ g=⟨x.cells.length,1,true,[]⟩)
 (hK:K (.ptr g 2 0 0) (H.set g ⟨x.cells.length,2,true,[x]⟩)):OpOk P S ((do pure (Next.value (<-Instr.box t v)):Sem Next).run P S.w) K:=by
 obtain⟨k1,k2⟩:=I0 hv h1;obtain⟨e',hS'⟩:=XJ hS v.cells t x.cells.length [x] 1 (by simpa using k1) (.one hv) (Vl k1 k2) rfl h2 hg hG;refine FH (v:=.pointer (some ⟨S.w.heap.size,0,none⟩)) ?_ e' hS' (zjt hS _ _ _ hg) hK;simp[Instr.box,newVar,EI];rfl
theorem XK(hS:SRel S H)(t:TypeId){e:TypeId}{i:TypeInfo}{z:Value}{x:AV}(ht:P.underlying t=some (.slice e))(hi:P.info? e=some i)(hz:i.zero=some z)(hx:avOf z=some x)(h0:0<i.size)(hby:0<i.bytes)(hzs:z.cells.size=i.size)
 (hz1:∀c∈z.cells,c.oneCell'=true) {k k':IntKind} {l c:Int} (h1:0<=l) (h2:l<=c) (h3:c * i.bytes<=140737488355328) {g:Nat} (hg:g<H.n) (hG:H.at_ g=⟨i.size,1,true,[]⟩) (hK:K (.ref g 2 0 l.toNat) (H.set g ⟨i.size,2,true,List.replicate c.toNat x⟩)) :
 OpOk P S ((do pure (Next.value (<-Instr.makeSlice t (.int k l) (.int k' c))):Sem Next).run P S.w) K:=by
 have hc:c<=140737488355328:=by
  have:c * 1<=c * i.bytes:=CQ om om;omega
 have wl:IntKind.i64.wrap l=l:=IntWalk.i64_in _ om;have wc:IntKind.i64.wrap c=c:=IntWalk.i64_in _ om
 have hl':(i.bytes:Int) * l<=140737488355328:=by
  have:l * i.bytes<=c * i.bytes:=CN h2 om;rw[EG];omega
 have hc':(i.bytes:Int) * c<=140737488355328:=by rw[EG];exact h3
 have hask:∀w',(askRoom (c.toNat * i.bytes)).run P w'=.ok () w':=by
  intro w'
  have:¬(c.toNat * i.bytes>roomBytes):=by
   have e:((c.toNat * i.bytes:Nat):Int)=c * i.bytes:=by rw[Int.natCast_mul,BS om]
   simp only[roomBytes];omega
  simp[askRoom,this]
 obtain⟨e',hS'⟩:=XJ hS ((Array.range (c.toNat * i.size)).map λk=>z.cells[k % z.cells.size]!) e i.size (List.replicate c.toNat x) c.toNat oc (AB.replicate (HB hx) _) (KR hzs hz1) oc h0 hg hG;refine FH (v:=.slice (some ⟨S.w.heap.size,0,none⟩) l.toNat c.toNat) ?_ e' hS' (zr3 hS _ _ _ _ om hg) hK;have t1:typeInfo e=typeInfo e:=rfl;have hti:∀w',(typeInfo e).run P w'=.ok i w':=by intro w';simp[typeInfo,hi]
 simp only[Instr.makeSlice,Sem.run_bind,run_underlying ht,Result.andThen_ok,asInt,asIntOf,Sem.run_pure,hti,wl,wc];have c1:¬(c<0):=om
 have c2:¬((i.bytes:Int) * c>2 ^ 48):=om
 have c3:¬(l<0):=om
 have c4:¬(l>c):=om
 have hz':∀w',(zeroValue e).run P w'=.ok z w':=λw'=>by simp[zeroValue,typeInfo,hi,hz]
 simp only[c1,c2,c3,c4,C7,Hu,A8,Bq,Sem.run_bind,hask,Result.andThen_ok,CH hi];by_cases hl0:c.toNat * i.size=0
 ·simp only[hl0,Br,Sem.run_bind,Sem.run_pure,Result.andThen_ok,OP,EI]
  rfl
 ·simp only[hl0,Bq,Sem.run_bind,hz',Result.andThen_ok,Sem.run_pure,EI]
  rfl
theorem z3o(hS:SRel S H)(o:Oper){ρ:Operand->Value}{k:AK}(hk:Dk P o.op=some k){xs:List AV}(hx:AB S xs (o.op.operands.toList.map ρ)){g:Nat}{G:Grp}{y:AV}(hl:XI k xs g G y)(hg:g<H.n)(hG:H.at_ g=⟨G.w,1,true,[]⟩)(hK:K y (H.set g G)):
 OpOk P S ((execOp ρ o).run P S.w) K:=by
 have hn:k≠.no:=λe=>by subst e;cases xs<;>exact hl
 replace hk:=JG hk hn;obtain⟨dst,op,type,pos,after,guard⟩:=o;cases op with
 |alloc t =>
  simp only[Fx] at hk;split at hk
  ·rename_i i hi
   split at hk
   ·rename_i z' hz
    split at hk
    ·rename_i x hzx
     split at hk
     ·rename_i hc
      cases hk
      have hx0:xs=[]:=by
       match xs,hl with
       |[],_=>rfl
      subst hx0;obtain⟨rfl,rfl⟩:=hl;simp only[Ac,Ah,B8] at hc;exact z7k hS t hi hz hzx hc.1 hc.2 hg hG hK
     ·cases hk
    ·cases hk
   ·cases hk
  ·cases hk
 |box t x =>
  cases hk;obtain⟨z,rfl,hv⟩:=(show AB S xs [ρ x] by simpa [Op.operands] using hx).len1;obtain⟨h1,h2,rfl,rfl⟩:=hl;exact zlp hS t hv h1 h2 hg hG hK
 |makeSlice t l c =>
  have hx':AB S xs [ρ l,ρ c]:=by simpa [Op.operands] using hx
  simp only[Fx] at hk;split at hk
  ·rename_i e ht
   split at hk
   ·rename_i i hi
    split at hk
    ·rename_i z hz
     split at hk
     ·rename_i x hzx
      split at hk
      ·rename_i hc
       cases hk;obtain⟨a,b,rfl,ha,hb⟩:=hx'.len2;cases a<;>cases b<;>simp only[XI] at hl<;>try exact hl.elim
       rename_i k1 l1 k2 c1;obtain⟨h1,h2,h3,rfl,rfl⟩:=hl;obtain ha:ρ l=.int k1 l1:=ha;obtain hb:ρ c=.int k2 c1:=hb;simp only[Ac,Ah,Ck,B8] at hc;have:=XK (k:=k1) (k':=k2) hS t ht hi hz hzx hc.1.1.1 hc.1.1.2 hc.1.2 hc.2 h1 h2 h3 hg hG hK;rw[<-ha,<-hb] at this;exact this
      ·cases hk
     ·cases hk
    ·cases hk
   ·cases hk
  ·cases hk
 |_ =>
  exfalso;simp only[Fx] at hk
  repeat' split at hk
  all_goals first
   |(cases hk;done)
   |(cases hk;cases xs<;>exact hl)
   |(obtain⟨_,_,rfl⟩:=Ag.1 hk;exact hl)
   |(unfold FS at hk;repeat' split at hk
     all_goals first
      |(cases hk;done)
      |(cases hk;exact hl))
   |contradiction
end
section
variable {P:Program}{n:Nat}{ops:Array Oper}{md:Region.Mode}{rd:Option Nat}{mm:Nat}
def ActA(k:AK)(ks:List Nat)(xs:List AV)(l:List Grp)(x:AV)(l':List Grp):Prop :=
 ∃g G,XI k xs g G x/\g<l.length/\l.getD g default=⟨G.w,1,true,[]⟩/\g∈ks/\l'=l.set g G
theorem XI.ver{k:AK}{xs:List AV}{g:Nat}{G:Grp}{x:AV}(h:XI k xs g G x):G.ver=2:=by
 unfold XI at h;split at h
 ·rw[h.1]
 ·rw[h.2.2.1]
 ·rw[h.2.2.2.1]
 ·exact h.elim
theorem JJ{l:List Grp}{g:Nat}(G:Grp)(h:g<l.length):(l.set g G).getD g default=G:=by simp[List.getD,h]
theorem GW{l:List Grp}{g j:Nat}(G:Grp)(h:g≠j):(l.set g G).getD j default=l.getD j default:=by simp[List.getD,CW h]
theorem ActA.same{k:AK}{ks:List Nat}{xs:List AV}{l l':List Grp}{x:AV}(h:ActA k ks xs l x l'):l'.length=l.length/\∀g,g∉ks->l'.getD g default=l.getD g default:=by
 obtain⟨g,G,_,h1,_,h2,rfl⟩:=h;refine⟨oc,λj hj=>GW _ (λe=>hj (e ▸ h2))⟩
def zr4(P:Program)(f f2:Bool)(ks:List Nat × List Nat)(q:AOp)(x:AV)(env:Env)(l l':List Grp):Prop :=
 Rr P q x env l l'/\(Lets q env->(f=true->BW (·∉ks.1) (q.vals env))/\(f2=true->BW (·∉ks.2) (q.vals env)))/\(q.k.eff=some 2->l.length<=l'.length/\∀g,g∉ks.1->g<l.length->l'.getD g default=l.getD g default)/\(q.k.eff=some 1->l'.length=l.length/\(∀g,Alike (hl l) (hl l') g)/\∀g,g∉ks.2->g<l.length->l'.getD g default=l.getD g default)/\(q.k.grows=true->∀g,g∉ks.1->g<l'.length->g<l.length)
def P0(P:Program)(f f2:Bool)(ks:List Nat × List Nat)(q:AOp)(x:AV)(env:Env)(l l':List Grp):Prop :=
 (q.k.laid=true/\((Lets q env/\ActA q.k ks.1 (q.vals env) l x l')\/(Bars q env/\x=.tup []/\l'=l)))\/(q.k.laid=false/\zr4 P f f2 ks q x env l l')
theorem zeg{f f2:Bool}{ks:List Nat × List Nat}{l l':List Grp}{S:MS}(hS:SRel S (hl l)){env:Env}{a:Act}(hF:FRel S n env a){i:Nat}{o:Oper}(ho:ops[i]? = some o){q:AOp}(h:CL P n ops o=some q){x:AV}(hy:P0 P f f2 ks q x env l l')
 {N:Act->World->Prop} {Q:Exit->Act->World->Prop} (hN:∀S' a',Evo S S'->SRel S' (hl l')->FRel S' n (env.put q.dst x) a'->N a' S'.w):wpOpIn (fen rd) mm P ops Q i N a S.w:=by
 rcases hy with⟨hlaid,hy⟩|⟨_,hy⟩
 ·obtain⟨hL,hB⟩:=LJ h hF
  rcases hy with⟨h1,g,G,hla,hg,hG,_,rfl⟩|⟨h1,rfl,rfl⟩
  ·unfold wpOpIn
   simp only[ho];rw[Ae (hL h1)];obtain⟨k1,k2,k3,k4,k5⟩:=Cp h;have hsem:o.semAt (fen rd).round a.eval=execOp a.eval o:=Oper.semAt_eq _ _ _ λc hc=>by have k1:=JG k1 (λe=>by rw[e] at hlaid;cases hlaid);rw[hc] at k1;cases k1
   have hst:=z3o (K:=λy H'=>y=x/\H'=hl (l.set g G)) hS o (ρ:=a.eval) k1 (KS hF k2) hla (g:=g) hg hG ⟨rfl,IJ _ _ _ hg⟩;rcases hst with⟨v,S',y,H',hr,e,hS',hv,rfl,rfl⟩|⟨f,cargs,hr,hc⟩
   ·have hN':=λv' (hv':VRel S' y v')=>hN S' (a.put o.dst v') e hS' (by rw[k3];exact (hF.mono e).put k4 hv')
    refine⟨λ_ _=>trivial,?_⟩;rw[hsem];rcases hr with hr|⟨hr,rfl⟩<;>rw[hr]
    ·exact hN' v hv
    ·exact hN' undef hv
   ·refine⟨λ_ _=>trivial,?_⟩
    rw[hsem,hr,Oper.uponIn_enter];refine⟨λh=>(by cases h),Py (hc.mono λe w' hh=>?_)⟩;obtain⟨v,S',y,H',rfl,rfl,ev,hS',hv,rfl,rfl⟩:=hh;exact hN S' (a.put o.dst v) ev hS' (by rw[k3];exact (hF.mono ev).put k4 hv)
  ·unfold wpOpIn
   simp only[ho];rw[Ad (by rw[hB h1];simp)];obtain⟨_,_,h3,h4,_⟩:=Cp h;exact⟨λ_ _=>trivial,hN S _ (.refl S) hS (by rw[h3];exact hF.put h4 Kl)⟩
 ·exact T3 hS hF ho h hy.1 hN
def anyY(P:Program)(fl:List Bool)(ks:List Nat × List Nat)(md:Region.Mode)(ops:Array Oper)(L:List AOp)(Q:Env->List Grp->Prop):Nat->Array Bool->Env->List Grp->Prop
 |0,listed,env,l=>Region.ready md ops listed=[]/\Q env l
 |f+1,listed,env,l=>(Region.ready md ops listed=[]->Q env l)/\∀i∈Region.ready md ops listed,∃q x l',L[i]? = some q/\P0 P (fl.getD (2 * i) false) (fl.getD (2 * i+1) false) ks q x env l l'/\anyY P fl ks md ops L Q f (listed.setIfInBounds i true) (env.put q.dst x) l'
theorem RL{fl:List Bool}{ks:List Nat × List Nat}{L:List AOp}(hL:ops.toList.mapM (CL P n ops)=some L){Q:Env->List Grp->Prop}{Q':Exit->Act->World->Prop}:∀(fuel:Nat)(listed:Array Bool)(env:Env)(l:List Grp)(S:MS)(a:Act),anyY P fl ks md ops L Q fuel listed env l->SRel S (hl l)->FRel S n env a ->
 (∀S' env' l' a',Evo S S'->SRel S' (hl l')->FRel S' n env' a'->Q env' l'->Q' .normal a' S'.w)->wpAnyIn (fen rd) mm P md ops Q' fuel listed a S.w
 |0,listed,env,l,S,a,h,hS,hF,hQ=>⟨h.1,hQ S env l a (.refl S) hS hF h.2⟩
 |fuel+1,listed,env,l,S,a,h,hS,hF,hQ=>by
  refine⟨λh0=>hQ S env l a (.refl S) hS hF (h.1 h0),λi hi=>?_⟩;obtain⟨q,x,l',hq,hy,hrest⟩:=h.2 i hi;obtain⟨_,o,ho,_⟩:=mem_ready.1 hi;obtain⟨q',hq',hc⟩:=FT hL (i:=i) (o:=o) (by simpa using ho);rw[hq] at hq';cases hq';exact zeg hS hF ho hc hy λS' a' e hS' hF'=>RL hL fuel _ _ _ S' a' hrest hS' hF' λS2 env2 l2 a2 e2 hS2 hF2 hQ2=>hQ S2 env2 l2 a2 (e.trans e2) hS2 hF2 hQ2
theorem Vm{f f2:Bool}{ks:List Nat × List Nat}{o:Oper}{q:AOp}(h:CL P n ops o=some q){dst:Option Nat}(hd:∀d,dst=some d->d∉o.looksAt ops){env:Env}{x y:AV}{l l':List Grp}:P0 P f f2 ks q y (env.put dst x) l l'↔P0 P f f2 ks q y env l l':=by
 obtain⟨h1,h2,h3⟩:=OR h hd env x;unfold P0 zr4;rw[Mz h hd,h1,h2,h3]
def z3p(fl:List Bool)(i j:Nat)(qi qj:AOp):Prop :=
 (qi.k.laid=true/\qj.k.laid=true)\/(qi.k.eff=none/\(qj.k.eff=none\/(Lq qi.k qj.k=true/\qj.k.laid=false)\/((fl.getD (2 * i) false=true\/qi.k.solo=true)/\(qj.k.laid=true\/qj.k.eff=some 2))\/(qj.k.eff=some 1/\(qi.k.reads=false\/fl.getD (2 * i+1) false=true))))\/(qi.k.laid=true/\qj.k.eff=none/\(fl.getD (2 * j) false=true\/qj.k.solo=true))\/(qi.k.eff=some 1/\qj.k.eff=none/\(qj.k.reads=false\/fl.getD (2 * j+1) false=true))\/(qi.k.grows=true/\qj.k.eff=none/\fl.getD (2 * j) false=true)
theorem Jk{k:AK}(h:k.grows=true):k.eff=some 2:=by cases k<;>first|rfl|cases h
theorem z3q{k:AK}(h:k.grows=true):k.laid=false:=by cases k<;>first|rfl|cases h
theorem QG.back{k:AK}{l l':List Grp}{xs:List AV}{x:AV}(hx:BW (λg=>g<l.length->g<l'.length/\l'.getD g default=l.getD g default) xs)(h:QG P k l xs x):QG P k l' xs x:=by
 rcases h with h|h|⟨h1,h2,h3⟩
 ·exact .inl h
 ·exact .inr (.inl h)
 ·have key:∀{xs:List AV}{p q:Nat->Prop},BW p xs->BW q xs->BW (λg=>p g/\q g) xs:=by
   intro xs
   induction xs with
   |nil=>intro p q _ _;trivial
   |cons a r ih =>
    intro p q hp hq;cases a<;>simp only[BW] at hp hq ⊢<;>first|exact ih hp hq|exact⟨⟨hp.1,hq.1⟩,ih hp.2 hq.2⟩
  refine .inr (.inr ⟨h1,CI (λg hg=>(hg.2 hg.1).1) (key h2 hx),No h1 (CI (λg hg=>?_) (key h2 hx)) h3⟩);rw[Da,Da];exact (hg.2 hg.1).2
theorem QG.solo{k:AK}{l l':List Grp}{xs:List AV}{x:AV}(h:QG P k l xs x)(hk:k.solo=true)(hl:l.length<=l'.length):QG P k l' xs x:=by
 rcases h with h|h|⟨h1,h2,h3⟩
 ·exact .inl h
 ·exact .inr (.inl h)
 ·refine .inr (.inr ⟨h1,CI (λg hg=>AO hg hl) h2,?_⟩)
  cases k<;>first|(cases hk;done)|exact h3|(rcases xs with _|⟨a,_|⟨b,r⟩⟩<;>exact h3)
theorem Alike.symm{H H':A4}{g:Nat}(h:Alike H H' g):Alike H' H g:=⟨h.1.symm,h.2.symm,h.3.symm,h.4.symm⟩
theorem Np{p:Nat->Prop}(h:∀g,p g):∀{xs:List AV},BW p xs
 |[]=>trivial
 |x::r=>by cases x<;>simp only[BW]<;>first|exact Np h|exact⟨h _,Np h⟩
theorem QG.alike{k:AK}{l l':List Grp}{xs:List AV}{x:AV}(h:QG P k l xs x)(hr:k.reads=false)(hlen:l'.length=l.length)(ha:∀g,Alike (hl l) (hl l') g):QG P k l' xs x:=by
 rcases h with h|h|⟨h1,h2,h3⟩
 ·exact .inl h
 ·exact .inr (.inl h)
 ·exact .inr (.inr ⟨h1,by rw[hlen];exact h2,LK h1 hr (Np ha) h3⟩)
theorem P2{k:AK}(he:k.eff=some 1){l l':List Grp}{xs:List AV}{x:AV}(h:AI P k (hl l) xs λy H'=>y=x/\H'=hl l'):l'.length=l.length/\∀g,Alike (hl l) (hl l') g:=by
 cases k<;>simp only[AK.eff,Aq,reduceCtorEq] at he<;>try (exact absurd he ox)
 case store s =>
  match xs,h with
  |[],h=>exact h.elim
  |[x],h=>cases x<;>exact h.elim
  |x::y::u::r,h=>cases x<;>exact h.elim
  |[x,y],h =>
   cases x<;>try exact h.elim
   rename_i g v i o;obtain⟨h1,h2,h3,h4,h5,h6,h7,_,h8⟩:=h;refine⟨(Bt A4.n h8).symm,λj=>?_⟩;rw[<-h8];constructor<;>(simp only[A4.set,hput];by_cases hj:j=g<;>simp_all)
theorem T4{k:AK}(h:k.laid=true):k.eff=some 0:=by cases k<;>first|rfl|cases h
theorem OT{k:AK}(h:k.eff=none):k.laid=false:=by cases k<;>first|rfl|cases h
theorem swapY{fl:List Bool}{ks:List Nat × List Nat}{i j:Nat}{qi qj:AOp}{x xj:AV}{env:Env}{l l1 l2:List Grp}(hp:z3p fl i j qi qj)(hy:P0 P (fl.getD (2 * i) false) (fl.getD (2 * i+1) false) ks qi x env l l1)(hyj:P0 P (fl.getD (2 * j) false) (fl.getD (2 * j+1) false) ks qj xj env l1 l2):
 ∃lj,P0 P (fl.getD (2 * j) false) (fl.getD (2 * j+1) false) ks qj xj env l lj/\P0 P (fl.getD (2 * i) false) (fl.getD (2 * i+1) false) ks qi x env lj l2:=by
 rcases hp with⟨hi,hj⟩|⟨hi,hp⟩|⟨hi,hj,hf⟩|⟨hi,hj,hf⟩|⟨hi,hj,hf⟩
 ·have hy:=(hy.resolve_right λh=>by rw[hi] at h;cases h.1).2
  have hyj:=(hyj.resolve_right λh=>by rw[hj] at h;cases h.1).2;rcases hy with⟨a1,a2⟩|⟨a1,a2,rfl⟩
  ·rcases hyj with⟨b1,b2⟩|⟨b1,b2,rfl⟩
   ·obtain⟨g,G,hla,hg,hG,hgk,rfl⟩:=a2
    obtain⟨g',G',hla',hg',hG',hgk',rfl⟩:=b2
    have hne:g≠g':=by
     intro e;subst e;rw[JJ _ hg] at hG';have:=hla.ver;rw[hG'] at this;cases this
    rw[GW _ hne] at hG';rw[C3] at hg';refine⟨l.set g' G',.inl ⟨hj,.inl ⟨b1,g',G',hla',hg',hG',hgk',rfl⟩⟩,.inl ⟨hi,.inl ⟨a1,g,G,hla,by simpa using hg,?_,hgk,?_⟩⟩⟩
    ·rw[GW _ (Du hne)];exact hG
    ·rw[List.set_comm _ _ hne]
   ·exact⟨l,.inl ⟨hj,.inr ⟨b1,b2,rfl⟩⟩,.inl ⟨hi,.inl ⟨a1,a2⟩⟩⟩
  ·exact⟨l2,.inl ⟨hj,hyj⟩,.inl ⟨hi,.inr ⟨a1,a2,rfl⟩⟩⟩
 ·rcases hy with⟨hy,_⟩|⟨hil,hy⟩
  ·rw[OT hi] at hy;cases hy
  have hl1:l1=l:=by
   rcases hy.1 with⟨_,⟨_,_,hh⟩|⟨hh,_⟩⟩|⟨_,_,hh⟩
   ·exact hh
   ·exact absurd hi hh
   ·exact hh
  subst hl1;refine⟨l2,hyj,.inr ⟨hil,?_⟩⟩
  have keep:Lets qi env->∀z,QG P qi.k l1 (qi.vals env) z->QG P qi.k l2 (qi.vals env) z:=λhL z hz=>by
   rcases hyj with⟨hjl,⟨_,hyj⟩|⟨_,_,rfl⟩⟩|⟨hjl,hyj⟩
   ·obtain⟨e1,e2⟩:=hyj.same
    rcases hp with hp|⟨_,hp⟩|⟨hp,_⟩|⟨hp,_⟩
    ·rw[T4 hjl] at hp;cases hp
    ·rw[hjl] at hp;cases hp
    ·rcases hp with hp|hp
     ·exact hz.away om (CI (q:=λg=>g<l1.length->l2.getD g default=l1.getD g default) (λg hg _=>e2 g hg) ((hy.2.1 hL).1 hp))
     ·exact hz.solo hp om
    ·rw[T4 hjl] at hp;cases hp
   ·exact hz
   ·rcases hyj.1 with⟨_,⟨_,_,rfl⟩|⟨hne,_,hcm⟩⟩|⟨_,_,rfl⟩
    ·exact hz
    ·rcases hp with hp|⟨hp,_⟩|⟨hp,hp2⟩|⟨h1,hp⟩
     ·exact absurd hp hne
     ·exact hcm qi.k hp _ z hz
     ·have h1:=hp2.resolve_left (by rw[hjl];simp)
      obtain⟨k1,k2⟩:=hyj.2.2.1 h1;rcases hp with hp|hp
      ·exact hz.away k1 (CI (λg hg=>k2 g hg) ((hy.2.1 hL).1 hp))
      ·exact hz.solo hp k1
     ·obtain⟨k1,k2,k3⟩:=hyj.2.2.2.1 h1
      rcases hp with hr|hp
      ·exact hz.alike hr k1 k2
      ·exact hz.away om (CI (λg hg=>k3 g hg) ((hy.2.1 hL).2 hp))
    ·exact hz
  refine⟨?_,hy.2.1,λh2=>(by rw[hi] at h2;cases h2),λh2=>(by rw[hi] at h2;cases h2),λh2=>(by rw[Jk h2] at hi;cases hi)⟩;rcases hy.1 with⟨b1,⟨b2,b3,_⟩|⟨b2,_⟩⟩|⟨b1,b2,_⟩
  ·exact .inl ⟨b1,.inl ⟨b2,keep b1 _ b3,rfl⟩⟩
  ·exact absurd hi b2
  ·exact .inr ⟨b1,b2,rfl⟩
 ·rcases hyj with⟨hyj,_⟩|⟨hjl,hyj⟩
  ·rw[OT hj] at hyj;cases hyj
  have hl2:l2=l1:=by
   rcases hyj.1 with⟨_,⟨_,_,hh⟩|⟨hh,_⟩⟩|⟨_,_,hh⟩
   ·exact hh
   ·exact absurd hj hh
   ·exact hh
  subst hl2;refine⟨l,.inr ⟨hjl,?_⟩,hy⟩
  have keep:Lets qj env->∀z,QG P qj.k l2 (qj.vals env) z->QG P qj.k l (qj.vals env) z:=λhL z hz=>by
   rcases hy with⟨_,⟨_,hy⟩|⟨_,_,rfl⟩⟩|⟨hil,hy⟩
   ·obtain⟨e1,e2⟩:=hy.same
    rcases hf with hf|hf
    ·exact hz.away om (CI (q:=λg=>g<l2.length->l.getD g default=l2.getD g default) (λg hg _=>(e2 g hg).symm) ((hyj.2.1 hL).1 hf))
    ·exact hz.solo hf om
   ·exact hz
   ·rw[hi] at hil;cases hil
  refine⟨?_,hyj.2.1,λh2=>(by rw[hj] at h2;cases h2),λh2=>(by rw[hj] at h2;cases h2),λh2=>(by rw[Jk h2] at hj;cases hj)⟩;rcases hyj.1 with⟨b1,⟨b2,b3,_⟩|⟨b2,_⟩⟩|⟨b1,b2,_⟩
  ·exact .inl ⟨b1,.inl ⟨b2,keep b1 _ b3,rfl⟩⟩
  ·exact absurd hj b2
  ·exact .inr ⟨b1,b2,rfl⟩
 ·rcases hyj with⟨hyj,_⟩|⟨hjl,hyj⟩
  ·rw[OT hj] at hyj;cases hyj
  have hl2:l2=l1:=by
   rcases hyj.1 with⟨_,⟨_,_,hh⟩|⟨hh,_⟩⟩|⟨_,_,hh⟩
   ·exact hh
   ·exact absurd hj hh
   ·exact hh
  subst hl2;refine⟨l,.inr ⟨hjl,?_⟩,hy⟩
  have keep:Lets qj env->∀z,QG P qj.k l2 (qj.vals env) z->QG P qj.k l (qj.vals env) z:=λhL z hz=>by
   rcases hy with⟨hil,_⟩|⟨hil,hy⟩
   ·rw[T4 hil] at hi;cases hi
   ·obtain⟨k1,k2,k3⟩:=hy.2.2.2.1 hi
    rcases hf with hr|hf
    ·exact hz.alike hr k1.symm λg=>(k2 g).symm
    ·exact hz.away om (CI (q:=λg=>g<l2.length->l.getD g default=l2.getD g default) (λg hg hlt=>(k3 g hg om).symm) ((hyj.2.1 hL).2 hf))
  refine⟨?_,hyj.2.1,λh2=>(by rw[hj] at h2;cases h2),λh2=>(by rw[hj] at h2;cases h2),λh2=>(by rw[Jk h2] at hj;cases hj)⟩;rcases hyj.1 with⟨b1,⟨b2,b3,_⟩|⟨b2,_⟩⟩|⟨b1,b2,_⟩
  ·exact .inl ⟨b1,.inl ⟨b2,keep b1 _ b3,rfl⟩⟩
  ·exact absurd hj b2
  ·exact .inr ⟨b1,b2,rfl⟩
 ·rcases hyj with⟨hyj,_⟩|⟨hjl,hyj⟩
  ·rw[OT hj] at hyj;cases hyj
  have hl2:l2=l1:=by
   rcases hyj.1 with⟨_,⟨_,_,hh⟩|⟨hh,_⟩⟩|⟨_,_,hh⟩
   ·exact hh
   ·exact absurd hj hh
   ·exact hh
  subst hl2;refine⟨l,.inr ⟨hjl,?_⟩,hy⟩;obtain⟨_,_,k1,_,k3⟩:=(hy.resolve_left λh=>by rw[z3q hi] at h;cases h.1).2;have k1:=(k1 (Jk hi)).2;have k3:=k3 hi;refine⟨?_,hyj.2.1,λh2=>(by rw[hj] at h2;cases h2),λh2=>(by rw[hj] at h2;cases h2),λh2=>(by rw[Jk h2] at hj;cases hj)⟩;rcases hyj.1 with⟨b1,⟨b2,b3,_⟩|⟨b2,_⟩⟩|⟨b1,b2,_⟩
  ·exact .inl ⟨b1,.inl ⟨b2,b3.back (CI (λg hg hlt=>⟨k3 g hg hlt,(k1 g hg (k3 g hg hlt)).symm⟩) ((hyj.2.1 b1).1 hf)),rfl⟩⟩
  ·exact absurd hj b2
  ·exact .inr ⟨b1,b2,rfl⟩
theorem z3r{fl:List Bool}{ks:List Nat × List Nat}{L:List AOp}(hL:ops.toList.mapM (CL P n ops)=some L){Q:Env->List Grp->Prop}{i:Nat}{oi:Oper}{qi:AOp}{x:AV}(hi:ops[i]? = some oi)(hqi:L[i]? = some qi)
 (hpair:∀j,i<j->match L[j]? with|some qj=>z3p fl i j qi qj\/Region.waitsFor md ops j i=true|none=>True):∀(fuel:Nat)(listed:Array Bool)(env:Env)(l l1:List Grp),
 (∀j,j<i->listed.getD j true=true) ->
 (∀j oj,ops[j]? = some oj->j≠i->listed.getD j true=false->(∀e∈oj.after,Region.binds md e=true->e.on≠i)->oi.apart ops oj=true) ->
 i∈Region.ready md ops listed->P0 P (fl.getD (2 * i) false) (fl.getD (2 * i+1) false) ks qi x env l l1->anyY P fl ks md ops L Q fuel (listed.setIfInBounds i true) (env.put qi.dst x) l1->anyY P fl ks md ops L Q (fuel+1) listed env l:=by
 have hci:CL P n ops oi=some qi:=by
  obtain⟨q,hq,hc⟩:=FT hL (i:=i) (o:=oi) (by simpa using hi);rw[hqi] at hq;cases hq;exact hc
 intro fuel
 induction fuel with
 |zero =>
  intro listed env l l1 _ _ hr hy h;refine⟨λh=>(by rw[h] at hr;cases hr),λj hj=>?_⟩;by_cases hji:j=i
  ·subst hji;exact⟨qi,x,l1,hqi,hy,h⟩
  ·have:=ready_mono hj hji
   rw[h.1] at this;cases this
 |succ fuel ih =>
  intro listed env l l1 hlow hfree hr hy h;refine⟨λh=>(by rw[h] at hr;cases hr),λj hj=>?_⟩;by_cases hji:j=i
  ·subst hji;exact⟨qi,x,l1,hqi,hy,h⟩
  ·obtain⟨qj,xj,l2,hqj,hyj,hrest⟩:=h.2 j (ready_mono hj hji)
   obtain⟨hjun,oj,hoj,hall⟩:=mem_ready.1 hj
   have hcj:CL P n ops oj=some qj:=by
    obtain⟨q,hq,hc⟩:=FT hL (i:=j) (o:=oj) (by simpa using hoj);rw[hqj] at hq;cases hq;exact hc
   have hun:=(mem_ready.1 hr).1
   have hnot:∀e∈oj.after,Region.binds md e=true->e.on≠i:=λe he hb heq=>by
    have h1:=hall e he hb;rw[heq,getD_both hun] at h1;cases h1
   have hij:i<j:=by
    rcases Gj i j with h1|h1|h1
    ·exact h1
    ·exact absurd h1.symm hji
    ·rw[hlow j h1] at hjun;cases hjun
   obtain⟨a1,a2,a3⟩:=Oper.apart_spec (hfree j oj hoj hji hjun hnot);have di:qi.dst=oi.dst:=(Cp hci).2.2.1;have dj:qj.dst=oj.dst:=(Cp hcj).2.2.1
   have hfree':∀k ok,ops[k]? = some ok->k≠i->(listed.setIfInBounds j true).getD k true=false ->
    (∀e∈ok.after,Region.binds md e=true->e.on≠i)->oi.apart ops ok=true:=λk ok hk hki hun hno=>by
    refine hfree k ok hk hki ?_ hno;by_cases hjk:j=k
    ·subst hjk;exact hjun
    ·rw[getD_set_ne true hjk] at hun;exact hun
   have hlow':∀k,k<i->(listed.setIfInBounds j true).getD k true=true:=λk hk=>by
    rw[getD_set_ne true om];exact hlow k hk
   have hp:z3p fl i j qi qj:=by
    have h1:=hpair j hij;rw[hqj] at h1;rcases h1 with h1|h1
    ·exact h1
    ·obtain⟨oj',hoj',e,he,hb,hon⟩:=Region.waitsFor_spec h1
     have:oj'=oj:=A5 (hoj'.symm.trans hoj);subst this;exact absurd hon (hnot e he hb)
   have hyj':=(Vm hcj (by rw[di];exact a1)).1 hyj;obtain⟨lj,s1,s2⟩:=swapY hp hy hyj';refine⟨qj,xj,lj,hqj,s1,ih (listed.setIfInBounds j true) _ lj l2 hlow' hfree' (ready_mono hr (Du hji)) ((Vm hci (by rw[dj];exact a3)).2 s2) ?_⟩;rw[CP _ _ hji,put_comm env xj x (by rw[di,dj];intro d hd hh;exact a2 d hh hd)];exact hrest
def runY(P:Program)(ks:List Nat × List Nat):List Bool->List AOp->Env->List Grp->(Env->List Grp->Prop)->Prop
 |_,[],env,l,K=>K env l
 |fl,o::r,env,l,K=>I2 env o.guard λw env =>
  if w then (if o.k.laid then ∃x l',ActA o.k ks.1 (o.vals env) l x l'/\runY P ks fl.tail.tail r (env.put o.dst x) l' K
   else if o.k.eff.isNone then ((fl.headD false=true->BW (·∉ks.1) (o.vals env))/\(fl.tail.headD false=true->BW (·∉ks.2) (o.vals env)))/\∃x,QG P o.k l (o.vals env) x/\runY P ks fl.tail.tail r (env.put o.dst x) l K
   else ∃x l',AI P o.k (hl l) (o.vals env) (λy H'=>y=x/\H'=hl l')/\Comm P o.k l l'/\(o.k.eff=some 2->l.length<=l'.length/\∀g,g∉ks.1->g<l.length->l'.getD g default=l.getD g default)/\(o.k.eff=some 1->∀g,g∉ks.2->g<l.length->l'.getD g default=l.getD g default)/\(o.k.grows=true->∀g,g∉ks.1->g<l'.length->g<l.length)/\((fl.headD false=true->BW (·∉ks.1) (o.vals env))/\(fl.tail.headD false=true->BW (·∉ks.2) (o.vals env)))/\runY P ks fl.tail.tail r (env.put o.dst x) l' K)
  else runY P ks fl.tail.tail r (env.put o.dst (.tup [])) l K
theorem ZF{fl:List Bool}{ks:List Nat × List Nat}{L:List AOp}(hL:ops.toList.mapM (CL P n ops)=some L){Q:Env->List Grp->Prop}
 (hpair:∀i j qi,i<j->L[i]? = some qi->match L[j]? with|some qj=>z3p fl i j qi qj\/Region.waitsFor md ops j i=true|none=>True):∀(r:List Oper)(r':List AOp)(k:Nat)(listed:Array Bool)(env:Env)(l:List Grp),(∀j,r[j]? = ops[k+j]?)->(∀j,r'[j]? = L[k+j]?)->r.length=r'.length->(∀j,j<k->listed.getD j true=true) ->
 Region.lexFrom md ops r.length k listed=true->runY P ks (fl.drop (2 * k)) r' env l Q->anyY P fl ks md ops L Q r.length listed env l
 |[],[],_,_,_,_,_,_,_,_,hB,h=>⟨by simpa [Region.lexFrom] using hB,h⟩
 |o::r,q::r',k,listed,env,l,hr0,hr0',hlen,hlow,hB,h=>by
  have h0:ops[k]? = some o:=by simpa using (hr0 0).symm
  have h0':L[k]? = some q:=by simpa using (hr0' 0).symm
  have hk:k<ops.size:=(AU.1 h0).1;simp only[List.length_cons,Region.lexFrom,Ac] at hB;obtain⟨⟨hr,hf⟩,hB'⟩:=hB;simp only[runY] at h;have hhd:(fl.drop (2 * k)).headD false=fl.getD (2 * k) false:=by simp[List.headD_eq_head?_getD,List.head?_drop]
  have hhd2:(fl.drop (2 * k)).tail.headD false=fl.getD (2 * k+1) false:=by simp[List.headD_eq_head?_getD,List.head?_drop]
  have htl:(fl.drop (2 * k)).tail.tail=fl.drop (2 * (k+1)):=by simp[Nat.mul_add]
  rw[hhd,hhd2,htl] at h;have hr':k∈Region.ready md ops listed:=by simpa using hr
  have hlow':∀j,j<k+1->(listed.setIfInBounds k true).getD j true=true:=λj hj=>by
   by_cases hjk:k=j
   ·subst hjk
    rcases Aj k listed.size with hs|hs
    ·simp[hs]
    ·simp[CF hs]
   ·rw[getD_set_ne true hjk]
    exact hlow j om
  have ih:=λenv' l' (hh:runY P ks (fl.drop (2 * (k+1))) r' env' l' Q)=>ZF hL hpair r r' (k+1) (listed.setIfInBounds k true) env' l' (λj=>by have:=hr0 (j+1);simpa [Bu,BX 1 j] using this) (λj=>by have:=hr0' (j+1);simpa [Bu,BX 1 j] using this) (by simpa using hlen) hlow' hB' hh;have first:=λx l1 (hy:P0 P (fl.getD (2 * k) false) (fl.getD (2 * k+1) false) ks q x env l l1) (hh:runY P ks (fl.drop (2 * (k+1))) r' (env.put q.dst x) l1 Q)=>z3r hL h0 h0' (λj hj=>hpair k j q hj h0') r.length listed env l l1 hlow (Region.free_spec h0 hf) hr' hy (ih _ _ hh)
  cases hla:q.k.laid with
  |true =>
   rcases G0 h with⟨h1,h2⟩|⟨h1,h2⟩
   ·simp only[hla,Br] at h2
    obtain⟨x,l',b1,b2⟩:=h2;exact first x l' (.inl ⟨hla,.inl ⟨h1,b1⟩⟩) b2
   ·simp only[A8,Bq] at h2
    exact first (.tup []) l (.inl ⟨hla,.inr ⟨h1,rfl,rfl⟩⟩) h2
  |false =>
   rcases G0 h with⟨h1,h2⟩|⟨h1,h2⟩
   ·simp only[hla,Br,A8,Bq] at h2
    cases he:q.k.eff with
    |none =>
     simp only[he,Option.isNone_none,Br] at h2;obtain⟨hfl,x,hx,hK⟩:=h2;exact first x l (.inr ⟨hla,.inl ⟨h1,.inl ⟨he,hx,rfl⟩⟩,λ_=>hfl,λhh=>(by rw[he] at hh;cases hh),λhh=>(by rw[he] at hh;cases hh),λhh=>(by rw[Jk hh] at he;cases he)⟩) hK
    |some e =>
     simp only[he,Option.isNone_some,A8,Bq] at h2;obtain⟨x,l',b1,b3,b4,b6,b7,b5,b2⟩:=h2;exact first x l' (.inr ⟨hla,.inl ⟨h1,.inr ⟨by simp[he],b1,b3⟩⟩,λ_=>b5,λhh=>b4 (by rw[<-he];exact hh),λhh=>⟨(P2 hh b1).1,(P2 hh b1).2,b6 (by rw[<-he];exact hh)⟩,b7⟩) b2
   ·simp only[A8,Bq] at h2
    refine first (.tup []) l (.inr ⟨hla,.inr ⟨h1,rfl,rfl⟩,λhL'=>?_,λ_=>⟨Ab _,λ_ _ _=>rfl⟩,λ_=>⟨rfl,λ_=>Alike.of_eq rfl,λ_ _ _=>rfl⟩,λ_ _ _ hh=>hh⟩) h2
    exfalso;unfold Lets at hL';unfold Bars at h1;split at hL'
    ·rename_i hg;rw[hg] at h1;exact h1
    ·rename_i d want hg
     rw[hg] at h1;simp only at h1;rw[hL'] at h1;rcases h1 with h1|h1
     ·cases want<;>simp at h1
     ·cases h1
 |[],_::_,_,_,_,_,_,_,hlen,_,_,_=>by simp at hlen
 |_::_,[],_,_,_,_,_,_,hlen,_,_,_=>by simp at hlen
theorem z3s{L:List AOp}{i j:Nat}{qi qj:AOp}(hi:L[i]? = some qi)(hj:L[j]? = some qj)(h:zl9 md ops L i j=true):z3p (JX md ops L) i j qi qj\/Region.waitsFor md ops j i=true:=by
 unfold zl9 at h;rw[hi,hj] at h;simp only[EV,Ac,EH,Ck,Cj] at h;rcases h with ((((h|⟨h1,h2⟩)|⟨h1,h2⟩)|⟨⟨h1,h2⟩,h3⟩)|⟨⟨h1,h2⟩,h3⟩)|⟨⟨h1,h2⟩,h3⟩
 ·exact .inr h
 ·exact .inl (.inl ⟨h1,h2⟩)
 ·refine .inl (.inr (.inl ⟨h1,?_⟩))
  rcases h2 with ((h2|h2)|h2)|h2
  ·exact .inl h2
  ·exact .inr (.inl h2)
  ·exact .inr (.inr (.inl h2))
  ·exact .inr (.inr (.inr h2))
 ·exact .inl (.inr (.inr (.inl ⟨h1,h2,h3⟩)))
 ·exact .inl (.inr (.inr (.inr (.inl ⟨h1,h2,h3⟩))))
 ·exact .inl (.inr (.inr (.inr (.inr ⟨h1,h2,h3⟩))))
theorem zr5{S:MS}{a:Act}{env:Env}{id:Nat}{ks:List Nat × List Nat}{L:List AOp}{l:List Grp}(hm:P.follows .mixedOrders=true)(hB:Region.lexB .any ops=true)(hp:Z0 .any ops L=true)(hL:ops.toList.mapM (CL P n ops)=some L)(hS:SRel S (hl l))(hF:FRel S n env a){K:Env->List Grp->Prop}(h:runY P ks (JX .any ops L) L env l K)
 {Q:Exit->Act->World->Prop} (hQ:∀S' env' l' a',Evo S S'->SRel S' (hl l')->FRel S' n env' a'->K env' l'->Q .normal a' S'.w):(Code.region id ops true).wpIn (fen rd) mm P Q a S.w:=by
 simp only[Region.lexB,Ac] at hB;have hlen:ops.toList.length=L.length:=mapM_length hL
 have hpair:∀i j qi,i<j->L[i]? = some qi->match L[j]? with|some qj=>z3p (JX .any ops L) i j qi qj\/Region.waitsFor .any ops j i=true|none=>True:=λi j qi hij hqi=>by
  by_cases hj:j<ops.size
  ·have h1:=AP.1 (AP.1 hp j (AF.2 hj)) i (AF.2 hij)
   cases hqj:L[j]? with
   |none=>trivial
   |some qj=>exact z3s hqi hqj h1
  ·have:L[j]? = none:=BE (by rw[<-hlen];simp;omega)
   rw[this];trivial
 have:=ZF (md:=.any) (fl:=JX .any ops L) (ks:=ks) hL hpair ops.toList L 0 (Array.replicate ops.size false) env l oc oc hlen (λj hj=>by omega) (by simpa using hB.2) (by simpa using h);have e:=Evo.drew S;exact wpIn_region_any hm (RL hL ops.size _ env l { S with w:=S.w.drew } a (by simpa using this) hS.drew (hF.mono e) λS' env' l' a' e' hS' hF' hK=>hQ S' env' l' a' (e.trans e') hS' hF' hK)
end
structure BEvo(b:Nat)(S S':MS):Prop where
 base:S'.base=S.base
 os:S'.w.os=S.w.os
 tape:LB S'.w S.w
 output:S'.w.output=S.w.output
 size:S.w.heap.size<=S'.w.heap.size
 kept:∀b,S.im b\/S.keep b->S'.w.heap[b]? = S.w.heap[b]?
 im:∀b,S.im b->S'.im b
 keep:∀b,S.keep b->S'.keep b
 fresh:∀b,S'.im b->S.im b\/¬S.keep b
 n:b<=S'.n
 cur:∀g,g<b->S.cur g<=S'.cur g
 same:∀g,g<b->S'.cur g=S.cur g->S'.place g=S.place g/\S'.cap g=S.cap g/\S'.wid g=S.wid g
theorem Evo.down{S S':MS}{b:Nat}(e:Evo S S')(hb:b<=S.n):BEvo b S S' :=
 ⟨e.base,e.os,e.tape,e.output,e.size,e.kept,e.im,e.keep,e.fresh,Bl hb e.n,λg hg=>e.cur g (AO hg hb),λg hg=>e.same g (AO hg hb)⟩
theorem BEvo.up{S S':MS}(e:BEvo S.n S S'):Evo S S' :=
 ⟨e.base,e.os,e.tape,e.output,e.size,e.kept,e.im,e.keep,e.fresh,e.n,e.cur,e.same⟩
theorem BEvo.refl{b:Nat}{S:MS}(hb:b<=S.n):BEvo b S S:=(Evo.refl S).down hb
theorem BEvo.trans{b:Nat}{A B C:MS}(h:BEvo b A B)(k:BEvo b B C):BEvo b A C where
 base:=k.base.trans h.base
 os:=k.os.trans h.os
 tape:=k.tape.trans h.tape
 output:=k.output.trans h.output
 size:=Bl h.size k.size
 kept b hb:=(k.kept b (hb.imp (h.im b) (h.keep b))).trans (h.kept b hb)
 im b hb:=k.im b (h.im b hb)
 keep b hb:=k.keep b (h.keep b hb)
 fresh b hb:=(k.fresh b hb).elim (h.fresh b) (λhn=>.inr λhk=>hn (h.keep b hk))
 n:=k.n
 cur g hg:=Bl (h.cur g hg) (k.cur g hg)
 same g hg e:=by
  have h1:=h.cur g hg;have h2:=k.cur g hg;have e1:B.cur g=A.cur g:=om
  have e2:C.cur g=B.cur g:=om
  obtain⟨p1,p2,p3⟩:=h.same g hg e1;obtain⟨q1,q2,q3⟩:=k.same g hg e2;exact⟨q1.trans p1,q2.trans p2,q3.trans p3⟩
inductive Ex where
 |normal
 |exit (id:Nat)
 |ret
def Ex.up:Ex->Exit
 |.normal=>.normal
 |.exit id=>.exit id
 |.ret=>.ret
def After(S:MS)(n b:Nat)(Q:Ex->Env->A4->Prop)(e:Exit)(a:Act)(w:World):Prop :=
 ∃S' env H' x,S'.w=w/\BEvo b S S'/\SRel S' H'/\FRel S' n env a/\e=Ex.up x/\Q x env H'
def T(P:Program)(n b:Nat)(c:AC)(env:Env)(H:A4)(Q:Ex->Env->A4->Prop):Prop :=
 ∀(rd:Option Nat)(mm:Nat)(_:c.free=true\/rd=none) code,Fy P n code=some c->∀S a,b<=S.n->SRel S H->FRel S n env a->code.wpIn (fen rd) mm P (After S n b Q) a S.w
section
variable {P:Program}{n b:Nat}{env:Env}{H:A4}{Q:Ex->Env->A4->Prop}
theorem zeh{x y:Bool}{q:Prop}(h:(x&&y)=true\/q):(x=true\/q)/\(y=true\/q):=by
 rcases h with h|h
 ·rw[Ac] at h;exact⟨.inl h.1,.inl h.2⟩
 ·exact⟨.inr h,.inr h⟩
theorem After.trans{S S':MS}(e:BEvo b S S'){Q:Ex->Env->A4->Prop}{x:Exit}{a:Act}{w:World}(h:After S' n b Q x a w):After S n b Q x a w :=
 let ⟨S2,env,H',y,h1,h2,h3,h4,h5,h6⟩:=h
 ⟨S2,env,H',y,h1,e.trans h2,h3,h4,h5,h6⟩
theorem After.mono{S:MS}{Q Q':Ex->Env->A4->Prop}(hq:∀x env H,Q x env H->Q' x env H){x:Exit}{a:Act}{w:World}(h:After S n b Q x a w):After S n b Q' x a w :=
 let ⟨S2,env,H',y,h1,h2,h3,h4,h5,h6⟩:=h
 ⟨S2,env,H',y,h1,h2,h3,h4,h5,hq _ _ _ h6⟩
theorem T.mono{c:AC}{Q':Ex->Env->A4->Prop}(h:T P n b c env H Q)(hq:∀x env H,Q x env H->Q' x env H):T P n b c env H Q' :=
 λrd mm hrd code hc S a hb hS hF=>wpIn_mono (h rd mm hrd code hc S a hb hS hF) λ_ _ _ hh=>hh.mono hq
theorem I3{F:Fence}{mm:Nat}{c:Code}{a:Act}{w:World}{R:Exit->Act->World->Prop}(h:c.wpIn F mm P (Exit.noGoto R) a w):(Code.scope c).wpIn F mm P R a w:=by
 intro b k cs hro hb hr;have h0:(lone (b.atR a (.code (.scope c)::k)) cs w).fenced P F:=fenced_calm hb hr rfl;obtain⟨e,a₁,w₁,hq,harr⟩:=h b (.inScope c::k) cs hro hb hr;have hs:step P (lone (b.atR a (.code (.scope c)::k)) cs w)=.next (lone (b.atR a (.code c::.inScope c::k)) cs w):=step_lone_go (by simp[stepG,stepG.exec,Frame.atR]);have hs2:step P (lone (b.atR a₁ (.inScope c::k)) cs w₁)=.next (lone (b.atR a₁ k) cs w₁):=step_lone_go (by simp[stepG,stepG.exec,Frame.atR]);cases e with
 |normal=>exact⟨.normal,a₁,w₁,hq,.head h0 hs (StepsIn.trans harr (.one (fenced_calm hb hr rfl) hs2))⟩
 |exit id=>exact⟨.exit id,a₁,w₁,hq,λk' hk=>.head h0 hs (harr.1 k' (by simp[exitTo,hk])),λhr' hk=>let ⟨k₁,h1,h2⟩:=harr.2 hr' (by simp[exitTo,hk]);⟨k₁,h1,.head h0 hs h2⟩⟩
 |goto l=>exact hq.elim
 |ret=>exact⟨_,a₁,w₁,hq,.of_steps (.one h0 hs) harr⟩
 |panic ch=>exact⟨_,a₁,w₁,hq,.of_steps (.one h0 hs) harr⟩
 |outgrown=>exact⟨_,a₁,w₁,hq,.of_steps (.one h0 hs) harr⟩
theorem z7l{F:Fence}{mm:Nat}{c:Code}{S:MS}{a:Act}{w:World}(h:c.wpIn F mm P (After S n b Q) a w):(Code.scope c).wpIn F mm P (After S n b Q) a w:=by
 refine I3 (wpIn_mono h λe a w hh=>?_);obtain⟨S2,env,H',y,h1,h2,h3,h4,h5,h6⟩:=hh;subst h5;cases y<;>exact⟨S2,env,H',_,h1,h2,h3,h4,rfl,h6⟩
theorem Vn{F:Fence}{mm:Nat}{c:AC}{S:MS}{a:Act}{w:World}(h:∀code,Fy P n code=some c->(∀d,code≠.scope d)->code.wpIn F mm P (After S n b Q) a w):∀code,Fy P n code=some c->code.wpIn F mm P (After S n b Q) a w
 |.scope d,hc=>z7l (Vn h d (by simpa [Fy] using hc))
 |.skip,hc=>h _ hc oc
 |.region ..,hc=>h _ hc oc
 |.seq ..,hc=>h _ hc oc
 |.cond ..,hc=>h _ hc oc
 |.block ..,hc=>h _ hc oc
 |.loop _,hc=>h _ hc oc
 |.rangeFunc ..,hc=>h _ hc oc
 |.exit _,hc=>h _ hc oc
 |.label _,hc=>h _ hc oc
 |.goto _,hc=>h _ hc oc
 |.ret,hc=>h _ hc oc
 |.refuse _,hc=>h _ hc oc
theorem T_of{c:AC}(h:∀(rd:Option Nat)(mm:Nat)(_:c.free=true\/rd=none) code,Fy P n code=some c->(∀d,code≠.scope d)->∀S a,b<=S.n->SRel S H->FRel S n env a->code.wpIn (fen rd) mm P (After S n b Q) a S.w):T P n b c env H Q :=
 λrd mm hrd code hc S a hb hS hF=>Vn (λcode hc hs=>h rd mm hrd code hc hs S a hb hS hF) code hc
theorem FU{ops:Array Oper}{draw:Bool}{l:List AOp}{c:AC}(h:Iz P ops draw l=some c):
 (draw=false/\c=.reg l)\/(draw=true/\P.follows .mixedOrders=true/\Region.lexB .any ops=true/\c=.dreg l)\/(draw=true/\∃m,P.follows .mixedOrders=true/\Region.lexTailB .any ops m=true/\c=.dtl (l.take m) (l.drop m))\/(draw=true/\P.follows .mixedOrders=true/\Region.lexB .any ops=true/\UR .any ops l=true/\c=.greg l)\/(draw=true/\P.follows .mixedOrders=true/\Region.lexB .any ops=true/\Zz .any ops l=true/\c=.grx (Pq .any ops l) l)\/(draw=true/\P.follows .mixedOrders=true/\Region.lexB .any ops=true/\Z0 .any ops l=true/\c=.gry (JX .any ops l) l):=by
 unfold Iz at h;split at h
 ·rename_i hd
  split at h
  ·rename_i hf
   split at h
   ·split at h
    ·rename_i hB
     cases h;simp only[Ac] at hB;exact .inr (.inr (.inl ⟨hd,_,hf,hB.2,rfl⟩))
    ·split at h
     ·rename_i hB
      cases h;simp only[Ac] at hB;exact .inr (.inr (.inl ⟨hd,_,hf,hB.2,rfl⟩))
     ·split at h
      ·rename_i hB;cases h;exact .inr (.inl ⟨hd,hf,hB,rfl⟩)
      ·cases h
   ·split at h
    ·rename_i hB;cases h;exact .inr (.inr (.inl ⟨hd,_,hf,hB,rfl⟩))
    ·split at h
     ·rename_i hB
      cases h;simp only[Ac] at hB;exact .inr (.inr (.inr (.inl ⟨hd,hf,hB.1,hB.2,rfl⟩)))
     ·split at h
      ·rename_i hB
       cases h;simp only[Ac] at hB;exact .inr (.inr (.inr (.inr (.inl ⟨hd,hf,hB.1,hB.2,rfl⟩))))
      ·split at h
       ·rename_i hB
        cases h;simp only[Ac] at hB;exact .inr (.inr (.inr (.inr (.inr ⟨hd,hf,hB.1,hB.2,rfl⟩))))
       ·cases h
  ·cases h
 ·rename_i hd;cases h;exact .inl ⟨by simpa using hd,rfl⟩
theorem LL{ops:Array Oper}{draw:Bool}{l l':List AOp}(h:Iz P ops draw l=some (.reg l')):draw=false/\l'=l:=by
 rcases FU h with⟨h1,h2⟩|⟨_,_,_,h2⟩|⟨_,_,_,_,h2⟩|⟨_,_,_,_,h2⟩|⟨_,_,_,_,h2⟩|⟨_,_,_,_,h2⟩<;>cases h2;exact⟨h1,rfl⟩
theorem Vo{ops:Array Oper}{draw:Bool}{l l':List AOp}(h:Iz P ops draw l=some (.dreg l')):draw=true/\P.follows .mixedOrders=true/\Region.lexB .any ops=true/\l'=l:=by
 rcases FU h with⟨_,h2⟩|⟨h1,h3,h4,h2⟩|⟨_,_,_,_,h2⟩|⟨_,_,_,_,h2⟩|⟨_,_,_,_,h2⟩|⟨_,_,_,_,h2⟩<;>cases h2;exact⟨h1,h3,h4,rfl⟩
theorem XL{ops:Array Oper}{draw:Bool}{l p q:List AOp}(h:Iz P ops draw l=some (.dtl p q)):draw=true/\∃m,P.follows .mixedOrders=true/\Region.lexTailB .any ops m=true/\p=l.take m/\q=l.drop m:=by
 rcases FU h with⟨_,h2⟩|⟨_,_,_,h2⟩|⟨h1,m,h3,h4,h2⟩|⟨_,_,_,_,h2⟩|⟨_,_,_,_,h2⟩|⟨_,_,_,_,h2⟩<;>cases h2;exact⟨h1,m,h3,h4,rfl,rfl⟩
theorem Vp{ops:Array Oper}{draw:Bool}{l l':List AOp}(h:Iz P ops draw l=some (.greg l')):draw=true/\P.follows .mixedOrders=true/\Region.lexB .any ops=true/\UR .any ops l=true/\l'=l:=by
 rcases FU h with⟨_,h2⟩|⟨_,_,_,h2⟩|⟨_,_,_,_,h2⟩|⟨h1,h3,h4,h5,h2⟩|⟨_,_,_,_,h2⟩|⟨_,_,_,_,h2⟩<;>cases h2;exact⟨h1,h3,h4,h5,rfl⟩
theorem XM{ops:Array Oper}{draw:Bool}{l l':List AOp}{fl:List Bool}(h:Iz P ops draw l=some (.grx fl l')):draw=true/\P.follows .mixedOrders=true/\Region.lexB .any ops=true/\Zz .any ops l=true/\l'=l/\fl=Pq .any ops l:=by
 rcases FU h with⟨_,h2⟩|⟨_,_,_,h2⟩|⟨_,_,_,_,h2⟩|⟨_,_,_,_,h2⟩|⟨h1,h3,h4,h5,h2⟩|⟨_,_,_,_,h2⟩<;>cases h2;exact⟨h1,h3,h4,h5,rfl,rfl⟩
theorem XN{ops:Array Oper}{draw:Bool}{l l':List AOp}{fl:List Bool}(h:Iz P ops draw l=some (.gry fl l')):draw=true/\P.follows .mixedOrders=true/\Region.lexB .any ops=true/\Z0 .any ops l=true/\l'=l/\fl=JX .any ops l:=by
 rcases FU h with⟨_,h2⟩|⟨_,_,_,h2⟩|⟨_,_,_,_,h2⟩|⟨_,_,_,_,h2⟩|⟨_,_,_,_,h2⟩|⟨h1,h3,h4,h5,h2⟩<;>cases h2;exact⟨h1,h3,h4,h5,rfl,rfl⟩
def AC.isReg:AC->Bool
 |.reg _|.dreg _|.dtl _ _|.greg _|.grx _ _|.gry _ _=>true
 |_=>false
theorem T5{ops:Array Oper}{draw:Bool}{l:List AOp}{c:AC}(h:Iz P ops draw l=some c):c.isReg=true:=by
 rcases FU h with⟨_,rfl⟩|⟨_,_,_,rfl⟩|⟨_,_,_,_,rfl⟩|⟨_,_,_,_,rfl⟩|⟨_,_,_,_,rfl⟩|⟨_,_,_,_,rfl⟩<;>rfl
theorem Eb{ops:Array Oper}{draw:Bool}{o:Option (List AOp)}{c:AC}(hc:c.isReg=false:=by rfl):¬(match o with|some l=>Iz P ops draw l|none=>none)=some c:=by
 intro h;split at h
 ·rw[T5 h] at hc;cases hc
 ·cases h
theorem zr6(h:Q .normal env H):T P n b .skip env H Q:=T_of λrd mm hrd code hc hs S a hb hS hF=>by
 have hA:After S n b Q .normal a S.w:=⟨S,env,H,.normal,rfl,.refl hb,hS,hF,rfl,h⟩;cases code<;>simp only[Fy,reduceCtorEq,Aq] at hc
 case skip=>exact wpIn_skip hA
 case label=>exact wpIn_label hA
 case region=>exact absurd hc Eb
 case seq=>split at hc<;>cases hc
 case cond=>split at hc<;>cases hc
 case block=>obtain⟨_,_,h⟩:=Ag.1 hc;cases h
 case loop=>obtain⟨_,_,h⟩:=Ag.1 hc;cases h
 case rangeFunc=>split at hc<;>cases hc
 case scope d=>exact absurd rfl (hs d)
theorem T_reg{ops:List AOp}(h:runK P ops env H λenv' H'=>Q .normal env' H'):T P n b (.reg ops) env H Q:=T_of λrd mm hrd code hc hs S a hb hS hF=>by
 cases code<;>simp only[Fy,reduceCtorEq,Aq] at hc
 case region id l draw =>
  split at hc
  ·rename_i r hr
   obtain⟨hd',rfl⟩:=LL hc
   ·subst hd'
    refine wpIn_region ?_;have:=Mx l.toList ops 0 oc hr hS hF h (Q:=After S n b Q) (λS' H' env' a' e hS' hF' hK=>⟨S',env',H',.normal,rfl,e.down hb,hS',hF',rfl,hK⟩) rd mm;rw[FE];simpa using this
  ·cases hc
 case seq=>split at hc<;>cases hc
 case cond=>split at hc<;>cases hc
 case block=>obtain⟨_,_,h⟩:=Ag.1 hc;cases h
 case loop=>obtain⟨_,_,h⟩:=Ag.1 hc;cases h
 case rangeFunc=>split at hc<;>cases hc
 case scope d=>exact absurd rfl (hs d)
theorem zr7{ops:List AOp}(h:runQ P H ops env λenv'=>Q .normal env' H):T P n b (.dreg ops) env H Q:=T_of λrd mm hrd code hc hs S a hb hS hF=>by
 cases code<;>simp only[Fy,reduceCtorEq,Aq] at hc
 case region id l draw =>
  split at hc
  ·rename_i r hr
   obtain⟨hd',h1,h2,rfl⟩:=Vo hc;subst hd';exact z3l h1 h2 hr hS hF h λS' env' a' e hS' hF' hK=>⟨S',env',H,.normal,rfl,e.down hb,hS',hF',rfl,hK⟩
  ·cases hc
 case seq=>split at hc<;>cases hc
 case cond=>split at hc<;>cases hc
 case block=>obtain⟨_,_,h⟩:=Ag.1 hc;cases h
 case loop=>obtain⟨_,_,h⟩:=Ag.1 hc;cases h
 case rangeFunc=>split at hc<;>cases hc
 case scope d=>exact absurd rfl (hs d)
theorem T_dtl{pre post:List AOp}(h:runQ P H pre env λenv'=>runK P post env' H λenv' H'=>Q .normal env' H'):T P n b (.dtl pre post) env H Q:=T_of λrd mm hrd code hc hs S a hb hS hF=>by
 cases code<;>simp only[Fy,reduceCtorEq,Aq] at hc
 case region id l draw =>
  split at hc
  ·rename_i r hr
   obtain⟨hd',m,h1,h2,rfl,rfl⟩:=XL hc;subst hd';exact z7j h1 h2 hr hS hF h λS' H' env' a' e hS' hF' hK=>⟨S',env',H',.normal,rfl,e.down hb,hS',hF',rfl,hK⟩
  ·cases hc
 case seq=>split at hc<;>cases hc
 case cond=>split at hc<;>cases hc
 case block=>obtain⟨_,_,h⟩:=Ag.1 hc;cases h
 case loop=>obtain⟨_,_,h⟩:=Ag.1 hc;cases h
 case rangeFunc=>split at hc<;>cases hc
 case scope d=>exact absurd rfl (hs d)
theorem zr8{L:List AOp}{l:List Grp}(h:runG P L env l λenv' l'=>Q .normal env' (hl l')):T P n b (.greg L) env (hl l) Q:=T_of λrd mm hrd code hc hs S a hb hS hF=>by
 cases code<;>simp only[Fy,reduceCtorEq,Aq] at hc
 case region id ops draw =>
  split at hc
  ·rename_i r hr
   obtain⟨hd',h1,h2,h3,rfl⟩:=Vp hc;subst hd';exact zef h1 h2 h3 hr hS hF h λS' env' l' a' e hS' hF' hK=>⟨S',env',hl l',.normal,rfl,e.down hb,hS',hF',rfl,hK⟩
  ·cases hc
 case seq=>split at hc<;>cases hc
 case cond=>split at hc<;>cases hc
 case block=>obtain⟨_,_,h⟩:=Ag.1 hc;cases h
 case loop=>obtain⟨_,_,h⟩:=Ag.1 hc;cases h
 case rangeFunc=>split at hc<;>cases hc
 case scope d=>exact absurd rfl (hs d)
theorem T_grx{fl:List Bool}{L:List AOp}{l:List Grp}(ks:List Nat)(h:runX P ks fl L env l λenv' l'=>Q .normal env' (hl l')):T P n b (.grx fl L) env (hl l) Q:=T_of λrd mm hrd code hc hs S a hb hS hF=>by
 cases code<;>simp only[Fy,reduceCtorEq,Aq] at hc
 case region id ops draw =>
  split at hc
  ·rename_i r hr
   obtain⟨hd',h1,h2,h3,rfl,rfl⟩:=XM hc;subst hd';exact zr2 h1 h2 h3 hr hS hF h λS' env' l' a' e hS' hF' hK=>⟨S',env',hl l',.normal,rfl,e.down hb,hS',hF',rfl,hK⟩
  ·cases hc
 case seq=>split at hc<;>cases hc
 case cond=>split at hc<;>cases hc
 case block=>obtain⟨_,_,h⟩:=Ag.1 hc;cases h
 case loop=>obtain⟨_,_,h⟩:=Ag.1 hc;cases h
 case rangeFunc=>split at hc<;>cases hc
 case scope d=>exact absurd rfl (hs d)
theorem zju{fl:List Bool}{L:List AOp}{l:List Grp}(ks:List Nat × List Nat)(h:runY P ks fl L env l λenv' l'=>Q .normal env' (hl l')):T P n b (.gry fl L) env (hl l) Q:=T_of λrd mm hrd code hc hs S a hb hS hF=>by
 cases code<;>simp only[Fy,reduceCtorEq,Aq] at hc
 case region id ops draw =>
  split at hc
  ·rename_i r hr
   obtain⟨hd',h1,h2,h3,rfl,rfl⟩:=XN hc;subst hd';exact zr5 h1 h2 h3 hr hS hF h λS' env' l' a' e hS' hF' hK=>⟨S',env',hl l',.normal,rfl,e.down hb,hS',hF',rfl,hK⟩
  ·cases hc
 case seq=>split at hc<;>cases hc
 case cond=>split at hc<;>cases hc
 case block=>obtain⟨_,_,h⟩:=Ag.1 hc;cases h
 case loop=>obtain⟨_,_,h⟩:=Ag.1 hc;cases h
 case rangeFunc=>split at hc<;>cases hc
 case scope d=>exact absurd rfl (hs d)
def Ex.then(K:Env->A4->Prop)(Q:Ex->Env->A4->Prop):Ex->Env->A4->Prop
 |.normal,env,H=>K env H
 |x,env,H=>Q x env H
theorem DK{x y:AC}(h:T P n b x env H (Ex.then (λenv' H'=>T P n b y env' H' Q) Q)):T P n b (.seq x y) env H Q:=T_of λrd mm hrd code hc hs S a hb hS hF=>by
 cases code<;>simp only[Fy,reduceCtorEq,Aq] at hc
 case seq c d =>
  split at hc
  ·rename_i x' y' hx hy
   cases hc;refine wpIn_seq (wpIn_mono (h rd mm (zeh hrd).1 c hx S a hb hS hF) λe a' w' hh=>?_);obtain⟨S2,env2,H2,z,rfl,e2,hS2,hF2,rfl,hq⟩:=hh;cases z with
   |normal=>exact wpIn_mono (hq rd mm (zeh hrd).2 d hy S2 a' e2.n hS2 hF2) λ_ _ _ hh=>hh.trans e2
   |exit id=>exact⟨S2,env2,H2,.exit id,rfl,e2,hS2,hF2,rfl,hq⟩
   |ret=>exact⟨S2,env2,H2,.ret,rfl,e2,hS2,hF2,rfl,hq⟩
  ·cases hc
 case region=>exact absurd hc Eb
 case cond=>split at hc<;>cases hc
 case block=>obtain⟨_,_,h⟩:=Ag.1 hc;cases h
 case loop=>obtain⟨_,_,h⟩:=Ag.1 hc;cases h
 case rangeFunc=>split at hc<;>cases hc
 case scope d=>exact absurd rfl (hs d)
theorem zr9{c:AArg}{x y:AC}{q:Bool}(hc:c.eval env=.bool q)(ht:q=true->T P n b x env H Q)(hf:q=false->T P n b y env H Q):T P n b (.cond c x y) env H Q:=T_of λrd mm hrd code hcc hs S a hb hS hF=>by
 cases code<;>simp only[Fy,reduceCtorEq,Aq] at hcc
 case cond z p q' =>
  split at hcc
  ·rename_i z' p2 q2 hz hp hq
   cases hcc;have hv:=Tz hF hz;rw[hc] at hv;exact wpIn_cond_split (t:=q) hv (λhbb=>ht hbb rd mm (zeh hrd).1 p hp S a hb hS hF) (λhbb=>hf hbb rd mm (zeh hrd).2 q' hq S a hb hS hF)
  ·cases hcc
 case region=>exact absurd hcc Eb
 case seq=>split at hcc<;>cases hcc
 case block=>obtain⟨_,_,h⟩:=Ag.1 hcc;cases h
 case loop=>obtain⟨_,_,h⟩:=Ag.1 hcc;cases h
 case rangeFunc=>split at hcc<;>cases hcc
 case scope d=>exact absurd rfl (hs d)
def Ex.inBlock(id:Nat)(Q:Ex->Env->A4->Prop):Ex->Env->A4->Prop
 |.exit k,env,H=>if k=id then Q .normal env H else Q (.exit k) env H
 |x,env,H=>Q x env H
theorem zlq{id:Nat}{c:AC}(h:T P n b c env H (Ex.inBlock id Q)):T P n b (.block id c) env H Q:=T_of λrd mm hrd code hc hs S a hb hS hF=>by
 cases code<;>simp only[Fy,reduceCtorEq,Aq] at hc
 case block k d =>
  obtain⟨x,hx,hh⟩:=Ag.1 hc;cases hh;refine wpIn_block (wpIn_mono (h rd mm hrd d hx S a hb hS hF) λe a' w' hh=>?_);obtain⟨S2,env2,H2,z,h1,e2,hS2,hF2,rfl,hq⟩:=hh;cases z with
  |normal=>exact⟨S2,env2,H2,.normal,h1,e2,hS2,hF2,rfl,hq⟩
  |exit j =>
   simp only[Ex.up,Exit.inBlock];simp only[Ex.inBlock] at hq;split
   ·rename_i hj;rw[Ae hj] at hq;exact⟨S2,env2,H2,.normal,h1,e2,hS2,hF2,rfl,hq⟩
   ·rename_i hj;rw[Ad hj] at hq;exact⟨S2,env2,H2,.exit j,h1,e2,hS2,hF2,rfl,hq⟩
  |ret=>exact⟨S2,env2,H2,.ret,h1,e2,hS2,hF2,rfl,hq⟩
 case region=>exact absurd hc Eb
 case seq=>split at hc<;>cases hc
 case cond=>split at hc<;>cases hc
 case loop=>obtain⟨_,_,h⟩:=Ag.1 hc;cases h
 case rangeFunc=>split at hc<;>cases hc
 case scope d=>exact absurd rfl (hs d)
theorem zra{id:Nat}(h:Q (.exit id) env H):T P n b (.exit id) env H Q:=T_of λrd mm hrd code hc hs S a hb hS hF=>by
 cases code<;>simp only[Fy,reduceCtorEq,Aq] at hc
 case exit k=>cases hc;exact wpIn_exit ⟨S,env,H,.exit id,rfl,.refl hb,hS,hF,rfl,h⟩
 case region=>exact absurd hc Eb
 case seq=>split at hc<;>cases hc
 case cond=>split at hc<;>cases hc
 case block=>obtain⟨_,_,h⟩:=Ag.1 hc;cases h
 case loop=>obtain⟨_,_,h⟩:=Ag.1 hc;cases h
 case rangeFunc=>split at hc<;>cases hc
 case scope d=>exact absurd rfl (hs d)
theorem T_ret(h:Q .ret env H):T P n b .ret env H Q:=T_of λrd mm hrd code hc hs S a hb hS hF=>by
 cases code<;>simp only[Fy,reduceCtorEq,Aq] at hc
 case ret=>exact wpIn_ret ⟨S,env,H,.ret,rfl,.refl hb,hS,hF,rfl,h⟩
 case region=>exact absurd hc Eb
 case seq=>split at hc<;>cases hc
 case cond=>split at hc<;>cases hc
 case block=>obtain⟨_,_,h⟩:=Ag.1 hc;cases h
 case loop=>obtain⟨_,_,h⟩:=Ag.1 hc;cases h
 case rangeFunc=>split at hc<;>cases hc
 case scope d=>exact absurd rfl (hs d)
theorem zjv{σ:Type}(Inv:σ->Env->A4->Prop)(μ:σ->Nat){c:AC}(s0:σ)(h0:Inv s0 env H)
 (round:∀s env H,Inv s env H->T P n b c env H (Ex.then (λenv' H'=>∃s',Inv s' env' H'/\μ s'<μ s) Q)):T P n b (.loop c) env H Q:=T_of λrd mm hrd code hc hs S a hb hS hF=>by
 cases code<;>simp only[Fy,reduceCtorEq,Aq] at hc
 case loop d =>
  obtain⟨x,hx,hh⟩:=Ag.1 hc;cases hh;refine wpIn_loop_ghost (λk a w=>∃S' s env H,S'.w=w/\BEvo b S S'/\SRel S' H/\FRel S' n env a/\Inv s env H/\μ s=k) (μ s0) ⟨S,s0,env,H,rfl,.refl hb,hS,hF,h0,rfl⟩ ?_;rintro k a w ⟨S1,s,env1,H1,rfl,e1,hS1,hF1,hI,rfl⟩;refine wpIn_mono (round s env1 H1 hI rd mm hrd d hx S1 a e1.n hS1 hF1) λe a' w' hh=>?_;obtain⟨S2,env2,H2,z,rfl,e2,hS2,hF2,rfl,hq⟩:=hh;cases z with
  |normal =>
   obtain⟨s',h1,h2⟩:=hq;exact⟨μ s',h2,S2,s',env2,H2,rfl,e1.trans e2,hS2,hF2,h1,rfl⟩
  |exit id=>exact⟨S2,env2,H2,.exit id,rfl,e1.trans e2,hS2,hF2,rfl,hq⟩
  |ret=>exact⟨S2,env2,H2,.ret,rfl,e1.trans e2,hS2,hF2,rfl,hq⟩
 case region=>exact absurd hc Eb
 case seq=>split at hc<;>cases hc
 case cond=>split at hc<;>cases hc
 case block=>obtain⟨_,_,h⟩:=Ag.1 hc;cases h
 case rangeFunc=>split at hc<;>cases hc
 case scope d=>exact absurd rfl (hs d)
def resK(P:Program):List ARes->Env->A4->(List AV->Prop)->Prop
 |[],_,_,K=>K []
 |.slot t::l,env,H,K=>resK P l env H λxs=>K (env t::xs)
 |.cell t a s::l,env,H,K=>AI P (.load a s) H [env t] λx _=>resK P l env H λxs=>K (x::xs)
def resV:List AV->AV
 |[x]=>x
 |xs=>.tup xs
def Ret(P:Program)(res:List ARes)(K:AV->A4->Prop)(x:Ex)(env:Env)(H:A4):Prop :=
 (match x with|.exit _=>False|_=>True)/\resK P res env H λxs=>K (resV xs) H
def entry(xs:List AV):Env:=λi=>xs.getD i .any
theorem Vq{r:ResultVar}{t:Nat}(h:LI P n r=some (.slot t)):r=.tmp t/\t<n:=by
 cases r<;>simp only[LI] at h
 ·split at h
  ·rename_i hlt;cases h;exact⟨rfl,hlt⟩
  ·cases h
 ·split at h
  ·obtain⟨_,_,h⟩:=Ag.1 h;cases h
  ·cases h
theorem Vr{r:ResultVar}{t:Nat}{a:Bool}{s:Nat}(h:LI P n r=some (.cell t a s)):∃ty,r=.cell t ty/\t<n/\FR P ty=some (a,s):=by
 cases r<;>simp only[LI] at h
 ·split at h<;>cases h
 ·split at h
  ·rename_i hlt
   obtain⟨⟨a',s'⟩,h1,h2⟩:=Ag.1 h;cases h2;exact⟨_,rfl,hlt,h1⟩
  ·cases h
def RN(tmps:Array Value):ResultVar->Sem Value
 |.tmp t=>pure (tmps.getD t undef)
 |.cell ad t=>do loadVar t (<-asAddr (tmps.getD ad undef))
theorem KU{S:MS}{a:Act}(hS:SRel S H)(hF:FRel S n env a):∀{rs:List ResultVar}{l:List ARes}{K:List AV->Prop},rs.mapM (LI P n)=some l->resK P l env H K ->
 ∃vs xs,(rs.mapM (RN a.tmps)).run P S.w=.ok vs S.w/\AB S xs vs/\K xs
 |[],l,K,hm,h=>by
  simp at hm;subst hm;exact⟨[],[],rfl,rfl,h⟩
 |r::rs,l,K,hm,h=>by
  rw[Cb] at hm;simp only[Option.bind_eq_bind,BA,Option.pure_def,Aq] at hm;obtain⟨q,hq,l',hl',rfl⟩:=hm;cases q with
  |slot t =>
   obtain⟨rfl,ht⟩:=Vq hq;obtain⟨vs,xs,h1,h2,h3⟩:=KU hS hF hl' h;refine⟨_::vs,env t::xs,?_,⟨_,vs,rfl,hF.val t ht,h2⟩,h3⟩;have h0:(RN a.tmps (.tmp t)).run P S.w=.ok (a.tmps.getD t undef) S.w:=rfl;rw[Cb];simp only[Sem.run_bind,Sem.run_pure,Result.andThen_ok,h0,h1]
  |cell t ag s =>
   obtain⟨ty,rfl,ht,hs⟩:=Vr hq;have hv:=hF.val t ht;obtain⟨ad,u,z,hvv,hrun,hz,hK⟩:=Z1 hS ty hs hv h;obtain⟨vs,xs,h1,h2,h3⟩:=KU hS hF hl' hK;refine⟨u::vs,z::xs,?_,⟨u,vs,rfl,hz,h2⟩,h3⟩;have h0:(RN a.tmps (.cell t ty)).run P S.w=.ok u S.w:=by simp only[RN,hvv,asAddr,Sem.run_bind,Sem.run_pure,Result.andThen_ok,hrun]
   rw[Cb];simp only[Sem.run_bind,Sem.run_pure,Result.andThen_ok,h0,h1]
theorem zei{S:MS}{xs:List AV}{vs:List Value}(h:AB S xs vs):VRel S (resV xs) (if h:vs.toArray.size=1 then vs.toArray[0] else .tuple vs.toArray):=by
 match xs,vs,h with
 |[],[],_=>exact⟨[],rfl,rfl⟩
 |[x],[v],h=>exact h.inv1
 |x::y::xs,u::v::vs,h =>
  have hne:¬(u::v::vs).toArray.size=1:=oc
  rw[dif_neg hne];exact⟨_,rfl,h⟩
 |[],_::_,h=>have:=h.length;simp at this
 |[_],[],h=>have:=h.length;simp at this
 |[_],_::_::_,h=>have:=h.length;simp at this
 |_::_::_,[],h=>have:=h.length;simp at this
 |_::_::_,[_],h=>have:=h.length;simp at this
theorem LM {f np : Nat} {fn : AFn} (h : Bm P f np = some fn) : ∃ F c, P.funcs[f]? = some F ∧ F.body = some c ∧ F.ntmps = fn.n ∧ Fy P fn.n c = some fn.body ∧ F.results.toList.mapM (LI P fn.n) = some fn.res ∧ np ≤ fn.n ∧ F.name ≠ "runtime.NumGoroutine" := by
 unfold Bm at h;split at h
 ·rename_i F hF
  split at h
  ·rename_i c hc
   split at h
   ·rename_i b r hb hr
    split at h
    ·rename_i hcond
     cases h;simp only[Ac,Ah,bne_iff_ne] at hcond;exact⟨F,c,hF,hc,rfl,hb,hr,hcond.1,hcond.2⟩
    ·cases h
   ·cases h
  ·cases h
 ·cases h
theorem enters_of{f np:Nat}{fn:AFn}(h:Bm P f np=some fn):Enters P f:=by
 obtain ⟨F,c,hF,hc,_,_,_,_,hn⟩:=LM h;intro cargs w;have h1 : (F.name == "runtime.NumGoroutine") = false := by simpa using hn
 simp[callFunc,Sem.run_bind,run_program,hF,hn,hc]
theorem Evi.of{S S':MS}(hw:∀b,S.im b->S'.w.heap[b]? = S.w.heap[b]?)(hi:S'.im=S.im)(hn:S'.n=S.n)(hc:S'.cur=S.cur)(hp:S'.place=S.place)(hcap:S'.cap=S.cap)(hwid:S'.wid=S.wid):Evi S S' :=
 ⟨hw,λb h=>by rw[hi];exact h,by rw[hn];exact Ab _,λg _=>by rw[hc];exact Ab _,λg _ _=>by rw[hp,hcap,hwid];exact⟨rfl,rfl,rfl⟩⟩
theorem SRel.turn{S S':MS}{H:A4}(h:SRel S H)(hw:∀b,S.im b->S'.w.heap[b]? = S.w.heap[b]?)(hi:S'.im=S.im)(hn:S'.n=S.n)(hc:S'.cur=S.cur)(hp:S'.place=S.place)(hcap:S'.cap=S.cap)(hwid:S'.wid=S.wid)
 (hk:∀b,S'.keep b->S.keep b) (hg:∀b,¬(S.im b\/S.keep b)->b<S.w.heap.size->S'.w.heap[b]? = S.w.heap[b]?) (hsz:S.w.heap.size<=S'.w.heap.size):SRel S' H:=by
 have ev:=Evi.of hw hi hn hc hp hcap hwid;refine⟨hn.trans h.n,λg hgn=>?_,λg g' h1 h2 h3 h4 h5=>?_,λb hb=>?_⟩
 ·have hG:=h.grp g hgn
  have hni:¬(S.im (S.place g)\/S.keep (S.place g))->¬(S'.im (S'.place g)\/S'.keep (S'.place g)):=λhn hh=>by
   rw[hi,hp] at hh;exact hn (hh.imp id (hk _))
  refine⟨by rw[hc];exact hG.ver,by rw[hwid];exact hG.wid,λhw0 hc0=>?_,λhw0=>by rw[hcap];exact hG.len hw0,λhw0 he=>by rw[hcap];exact hG.full hw0 he,λhw0 he=>?_⟩
  ·rw[hcap] at hc0 ⊢
   obtain⟨⟨cells,T,vs,a1,a2,a3,a4⟩,a5⟩:=hG.live hw0 hc0;exact⟨⟨cells,T,vs,by rw[hp,hg _ a5 (hG.lt hw0 hc0)];exact a1,a2,AB.moni ev _ a3,a4⟩,hni a5⟩
  ·obtain⟨⟨o,a1,a0,a2⟩,a5⟩:=hG.mlive hw0 he
   exact⟨⟨o,by rw[hp,hg _ a5 (hG.mlt hw0 he)];exact a1,a0,AB.moni ev _ a2⟩,hni a5⟩
 ·rw[hp]
  rw[hcap] at h4 h5;exact h.apart g g' h1 h2 h3 h4 h5
 ·rw[hi] at hb
  exact AO (h.im b (hb.imp id (hk b))) hsz
def Kn(w:World)(Ds:List Nat):World:=Ds.foldl (λw D=>w.putObj D (.deferred none)) w
theorem ZG:∀(Ds:List Nat)(w:World),(Kn w Ds).os=w.os/\LB (Kn w Ds) w/\(Kn w Ds).output=w.output/\(Kn w Ds).heap.size=w.heap.size/\∀b,b∉Ds->(Kn w Ds).heap[b]? = w.heap[b]?
 |[],w=>⟨rfl,⟨rfl,Ab _⟩,rfl,rfl,λ_ _=>rfl⟩
 |D::Ds,w=>by
  obtain⟨h1,h2,h3,h4,h5⟩:=ZG Ds (w.putObj D (.deferred none));refine⟨h1,h2,h3,by rw[show Kn w (D::Ds)=Kn (w.putObj D (.deferred none)) Ds from rfl,h4];simp[World.putObj],λb hb=>?_⟩;simp only[Af,Ch] at hb;rw[show Kn w (D::Ds)=Kn (w.putObj D (.deferred none)) Ds from rfl,h5 b hb.2];exact World.putObj_heap_other hb.1
theorem Ko{F:Fence}{mm:Nat}{fn:Func}{tmps:Array Value}{R:Ending->World->Prop}:∀(Ds:List Nat)(w:World),Ds.Nodup->(∀D∈Ds,w.heap[D]? = some (.deferred (some []))) ->
 (∃v,(results fn tmps).run P (Kn w Ds)=.ok v (Kn w Ds)/\R (.returned v) (Kn w Ds))->LeavesInM F mm P fn tmps R (Ds.map mark) .returning w
 |[],w,_,_,h=>h
 |D::Ds,w,hn,hd,h=>by
  obtain⟨h1,h2⟩:=Cc.1 hn;refine⟨oc,.inl ⟨D,w.putObj D (.deferred none),rfl,run_takeDeferred (hd D oc),?_⟩⟩;exact Ko Ds _ h2 (λD' hD'=>by rw[World.putObj_heap_other (by rintro rfl;exact h1 hD')];exact hd D' (by simp[hD'])) h
theorem IK{f:Nat}{xs:List AV}{fn:AFn}(hf:Bm P f xs.length=some fn){K:AV->A4->Prop}(h:T P fn.n H.n fn.body (entry xs) H (Ret P fn.res K)):B9 P f xs H K:=by
 refine⟨enters_of hf,λS0 cargs hS0 hx0=>?_⟩;obtain⟨F,c,hF,hb,hn,hc,hr,hnp,_⟩:=LM hf;obtain⟨S,hSd⟩:∃S:MS,S={ S0 with base:=S0.w.heap.size }:=⟨_,rfl⟩;have hS:SRel S H:=by subst hSd;exact hS0.turn (λ_ _=>rfl) rfl rfl rfl rfl rfl rfl (λ_ h=>h) (λ_ _ _=>rfl) (Ab _)
 have ev0:Evi S0 S:=by subst hSd;exact Evi.of (λ_ _=>rfl) rfl rfl rfl rfl rfl rfl
 have hx:AB S xs cargs:=AB.moni ev0 _ hx0;have hw0:S.w=S0.w:=by rw[hSd]
 have hbase:S.base=S0.w.heap.size:=by rw[hSd]
 have hlen:=hx.length;refine callsIn_wide.1 (callsIn_of_wp_marks (F:=Fence.wide) (n:=0) hF hb trivial ?_)
 have hfr:FRel S fn.n (entry xs) { tmps:=cargs.toArray++Array.replicate (F.ntmps-cargs.toArray.size) undef,defers:=[] }:=by
  refine⟨by simp;omega,Marks.nil (by rw[hbase,hw0];exact Ab _),λi hi=>?_⟩;by_cases hlt:i<xs.length
  ·obtain⟨v,hv,hr⟩:=hx.get (Ar hlt)
   have e1:entry xs i=xs[i]:=by simp[entry,List.getD,Ar hlt]
   have e2:(cargs.toArray++Array.replicate (F.ntmps-cargs.toArray.size) undef).getD i undef=v:=by
    rw[Eo,B2 (by simp;omega)];simp[hv]
   rw[e1,e2];exact hr
  ·have e1:entry xs i=.any:=by simp[entry,List.getD,BE (G9 hlt)]
   rw[e1];trivial
 rw[<-hw0];refine wpIn_mono (h none 0 (.inr rfl) c hc S _ (by rw[hS.n];exact Ab _) hS hfr) λe a w' hh=>?_;obtain⟨S2,env2,H2,z,rfl,e2,hS2,hF2,rfl,hq,hres⟩:=hh
 have fin:LeavesInM Fence.wide 0 P F a.tmps (λe w'=>∃v S' x H',e=.returned v/\S'.w=w'/\Evo S0 S'/\SRel S' H'/\VRel S' x v/\K x H') a.defers .returning S2.w:=by
  obtain⟨_,Ds,hds,hnd,hD⟩:=hF2.defers;rw[hds];obtain⟨t1,t2,t3,t4,t5⟩:=ZG Ds S2.w;refine Ko Ds S2.w hnd (λD hd=>(hD D hd).2.2.2) ?_;have hki:∀b,S2.im b->b∉Ds:=λb hb hd=>(hD b hd).2.2.1 hb
  have hold:∀b,b<S0.w.heap.size->b∉Ds:=λb hb hd=>by
   have:=(hD b hd).1;rw[e2.base,hbase] at this;omega
  obtain⟨S',hS'd⟩:∃S':MS,S'={ S2 with w:=Kn S2.w Ds,keep:=S0.keep,base:=S0.base }:=⟨_,rfl⟩;have hkk:∀b,S0.keep b->S2.keep b:=λb hb=>e2.keep b (by rw[hSd];exact hb);have ev:Evi S2 S':=by subst hS'd;exact Evi.of (λb hb=>t5 b (hki b hb)) rfl rfl rfl rfl rfl rfl
  have hS':SRel S' H2:=by
   subst hS'd;exact hS2.turn (λb hb=>t5 b (hki b hb)) rfl rfl rfl rfl rfl rfl hkk (λb hb _=>t5 b λhd=>hb (.inr (hD b hd).2.1)) (Ef t4.symm)
  obtain⟨S9,hS9d⟩:∃S9:MS,S9={ S' with base:=0 }:=⟨_,rfl⟩;have ev9:Evi S' S9:=by subst hS9d;exact Evi.of (λ_ _=>rfl) rfl rfl rfl rfl rfl rfl
  have ev9':Evi S9 S':=by subst hS9d;exact Evi.of (λ_ _=>rfl) rfl rfl rfl rfl rfl rfl
  have hS9:SRel S9 H2:=by subst hS9d;exact hS'.turn (λ_ _=>rfl) rfl rfl rfl rfl rfl rfl (λ_ h=>h) (λ_ _ _=>rfl) (Ab _)
  have hw9:S9.w=S'.w:=by rw[hS9d]
  have hF':FRel S9 fn.n env2 { tmps:=a.tmps,defers:=[] }:=⟨hF2.size,Marks.nil (by rw[hS9d];exact Ap _),λi hi=>VRel.moni ev9 _ (VRel.moni ev _ (hF2.val i hi))⟩
  have hevo:Evo S0 S':=by
   have hk0:∀b,S0.im b\/S0.keep b->S2.w.heap[b]? = S0.w.heap[b]? := λb hb=>by
    have:=e2.kept b (by rw[hSd];exact hb);rw[hw0] at this;exact this
   have hu:=e2.size;have hcur:=λg (hg:g<H.n)=>e2.cur g hg;have hsame:=λg (hg:g<H.n)=>e2.same g hg;have q1:=e2.os;have q2:=e2.tape;have q3:=e2.output;have q4:=e2.n;have q5:=e2.im;have q6:=e2.fresh;subst hS'd hSd;refine⟨rfl,t1.trans q1,t2.trans q2,t3.trans q3,by show _<=(Kn S2.w Ds).heap.size;rw[t4];exact hu,λb hb=>?_,λb hb=>q5 b hb,λb hb=>hb,λb hb=>q6 b hb,by show S0.n<=S2.n;rw[hS0.n];exact q4,λg hg=>hcur g (by rw[<-hS0.n];exact hg),λg hg hh=>hsame g (by rw[<-hS0.n];exact hg) hh⟩;show (Kn S2.w Ds).heap[b]? = _;rw[t5 b (hold b (hS0.im b hb))];exact hk0 b hb
  obtain⟨vs,ys,h1,h2,h3⟩:=KU hS9 hF' hr hres;rw[hw9] at h1;replace h2:=AB.moni ev9' _ h2;have hw':S'.w=Kn S2.w Ds:=by rw[hS'd]
  rw[<-hw'];refine⟨_,?_,_,S',_,H2,rfl,rfl,hevo,hS',zei h2,h3⟩
  have e:results F a.tmps=(do let vs <-F.results.mapM (RN a.tmps);pure (if h:vs.size=1 then vs[0] else .tuple vs)):=by
   unfold results;congr
  rw[e,EF];simp only[Sem.run_bind,Sem.run_map,h1,Result.andThen_ok,Sem.run_pure]
 cases z with
 |normal=>exact fin
 |exit id=>exact hq.elim
 |ret=>exact fin
end
mutual
def AV.flat:AV->Bool
 |.ref ..|.ptr ..|.map ..|.lst ..|.full ..|.cptr _=>false
 |.agg cs|.tup cs|.fn _ cs=>z7m cs
 |.any|.bool _|.int ..|.str _|.nilS|.nul|.emp|.nilP|.nilF|.yld _=>true
def z7m:List AV->Bool
 |[]=>true
 |x::xs=>x.flat&&z7m xs
end
mutual
theorem VRel.of_flat{S S':MS}:∀{x:AV}{v:Value},x.flat=true->VRel S x v->VRel S' x v
 |.any,_,_,_=>trivial
 |.bool _,_,_,h=>h
 |.int _ _,_,_,h=>h
 |.str _,_,_,h=>h
 |.nilS,_,_,h=>h
 |.nul,_,_,h=>h
 |.emp,_,_,h=>h
 |.nilP,_,_,h=>h
 |.nilF,_,_,h=>h
 |.yld _,_,_,h=>h
 |.agg _,_,hf,h=>let ⟨vs,hv,hr⟩:=h;⟨vs,hv,AB.of_flat (by simpa [AV.flat] using hf) hr⟩
 |.tup _,_,hf,h=>let ⟨vs,hv,hr⟩:=h;⟨vs,hv,AB.of_flat (by simpa [AV.flat] using hf) hr⟩
 |.fn _ _,_,hf,h=>let ⟨vs,hv,hr⟩:=h;⟨vs,hv,AB.of_flat (by simpa [AV.flat] using hf) hr⟩
 |.ref ..,_,hf,_=>by simp[AV.flat] at hf
 |.ptr ..,_,hf,_=>by simp[AV.flat] at hf
 |.lst ..,_,hf,_=>by simp[AV.flat] at hf
 |.full ..,_,hf,_=>by simp[AV.flat] at hf
 |.map ..,_,hf,_=>by simp[AV.flat] at hf
 |.cptr _,_,hf,_=>by simp[AV.flat] at hf
theorem AB.of_flat{S S':MS}:∀{xs:List AV}{vs:List Value},z7m xs=true->AB S xs vs->AB S' xs vs
 |[],_,_,h=>h
 |x::xs,vs,hf,h=>by
  obtain⟨v,r,hv,h1,h2⟩:=h;simp only[z7m,Ac] at hf;exact⟨v,r,hv,VRel.of_flat hf.1 h1,AB.of_flat hf.2 h2⟩
end
mutual
theorem VRel.of_pure{S S':MS}(hw:S'.w=S.w)(hi:∀b,S.im b->S'.im b):∀{x:AV}{v:Value},x.pure=true->VRel S x v->VRel S' x v
 |.any,_,_,_=>trivial
 |.bool _,_,_,h=>h
 |.int _ _,_,_,h=>h
 |.str _,_,_,h=>h
 |.nilS,_,_,h=>h
 |.nul,_,_,h=>h
 |.emp,_,_,h=>h
 |.nilP,_,_,h=>h
 |.nilF,_,_,h=>h
 |.yld _,_,_,h=>h
 |.agg _,_,hf,h=>let ⟨vs,hv,hr⟩:=h;⟨vs,hv,AB.of_pure hw hi (by simpa [AV.pure] using hf) hr⟩
 |.tup _,_,hf,h=>let ⟨vs,hv,hr⟩:=h;⟨vs,hv,AB.of_pure hw hi (by simpa [AV.pure] using hf) hr⟩
 |.fn _ _,_,hf,h=>let ⟨vs,hv,hr⟩:=h;⟨vs,hv,AB.of_pure hw hi (by simpa [AV.pure] using hf) hr⟩
 |.ref ..,_,hf,_=>by simp[AV.pure] at hf
 |.ptr ..,_,hf,_=>by simp[AV.pure] at hf
 |.map ..,_,hf,_=>by simp[AV.pure] at hf
 |.lst wd xs,v,_,h=>by
  obtain⟨hp,h0,a,cap,vs,hv,hc,hl,hr⟩:=h;exact⟨hp,h0,a,cap,vs,hv,hc,AB.of_pure hw hi hp hl,λhne=>let ⟨b,o,ha,him,hrow⟩:=hr hne;⟨b,o,ha,hi b him,by rw[hw];exact hrow⟩⟩
 |.full wd xs,v,_,h=>by
  obtain⟨hp,h0,a,vs,hv,hc,hl,hr⟩:=h;exact⟨hp,h0,a,vs,hv,hc,AB.of_pure hw hi hp hl,λhne=>let ⟨b,o,ha,him,hrow⟩:=hr hne;⟨b,o,ha,hi b him,by rw[hw];exact hrow⟩⟩
 |.cptr x,v,_,h=>by
  obtain⟨hp,b,o,u,hv,him,hx,hl⟩:=h;exact⟨hp,b,o,u,hv,hi b him,VRel.of_pure hw hi hp hx,by rw[hw];exact hl⟩
theorem AB.of_pure{S S':MS}(hw:S'.w=S.w)(hi:∀b,S.im b->S'.im b):∀{xs:List AV}{vs:List Value},AJ xs=true->AB S xs vs->AB S' xs vs
 |[],_,_,h=>h
 |x::xs,vs,hf,h=>by
  obtain⟨v,r,hv,h1,h2⟩:=h;simp only[AJ,Ac] at hf;exact⟨v,r,hv,VRel.of_pure hw hi hf.1 h1,AB.of_pure hw hi hf.2 h2⟩
end
mutual
theorem VRel.lift{S S':MS}(h0:S.n=0)(hw:S'.w=S.w)(hi:∀b,S.im b->S'.im b):∀{x:AV}{v:Value},VRel S x v->VRel S' x v
 |.any,_,_=>trivial
 |.bool _,_,h=>h
 |.int _ _,_,h=>h
 |.str _,_,h=>h
 |.nilS,_,h=>h
 |.nul,_,h=>h
 |.emp,_,h=>h
 |.nilP,_,h=>h
 |.nilF,_,h=>h
 |.yld _,_,h=>h
 |.agg _,_,h=>let ⟨vs,hv,hr⟩:=h;⟨vs,hv,AB.lift h0 hw hi hr⟩
 |.tup _,_,h=>let ⟨vs,hv,hr⟩:=h;⟨vs,hv,AB.lift h0 hw hi hr⟩
 |.fn _ _,_,h=>let ⟨vs,hv,hr⟩:=h;⟨vs,hv,AB.lift h0 hw hi hr⟩
 |.ref ..,_,h=>by obtain⟨_,hg,_⟩:=h;omega
 |.ptr ..,_,h=>by obtain⟨_,hg,_⟩:=h;omega
 |.map ..,_,h=>by obtain⟨_,hg,_⟩:=h;omega
 |.lst wd xs,v,h=>by
  obtain⟨hp,hz,a,cap,vs,hv,hc,hl,hr⟩:=h;exact⟨hp,hz,a,cap,vs,hv,hc,AB.lift h0 hw hi hl,λhne=>let ⟨b,o,ha,him,hrow⟩:=hr hne;⟨b,o,ha,hi b him,by rw[hw];exact hrow⟩⟩
 |.full wd xs,v,h=>by
  obtain⟨hp,hz,a,vs,hv,hc,hl,hr⟩:=h;exact⟨hp,hz,a,vs,hv,hc,AB.lift h0 hw hi hl,λhne=>let ⟨b,o,ha,him,hrow⟩:=hr hne;⟨b,o,ha,hi b him,by rw[hw];exact hrow⟩⟩
 |.cptr x,v,h=>by
  obtain⟨hp,b,o,u,hv,him,hx,hl⟩:=h;exact⟨hp,b,o,u,hv,hi b him,VRel.lift h0 hw hi hx,by rw[hw];exact hl⟩
theorem AB.lift{S S':MS}(h0:S.n=0)(hw:S'.w=S.w)(hi:∀b,S.im b->S'.im b):∀{xs:List AV}{vs:List Value},AB S xs vs->AB S' xs vs
 |[],_,h=>h
 |x::xs,vs,h=>by
  obtain⟨v,r,hv,h1,h2⟩:=h;exact⟨v,r,hv,VRel.lift h0 hw hi h1,AB.lift h0 hw hi h2⟩
end
def frzV:Nat->A4->AV->AV
 |d+1,H,.ref g _ off len=>.lst (H.at_ g).w ((((H.at_ g).xs.drop off).take len).map (frzV d H))
 |d+1,H,.ptr g _ i o=>if o=0 then .cptr (frzV d H ((H.at_ g).xs.getD i .any)) else .any
 |d+1,H,.agg cs=>.agg (cs.map (frzV d H))
 |d+1,H,.tup cs=>.tup (cs.map (frzV d H))
 |d+1,H,.fn f cs=>.fn f (cs.map (frzV d H))
 |_,_,x=>x
def DX:Nat->A4->AV->Prop
 |d+1,H,.ref g v off len=>(H.at_ g).ver=v/\0<(H.at_ g).w/\off+len<=(H.at_ g).xs.length/\∀y∈((H.at_ g).xs.drop off).take len,DX d H y
 |d+1,H,.ptr g v i o=>(H.at_ g).ver=v/\i<(H.at_ g).xs.length/\0<(H.at_ g).w/\o=0/\DX d H ((H.at_ g).xs.getD i .any)
 |d+1,H,.agg cs=>∀y∈cs,DX d H y
 |d+1,H,.tup cs=>∀y∈cs,DX d H y
 |d+1,H,.fn _ cs=>∀y∈cs,DX d H y
 |_,_,x=>x.pure=true
theorem Bz:∀{xs:List AV},AJ xs=true↔∀x∈xs,x.pure=true
 |[]=>by simp[AJ]
 |x::xs=>by simp[AJ,Bz]
theorem M1(H:A4):∀(d:Nat){x:AV},x.pure=true->DX d H x/\frzV d H x=x
 |0,x,h=>by cases x<;>exact⟨h,rfl⟩
 |d+1,x,h=>by
  have key:∀cs:List AV,AJ cs=true->(∀y∈cs,DX d H y)/\cs.map (frzV d H)=cs:=λcs hc=>by
   refine⟨λy hy=>(M1 H d (Bz.1 hc y hy)).1,?_⟩;have:cs.map (frzV d H)=cs.map id:=A6 λy hy=>(M1 H d (Bz.1 hc y hy)).2;simpa using this
  cases x with
  |ref=>simp[AV.pure] at h
  |ptr=>simp[AV.pure] at h
  |map=>simp[AV.pure] at h
  |agg cs=>obtain⟨k1,k2⟩:=key cs (by simpa [AV.pure] using h);exact⟨k1,by simp only[frzV,k2]⟩
  |tup cs=>obtain⟨k1,k2⟩:=key cs (by simpa [AV.pure] using h);exact⟨k1,by simp only[frzV,k2]⟩
  |fn f cs=>obtain⟨k1,k2⟩:=key cs (by simpa [AV.pure] using h);exact⟨k1,by simp only[frzV,k2]⟩
  |_=>exact⟨h,rfl⟩
theorem HH(H:A4)(d:Nat){xs:List AV}(h:AJ xs=true):(∀y∈xs,DX d H y)/\xs.map (frzV d H)=xs:=by
 refine⟨λy hy=>(M1 H d (Bz.1 h y hy)).1,?_⟩;have:xs.map (frzV d H)=xs.map id:=A6 λy hy=>(M1 H d (Bz.1 h y hy)).2;simpa using this
def MS.shut(S:MS)(H:A4):MS:={ S with n:=0,im:=λb=>S.im b\/∃g,g<H.n/\0<(H.at_ g).w/\0<S.cap g/\b=S.place g,keep:=λb=>S.keep b\/∃g,g<H.n/\(H.at_ g).w=0/\(H.at_ g).exact=true/\b=S.place g }
theorem ZH{S:MS}{H:A4}(h:SRel S H):SRel (S.shut H) A4.nil where
 n:=rfl
 grp g hg:=absurd hg (AZ _)
 apart g _ hg:=absurd hg (AZ _)
 im b hb:=by
  rcases hb with (hb|⟨g,hg,hw,hc,rfl⟩)|(hb|⟨g,hg,hw,he,rfl⟩)
  ·exact h.im b (.inl hb)
  ·exact (h.grp g hg).lt hw hc
  ·exact h.im b (.inr hb)
  ·exact (h.grp g hg).mlt hw he
theorem zej{S0 S:MS}{H:A4}(e:Evo S0 S)(h0:S0.n=0)(h:SRel S H):Evo S0 (S.shut H) where
 base:=e.base
 os:=e.os
 tape:=e.tape
 output:=e.output
 size:=e.size
 kept:=e.kept
 im b hb:=.inl (e.im b hb)
 keep b hb:=.inl (e.keep b hb)
 fresh b hb:=by
  rcases hb with hb|⟨g,hg,hw,hc,rfl⟩
  ·exact e.fresh b hb
  ·exact .inr λhk=>((h.grp g hg).live hw hc).2 (.inr (e.keep _ hk))
 n:=by rw[h0];exact Ab _
 cur g hg:=om
 same g hg:=om
theorem Vs{S:MS}{H:A4}(h:SRel S H):∀(d:Nat){x:AV}{v:Value},DX d H x->VRel S x v->VRel (S.shut H) (frzV d H x) v/\(frzV d H x).pure=true
 |0,x,v,hf,hv=>by
  have hp:x.pure=true:=by cases x<;>exact hf
  have he:frzV 0 H x=x:=by cases x<;>rfl
  rw[he];exact⟨VRel.of_pure (S:=S) (S':=S.shut H) rfl (λ_ hb=>.inl hb) hp hv,hp⟩
 |d+1,x,v,hf,hv=>by
  have keyL:∀{cs:List AV}{vs:List Value},(∀y∈cs,DX d H y)->AB S cs vs->AB (S.shut H) (cs.map (frzV d H)) vs/\AJ (cs.map (frzV d H))=true:=by
   intro cs
   induction cs with
   |nil=>intro vs _ hh;exact⟨hh,rfl⟩
   |cons c cs ih =>
    intro vs hc hh;obtain⟨u,r,rfl,h1,h2⟩:=hh;obtain⟨k1,k2⟩:=Vs h d (hc c oc) h1;obtain⟨k3,k4⟩:=ih (λy hy=>hc y (by simp[hy])) h2;exact⟨⟨u,r,rfl,k1,k3⟩,by simp[AJ,k2,k4]⟩
  cases x with
  |ref g vn off len =>
   obtain⟨h1,h2,h3,h4⟩:=hf;obtain⟨_,hg,hc,hp⟩:=hv;have hG:=h.live_of hg;obtain⟨a,cap',rfl,hcase⟩:=hp (by rw[hG.ver,h1]);have hl:((((H.at_ g).xs.drop off).take len).map (frzV d H)).length=len:=by simp;omega
   have hnone:a=none->cap'=0:=λhn=>by
    rcases hcase with⟨rfl,_⟩|⟨_,hh,_⟩
    ·cases hn
    ·exact hh
   by_cases hc0:S.cap g=0
   ·have hlen:=hG.len h2
    have hnil:((H.at_ g).xs.drop off).take len=[]:=Az (by simp;omega);simp only[frzV,hnil,AX] at hl ⊢;exact⟨⟨rfl,h2,a,cap',[],by rw[<-hl],⟨Ap _,hnone⟩,rfl,λhne=>absurd rfl hne⟩,rfl⟩
   obtain⟨⟨cells,TT,us,hb,hcs,hus,hfl⟩,_⟩:=hG.live h2 om;obtain⟨k1,k2⟩:=keyL h4 ((hus.drop off).take len);refine⟨⟨k2,h2,a,cap',_,by rw[hl],⟨?_,hnone⟩,k1,λhne=>?_⟩,k2⟩
   ·rw[hl];rcases hcase with⟨_,c2,c3⟩|⟨c1,c2,_⟩<;>omega
   ·rcases hcase with⟨rfl,_,_⟩|⟨c1,_,_⟩
    ·refine⟨_,_,rfl,.inr ⟨g,by rw[<-h.n];exact hg,h2,om,rfl⟩,λj u hu=>?_⟩
     rw[Cq] at hu;split at hu
     ·rw[Cf] at hu
      have:=hfl.row hb (off+j) u hu;rw[AY,AS] at this;rw[hG.wid];exact this
     ·cases hu
    ·exact absurd (Az (by rw[hl];exact c1)) hne
  |ptr g vn i o =>
   obtain⟨h1,h2,h3,h4,h5⟩:=hf;subst h4;obtain⟨_,hg,hc,hp⟩:=hv;have hG:=h.live_of hg;obtain rfl:v=_:=hp (by rw[hG.ver,h1]);obtain⟨u,hu,hl⟩:=hG.elem h3 h2;obtain⟨k1,k2⟩:=Vs h d h5 hu;refine⟨?_,?_⟩
   ·simp only[frzV,Br]
    refine⟨k2,S.place g,i * (H.at_ g).w,u,?_,.inr ⟨g,by rw[<-h.n];exact hg,h3,by have:=hG.len h3;omega,rfl⟩,k1,?_⟩
    ·rw[hG.wid];rfl
    ·rw[hl.1];exact hl
   ·simp only[frzV,Br,AV.pure];exact k2
  |agg cs=>obtain⟨vs,rfl,hr⟩:=hv;obtain⟨k1,k2⟩:=keyL hf hr;exact⟨⟨vs,rfl,k1⟩,by simpa [frzV,AV.pure] using k2⟩
  |tup cs=>obtain⟨vs,rfl,hr⟩:=hv;obtain⟨k1,k2⟩:=keyL hf hr;exact⟨⟨vs,rfl,k1⟩,by simpa [frzV,AV.pure] using k2⟩
  |fn f cs=>obtain⟨vs,rfl,hr⟩:=hv;obtain⟨k1,k2⟩:=keyL hf hr;exact⟨⟨vs,rfl,k1⟩,by simpa [frzV,AV.pure] using k2⟩
  |any=>exact⟨oy,rfl⟩
  |bool b=>exact⟨hv,rfl⟩
  |int k n=>exact⟨hv,rfl⟩
  |str s=>exact⟨hv,rfl⟩
  |nilS=>exact⟨hv,rfl⟩
  |nul=>exact⟨hv,rfl⟩
  |emp=>exact⟨hv,rfl⟩
  |nilP=>exact⟨hv,rfl⟩
  |nilF=>exact⟨hv,rfl⟩
  |yld l=>exact⟨hv,rfl⟩
  |full w xs=>exact⟨VRel.of_pure (S:=S) (S':=S.shut H) rfl (λ_ hb=>.inl hb) hf hv,hf⟩
  |map g v=>simp[DX,AV.pure] at hf
  |lst w xs=>exact⟨VRel.of_pure (S:=S) (S':=S.shut H) rfl (λ_ hb=>.inl hb) hf hv,hf⟩
  |cptr x=>exact⟨VRel.of_pure (S:=S) (S':=S.shut H) rfl (λ_ hb=>.inl hb) hf hv,hf⟩
theorem z7n{S:MS}{H:A4}(h:SRel S H)(d:Nat):∀{xs:List AV}{vs:List Value},(∀y∈xs,DX d H y)->AB S xs vs->AB (S.shut H) (xs.map (frzV d H)) vs
 |[],_,_,hh=>hh
 |x::xs,vs,hc,hh=>by
  obtain⟨u,r,rfl,h1,h2⟩:=hh;exact⟨u,r,rfl,(Vs h d (hc x oc) h1).1,z7n h d (λy hy=>hc y (by simp[hy])) h2⟩
def PC(P:Program)(f:Nat)(xs:List AV)(y:AV):Prop:=B9 P f xs A4.nil λz H=>z=y/\H=A4.nil
section
variable {P:Program}{H:A4}
def AV.le(x y:AV):Prop:=∀(S:MS)(v:Value),VRel S x v->VRel S y v
def leL(xs ys:List AV):Prop:=∀(S:MS)(vs:List Value),AB S xs vs->AB S ys vs
theorem AV.le_refl(x:AV):AV.le x x:=λ_ _ h=>h
theorem AV.le_of_eq{x y:AV}(h:x=y):AV.le x y:=h ▸ AV.le_refl x
theorem AV.le_trans{x y z:AV}(h:AV.le x y)(k:AV.le y z):AV.le x z:=λS v hv=>k S v (h S v hv)
theorem Hy:leL [] []:=λ_ _ h=>h
theorem BY{x y:AV}{xs ys:List AV}(h:AV.le x y)(k:leL xs ys):leL (x::xs) (y::ys):=λS _ ⟨v,r,hv,h1,h2⟩=>⟨v,r,hv,h S v h1,k S r h2⟩
theorem AV.le_nilS{w:Nat}(hw:0<w):AV.le .nilS (.lst w []):=λ_ v h=>⟨rfl,hw,none,0,[],h,⟨Ab 0,λ_=>rfl⟩,rfl,λhn=>absurd rfl hn⟩
theorem AV.le_nul{w:Nat}(hw:0<w):AV.le .nul (.lst w []):=λ_ v ⟨a,h⟩=>⟨rfl,hw,a,0,[],h,⟨Ab 0,λ_=>rfl⟩,rfl,λhn=>absurd rfl hn⟩
theorem AV.le_emp{w:Nat}(hw:0<w):AV.le .emp (.lst w []):=λ_ v ⟨a,cap,h⟩=>⟨rfl,hw,some a,cap,[],h,⟨Ap _,λhn=>by cases hn⟩,rfl,λhn=>absurd rfl hn⟩
theorem AV.le_agg{xs ys:List AV}(h:leL xs ys):AV.le (.agg xs) (.agg ys):=λS _ ⟨vs,hv,k⟩=>⟨vs,hv,h S vs k⟩
theorem AV.le_lst{w:Nat}{xs ys:List AV}(hl:xs.length=ys.length)(hp:AJ ys=true)(h:leL xs ys):AV.le (.lst w xs) (.lst w ys):=λS v ⟨_,hw,a,cap,vs,hv,hc,hx,hr⟩ =>
 ⟨hp,hw,a,cap,vs,by rw[<-hl];exact hv,by rw[<-hl];exact hc,h S vs hx,λhn=>hr (λhh=>hn (Az (by rw[<-hl,hh];rfl)))⟩
theorem Jl{f:Nat}{xs ys:List AV}{K:AV->A4->Prop}(h:leL xs ys)(k:B9 P f ys H K):B9 P f xs H K:=⟨k.1,λS cargs hS hx=>k.2 S cargs hS (h S cargs hx)⟩
theorem pc_le{f:Nat}{xs:List AV}{y:AV}(d:Nat)(h:B9 P f xs A4.nil λz H=>DX d H z/\AV.le (frzV d H z) y):PC P f xs y:=by
 refine⟨h.1,λS cargs hS hx=>(h.2 S cargs hS hx).mono λe w' hh=>?_⟩;obtain⟨v,S',x,H',rfl,rfl,ev,hS',hv,h1,h2⟩:=hh;obtain⟨k1,_⟩:=Vs hS' d h1 hv;exact⟨v,S'.shut H',y,A4.nil,rfl,rfl,zej ev hS.n hS',ZH hS',h2 _ _ k1,rfl,rfl⟩
theorem z7o{f:Nat}{xs ys:List AV}{y:AV}(h:PC P f ys y)(d:Nat)(hok:∀x∈xs,DX d H x)(hys:xs.map (frzV d H)=ys)(hy:y.flat=true\/AJ xs=true):B9 P f xs H λz H'=>z=y/\H'=H:=by
 refine⟨h.1,λS cargs hS hx=>?_⟩;by_cases hp:AJ xs=true
 ·have hys':ys=xs:=by rw[<-hys];exact (HH H d hp).2
  subst hys'
  let S1:MS:={ S with n:=0,keep:=λb=>S.keep b\/∃g,g<H.n/\(H.at_ g).has (S.cap g)/\b=S.place g }
  have hS1:SRel S1 A4.nil:=by
   refine⟨rfl,λg hg=>absurd hg (AZ _),λg _ hg=>absurd hg (AZ _),λb hb=>?_⟩;rcases hb with hb|hb|⟨g,hg,hh,rfl⟩
   ·exact hS.im b (.inl hb)
   ·exact hS.im b (.inr hb)
   ·exact (hS.grp g hg).has_lt hh
  refine (h.2 S1 cargs hS1 (AB.of_pure (S:=S) (S':=S1) rfl (λ_ hb=>hb) hp hx)).mono λe w' hh=>?_;obtain⟨v,S2,x,H',rfl,rfl,ev,hS2,hv,rfl,rfl⟩:=hh
  let S':MS:={ S with w:=S2.w,im:=S2.im }
  have ev':Evo S S':=by
   refine⟨rfl,ev.os,ev.tape,ev.output,ev.size,λb hb=>ev.kept b (hb.imp id .inl),ev.im,λ_ hb=>hb,λb hb=>?_,Ab _,λ_ _=>Ab _,λ_ _ _=>⟨rfl,rfl,rfl⟩⟩;exact (ev.fresh b hb).imp id (λhn hk=>hn (.inl hk))
  refine⟨v,S',x,H,rfl,rfl,ev',?_,VRel.lift (S:=S2) (S':=S') hS2.n rfl (λ_ hb=>hb) hv,rfl,rfl⟩;refine⟨hS.n,λg hg=>?_,hS.apart,λb hb=>?_⟩
  ·refine (hS.grp g hg).mono' ev' (by rw[hS.n];exact hg) rfl (λhq=>ev.kept _ (.inr (.inr ⟨g,hg,hq,rfl⟩))) (λhq hh=>?_)
   have hni:=(hS.grp g hg).has_ni hq;rcases hh with hh|hh
   ·rcases ev.fresh _ hh with h1|h1
    ·exact hni (.inl h1)
    ·exact h1 (.inr ⟨g,hg,hq,rfl⟩)
   ·exact hni (.inr hh)
  ·rcases hb with hb|hb
   ·exact hS2.im b (.inl hb)
   ·have h1:=hS.im b (.inr hb)
    have h2:S.w.heap.size<=S2.w.heap.size:=ev.size;exact AO h1 h2
 ·have hfl:y.flat=true:=hy.resolve_right hp
  have hx1:=z7n hS d hok hx;rw[hys] at hx1;refine (h.2 (S.shut H) cargs (ZH hS) hx1).mono λe w' hh=>?_;obtain⟨v,S2,x,H',rfl,rfl,ev,hS2,hv,rfl,rfl⟩:=hh
  let S':MS:={ S with w:=S2.w }
  have ev':Evo S S':=⟨rfl,ev.os,ev.tape,ev.output,ev.size,λb hb=>ev.kept b (hb.imp .inl .inl),λ_ hb=>hb,λ_ hb=>hb,λ_ hb=>.inl hb,Ab _,λ_ _=>Ab _,λ_ _ _=>⟨rfl,rfl,rfl⟩⟩;refine⟨v,S',x,H,rfl,rfl,ev',?_,VRel.of_flat hfl hv,rfl,rfl⟩;refine⟨hS.n,λg hg=>?_,hS.apart,λb hb=>?_⟩
  ·refine (hS.grp g hg).mono' ev' (by rw[hS.n];exact hg) rfl (λhq=>?_) (λhq=>(hS.grp g hg).has_ni hq)
   rcases hq with⟨hw,hc⟩|⟨hw,he⟩
   ·exact ev.kept _ (.inl (.inr ⟨g,hg,hw,hc,rfl⟩))
   ·exact ev.kept _ (.inr (.inr ⟨g,hg,hw,he,rfl⟩))
  ·have h1:=hS.im b hb
   have h2:S.w.heap.size<=S2.w.heap.size:=ev.size;exact AO h1 h2
theorem JK{f:Nat}{xs:List AV}{y:AV}(h:PC P f xs y)(hp:AJ xs=true){K:AV->A4->Prop}(hK:K y H):B9 P f xs H K :=
 (z7o h 0 (HH H 0 hp).1 (HH H 0 hp).2 (.inr hp)).mono λ_ _ ⟨h1,h2⟩=>by rw[h1,h2];exact hK
theorem z7p{f:Nat}{xs ys:List AV}{y:AV}(h:PC P f ys y)(d:Nat)(hok:∀x∈xs,DX d H x)(hys:xs.map (frzV d H)=ys)(hy:y.flat=true){K:AV->A4->Prop}(hK:K y H):B9 P f xs H K :=
 (z7o h d hok hys (.inl hy)).mono λ_ _ ⟨h1,h2⟩=>by rw[h1,h2];exact hK
theorem pc{f:Nat}{xs:List AV}{y:AV}{fn:AFn}(hf:Bm P f xs.length=some fn)(d:Nat)(h:T P fn.n 0 fn.body (entry xs) A4.nil (Ret P fn.res λz H=>DX d H z/\AV.le (frzV d H z) y)):PC P f xs y :=
 pc_le d (IK hf h)
end
abbrev o0(d:Nat)(k:AK):AOp:=⟨some d,[],none,k⟩
abbrev o1(d a:Nat)(k:AK):AOp:=⟨some d,[.slot a],none,k⟩
abbrev o2(d a b:Nat)(k:AK):AOp:=⟨some d,[.slot a,.slot b],none,k⟩
abbrev o3(d a b c:Nat)(k:AK):AOp:=⟨some d,[.slot a,.slot b,.slot c],none,k⟩
abbrev c1(d:Nat)(x:AV)(k:AK):AOp:=⟨some d,[.const x],none,k⟩
abbrev c2(d a:Nat)(x:AV)(k:AK):AOp:=⟨some d,[.slot a,.const x],none,k⟩
abbrev k0(d f:Nat):AOp:=⟨some d,[.const (.fn f [])],none,.call⟩
abbrev k1(d f a:Nat):AOp:=⟨some d,[.const (.fn f []),.slot a],none,.call⟩
abbrev k2(d f a b:Nat):AOp:=⟨some d,[.const (.fn f []),.slot a,.slot b],none,.call⟩
abbrev k3(d f a b c:Nat):AOp:=⟨some d,[.const (.fn f []),.slot a,.slot b,.slot c],none,.call⟩
abbrev g1(d g a:Nat)(k:AK):AOp:=⟨some d,[.slot a],some (g,true),k⟩
abbrev g2(d g a b:Nat)(k:AK):AOp:=⟨some d,[.slot a,.slot b],some (g,true),k⟩
abbrev n2(a b:Nat)(k:AK):AOp:=⟨none,[.slot a,.slot b],none,k⟩
theorem z7q{α:Type}(f:Nat->α)(i:Nat)(y:α)(j:Nat):fput f i y j=if j=i then y else f j:=(rfl)
theorem z7r(f:Nat->Grp)(i:Nat)(y:Grp)(j:Nat):hput f i y j=if j=i then y else f j:=(rfl)
theorem zek(env:Env)(d:Nat)(x:AV)(j:Nat):Env.put env (some d) x j=if j=d then x else env j:=(rfl)
theorem zel(env:Env)(x:AV):Env.put env none x=env:=(rfl)
theorem z3t(x:AV)(xs:List AV):entry (x::xs) 0=x:=(rfl)
theorem z3u(x:AV)(xs:List AV)(n:Nat):entry (x::xs) (n+1)=entry xs n:=by simp[entry]
theorem z7s(env:Env)(t:Nat):(AArg.slot t).eval env=env t:=(rfl)
theorem z3v(env:Env)(x:AV):(AArg.const x).eval env=x:=(rfl)
theorem z3w(b w:Bool)(p q r:Prop):I1 (.bool b) w p q r=((b=w->p)/\(b=(!w)->q)):=by
 cases b<;>cases w<;>simp[I1]
theorem z3x(w:Bool)(p q r:Prop):I1 (.tup []) w p q r=r:=by cases w<;>rfl
theorem z7t{α:Type}(x:α)(f:α->Prop):optK (some x) f=f x:=(rfl)
def XO(x:AV)(p q:Prop):Prop:=match x with
 |.bool b=>(b=true->p)/\(b=false->q)
 |_=>False
section
variable {P:Program}{n b:Nat}{env:Env}{H:A4}{Q:Ex->Env->A4->Prop}{K:Env->A4->Prop}
theorem zlr{f m np:Nat}{xs:List AV}{y:AV}{res:List ARes}{B:AC}(hf:Bm P f xs.length=some ⟨m,np,res,B⟩)(d:Nat)(h:T P m 0 B (entry xs) A4.nil (Ret P res λz H=>DX d H z/\AV.le (frzV d H z) y)):PC P f xs y:=pc hf d h
theorem z28{K:Env->A4->Prop}:Ex.then K Q .normal env H=K env H:=(rfl)
theorem z29{K:Env->A4->Prop}:Ex.then K Q .ret env H=Q .ret env H:=(rfl)
theorem z30{K:Env->A4->Prop}{id:Nat}:Ex.then K Q (.exit id) env H=Q (.exit id) env H:=(rfl)
theorem z31{id:Nat}:Ex.inBlock id Q .normal env H=Q .normal env H:=(rfl)
theorem z32{id:Nat}:Ex.inBlock id Q .ret env H=Q .ret env H:=(rfl)
theorem z33{id k:Nat}:Ex.inBlock id Q (.exit k) env H=if k=id then Q .normal env H else Q (.exit k) env H:=(rfl)
end
theorem z7u(a b:Int)(h:0<=b):a.fdiv b=a / b:=Int.fdiv_eq_ediv_of_nonneg a h
theorem OU{n:Int}{k:IntKind}(h:0<=n/\n<2 ^ k.bits):(BitVec.ofInt k.bits n).toNat=n.toNat:=by
 obtain⟨m,rfl⟩:=DT h.1
 have h2:m<2 ^ k.bits:=by
  have:=h.2
  exact_mod_cast this
 rw[BitVec.ofInt_natCast,BitVec.toNat_ofNat,FC h2,Int.toNat_natCast]
theorem z7v{x:Int}{k:IntKind}(i:Nat)(h:0<=x/\x<2 ^ k.bits)(hi:i<=k.bits)(hw:k.wrap (x % 2 ^ i)=x % 2 ^ i):JF .and k x (2 ^ i-1)=x % 2 ^ i:=by
 obtain⟨m,rfl⟩:=DT h.1;have hp:(0:Int)<2 ^ i:=by exact_mod_cast Nat.two_pow_pos i
 have hq:(2:Int) ^ i<=2 ^ k.bits:=by exact_mod_cast C8 ox hi
 show k.wrap (BitVec.ofInt k.bits (m:Int) &&& BitVec.ofInt k.bits (2 ^ i-1)).toNat=_
 have h2:((2:Int) ^ i-1).toNat=2 ^ i-1:=by
  have:(2:Int) ^ i-1=((2 ^ i-1:Nat):Int):=by rw[Int.ofNat_sub (Nat.two_pow_pos i)];simp
  rw[this,Int.toNat_natCast]
 rw[BitVec.toNat_and,OU h,OU ⟨om,om⟩,h2,Int.toNat_natCast,Nat.and_two_pow_sub_one_eq_mod];have:((m % 2 ^ i:Nat):Int)=(m:Int) % 2 ^ i:=oc
 rw[this,hw]
theorem zjw{c y:Int}{k:IntKind}(i a:Nat)(hc:c=2 ^ i * a)(h:0<=y/\y<2 ^ i)(hk:c+y<2 ^ k.bits)(hw:k.wrap (c+y)=c+y):JF .or k c y=c+y:=by
 obtain⟨m,rfl⟩:=DT h.1;have hm:m<2 ^ i:=by have:=h.2;exact_mod_cast this
 have h0:(0:Int)<=2 ^ i * a:=by exact_mod_cast Ap (2 ^ i * a)
 subst hc;show k.wrap (BitVec.ofInt k.bits (2 ^ i * a:Int) ||| BitVec.ofInt k.bits (m:Int)).toNat=_
 have h2:((2:Int) ^ i * a).toNat=2 ^ i * a:=by
  have:(2:Int) ^ i * a=((2 ^ i * a:Nat):Int):=oc
  rw[this,Int.toNat_natCast]
 rw[BitVec.toNat_or,OU ⟨h0,om⟩,OU ⟨h.1,om⟩,h2,Int.toNat_natCast,<-Nat.two_pow_add_eq_or_of_lt hm];have:((2 ^ i * a+m:Nat):Int)=2 ^ i * (a:Int)+m:=oc
 rw[this,hw]
open IntWalk
def Grp.dead(G:Grp):Grp:=⟨0,G.ver+1,false,[]⟩
def A4.kill(H:A4)(ks:List Nat):A4:=⟨H.n,λg=>if g∈ks then (H.at_ g).dead else H.at_ g⟩
def A4.only(H:A4)(ks:List Nat):A4:=⟨H.n,λg=>if g∈ks then H.at_ g else (H.at_ g).dead⟩
def MS.only(S:MS)(ks:List Nat):MS:={ S with cur:=λg=>if g∈ks then S.cur g else S.cur g+1,wid:=λg=>if g∈ks then S.wid g else 0 }
def MS.kill(S:MS)(H:A4)(ks:List Nat):MS:={ S with
 im:=λb=>S.im b\/∃g,g<H.n/\g∈ks/\0<(H.at_ g).w/\0<S.cap g/\b=S.place g
 cur:=λg=>if g∈ks then S.cur g+1 else S.cur g
 wid:=λg=>if g∈ks then 0 else S.wid g }
section
variable {S:MS}{H:A4}(ks:List Nat)
theorem T6:Evo S (S.only ks):=by
 refine⟨rfl,rfl,⟨rfl,Ab _⟩,rfl,Ab _,λ_ _=>rfl,λ_ h=>h,λ_ h=>h,λ_ h=>.inl h,Ab _,λg _=>?_,λg _ hc=>?_⟩
 ·show S.cur g<=if g∈ks then S.cur g else S.cur g+1
  split<;>omega
 ·have hc':(if g∈ks then S.cur g else S.cur g+1)=S.cur g:=hc
  refine⟨rfl,rfl,?_⟩;show (if g∈ks then S.wid g else 0)=S.wid g;by_cases h:g∈ks
  ·rw[Ae h]
  ·rw[Ad h] at hc';omega
theorem ZI{S':MS}{G:Grp}{g:Nat}(h1:S'.cur g=G.ver+1)(h2:S'.wid g=0):GRel S' G.dead g:=⟨h1,h2,λh=>absurd h (Cl _),λh=>absurd h (Cl _),λh=>absurd h (Cl _),λ_ h=>by cases h⟩
theorem ZJ{G:Grp}{c:Nat}:¬G.dead.has c:=by
 rintro (⟨h,_⟩|⟨_,h⟩)
 ·exact absurd h (Cl _)
 ·cases h
theorem zem(h:SRel S H):SRel (S.only ks) (H.only ks) where
 n:=h.n
 grp g hg:=by
  have hG:=h.grp g hg;by_cases hk:g∈ks
  ·have e1:(H.only ks).at_ g=H.at_ g:=by show (if g∈ks then _ else _)=_;rw[Ae hk]
   have e2:(S.only ks).cur g=S.cur g:=by show (if g∈ks then _ else _)=_;rw[Ae hk]
   have e3:(S.only ks).wid g=S.wid g:=by show (if g∈ks then _ else _)=_;rw[Ae hk]
   rw[e1];refine⟨e2.trans hG.ver,e3.trans hG.wid,λhw hc=>?_,hG.len,hG.full,λhw he=>?_⟩
   ·obtain⟨⟨cells,T,vs,a1,a2,a3,a4⟩,b⟩:=hG.live hw hc
    exact⟨⟨cells,T,vs,a1,a2,AB.mono (T6 ks) _ a3,a4⟩,b⟩
   ·obtain⟨⟨o,a1,a0,a2⟩,b⟩:=hG.mlive hw he
    exact⟨⟨o,a1,a0,AB.mono (T6 ks) _ a2⟩,b⟩
  ·have e1:(H.only ks).at_ g=(H.at_ g).dead:=by show (if g∈ks then _ else _)=_;rw[Ad hk]
   have e2:(S.only ks).cur g=S.cur g+1:=by show (if g∈ks then _ else _)=_;rw[Ad hk]
   have e3:(S.only ks).wid g=0:=by show (if g∈ks then _ else _)=_;rw[Ad hk]
   rw[e1];exact ZI (by rw[e2,hG.ver]) e3
 apart g g' hg hg' hne hw hw':=by
  have key:∀g,((H.only ks).at_ g).has (S.cap g)->(H.at_ g).has (S.cap g):=λg hw=>by
   have:(if g∈ks then H.at_ g else (H.at_ g).dead).has (S.cap g):=hw;split at this
   ·exact this
   ·exact absurd this ZJ
  exact h.apart g g' hg hg' hne (key g hw) (key g' hw')
 im:=h.im
theorem Ic(h:SRel S H):Evo S (S.kill H ks):=by
 refine⟨rfl,rfl,⟨rfl,Ab _⟩,rfl,Ab _,λ_ _=>rfl,λ_ h=>.inl h,λ_ h=>h,λb hb=>?_,Ab _,λg _=>?_,λg _ hc=>?_⟩
 ·rcases hb with hb|⟨g,hg,_,hw,hc,rfl⟩
  ·exact .inl hb
  ·exact .inr λhk=>((h.grp g hg).live hw hc).2 (.inr hk)
 ·show S.cur g<=if g∈ks then S.cur g+1 else S.cur g
  split<;>omega
 ·have hc':(if g∈ks then S.cur g+1 else S.cur g)=S.cur g:=hc
  refine⟨rfl,rfl,?_⟩;show (if g∈ks then 0 else S.wid g)=S.wid g;by_cases h:g∈ks
  ·rw[Ae h] at hc';omega
  ·rw[Ad h]
theorem M2(h:SRel S H):SRel (S.kill H ks) (H.kill ks) where
 n:=h.n
 grp g hg:=by
  have hG:=h.grp g hg;by_cases hk:g∈ks
  ·have e1:(H.kill ks).at_ g=(H.at_ g).dead:=by show (if g∈ks then _ else _)=_;rw[Ae hk]
   have e2:(S.kill H ks).cur g=S.cur g+1:=by show (if g∈ks then _ else _)=_;rw[Ae hk]
   have e3:(S.kill H ks).wid g=0:=by show (if g∈ks then _ else _)=_;rw[Ae hk]
   rw[e1];exact ZI (by rw[e2,hG.ver]) e3
  ·have e1:(H.kill ks).at_ g=H.at_ g:=by show (if g∈ks then _ else _)=_;rw[Ad hk]
   have e2:(S.kill H ks).cur g=S.cur g:=by show (if g∈ks then _ else _)=_;rw[Ad hk]
   have e3:(S.kill H ks).wid g=S.wid g:=by show (if g∈ks then _ else _)=_;rw[Ad hk]
   rw[e1]
   have hni:(H.at_ g).has (S.cap g)->¬((S.kill H ks).im (S.place g)\/(S.kill H ks).keep (S.place g)):=λhq=>by
    have b3:=hG.has_ni hq;rintro ((hi|⟨g',hg',hk',hw',hc',he⟩)|hi)
    ·exact b3 (.inl hi)
    ·exact h.apart g g' hg hg' (λhgg=>hk (hgg ▸ hk')) hq (.inl ⟨hw',hc'⟩) he
    ·exact b3 (.inr hi)
   refine⟨e2.trans hG.ver,e3.trans hG.wid,λhw hc=>?_,hG.len,hG.full,λhw he=>?_⟩
   ·obtain⟨⟨cells,T,vs,a1,a2,a3,a4⟩,b3⟩:=hG.live hw hc
    exact⟨⟨cells,T,vs,a1,a2,AB.mono (Ic ks h) _ a3,a4⟩,hni (.inl ⟨hw,hc⟩)⟩
   ·obtain⟨⟨o,a1,a0,a2⟩,b3⟩:=hG.mlive hw he
    exact⟨⟨o,a1,a0,AB.mono (Ic ks h) _ a2⟩,hni (.inr ⟨hw,he⟩)⟩
 apart g g' hg hg' hne hw hw':=by
  have key:∀g,((H.kill ks).at_ g).has (S.cap g)->(H.at_ g).has (S.cap g):=λg hw=>by
   have:(if g∈ks then (H.at_ g).dead else H.at_ g).has (S.cap g):=hw;split at this
   ·exact absurd this ZJ
   ·exact this
  exact h.apart g g' hg hg' hne (key g hw) (key g' hw')
 im b hb:=by
  rcases hb with (hb|⟨g,hg,_,hw,hc,rfl⟩)|hb
  ·exact h.im b (.inl hb)
  ·exact (h.grp g hg).lt hw hc
  ·exact h.im b (.inr hb)
theorem OV(h:SRel S H)(d:Nat){x:AV}{v:Value}(hok:DX d (H.only ks) x)(hv:VRel S x v):VRel (S.kill H ks) (frzV d (H.only ks) x) v:=by
 obtain⟨k1,k2⟩:=Vs (zem ks h) d hok (VRel.mono (T6 ks) _ hv);refine VRel.of_pure (S:=(S.only ks).shut (H.only ks)) (S':=S.kill H ks) rfl (λb hb=>?_) k2 k1;rcases hb with hb|⟨g,hg,hw,hc,rfl⟩
 ·exact .inl hb
 ·have hw':0<(if g∈ks then H.at_ g else (H.at_ g).dead).w:=hw
  split at hw'
  ·rename_i hk;exact .inr ⟨g,hg,hk,hw',hc,rfl⟩
  ·exact absurd hw' (Cl _)
theorem Vt(h:SRel S H)(d:Nat):∀{xs:List AV}{vs:List Value},(∀y∈xs,DX d (H.only ks) y)->AB S xs vs->AB (S.kill H ks) (xs.map (frzV d (H.only ks))) vs
 |[],_,_,hh=>hh
 |x::xs,vs,hc,hh=>by
  obtain⟨u,r,rfl,h1,h2⟩:=hh;exact⟨u,r,rfl,OV ks h d (hc x oc) h1,Vt h d (λy hy=>hc y (by simp[hy])) h2⟩
end
theorem T7{P:Program}{f:Nat}{xs:List AV}{H:A4}{K:AV->A4->Prop}(d:Nat)(ks:List Nat)(hok:∀x∈xs,DX d (H.only ks) x)(h:B9 P f (xs.map (frzV d (H.only ks))) (H.kill ks) K):B9 P f xs H K:=by
 refine⟨h.1,λS cargs hS hx=>(h.2 (S.kill H ks) cargs (M2 ks hS) (Vt ks hS d hok hx)).mono λe w' hh=>?_⟩;obtain⟨v,S',x,H',rfl,rfl,ev,hS',hv,hK⟩:=hh;exact⟨v,S',x,H',rfl,rfl,(Ic ks hS).trans ev,hS',hv,hK⟩
theorem zls(G:Grp):G.dead=⟨0,G.ver+1,false,[]⟩:=(rfl)
theorem zrb(H:A4)(ks:List Nat):(H.kill ks).n=H.n:=(rfl)
theorem zrc(H:A4)(ks:List Nat):(H.only ks).n=H.n:=(rfl)
attribute [push_cast] z7s z3v zel z7q z7r z3t z3u z3w z3x z7t z28 z29 z30 z31 z32 z33 zrb zrc zls
attribute [push_cast] List.map_cons List.map_nil List.drop_zero List.drop_succ_cons List.take_succ_cons List.take_zero List.drop_nil List.take_nil List.length_cons List.length_nil List.getD_cons_zero List.getD_cons_succ List.set_cons_zero List.set_cons_succ Option.getD_some Option.getD_none List.length_set List.append_assoc List.nil_append List.append_nil List.cons_append List.getElem?_cons_zero List.getElem?_cons_succ List.forall_mem_cons List.not_mem_nil List.length_map Bool.false_eq_true Bool.true_eq_false false_implies true_implies forall_const true_and and_true false_and and_false cond_true cond_false Bool.not_true Bool.not_false decide_eq_true_eq decide_eq_false_iff_not not_false_eq_true not_true_eq_false imp_false Nat.lt_irrefl Nat.le_refl Nat.zero_add Nat.add_zero Nat.zero_lt_succ Nat.lt_add_one implies_true decide_true decide_false Bool.not_eq_true Bool.not_eq_false Bool.not_eq_true' Bool.not_eq_false' eq_self Bool.and_self Bool.and_true Bool.true_and Bool.and_false Bool.false_and Bool.or_true Bool.true_or Bool.or_false Bool.false_or ne_eq Int.natCast_nonneg Int.toNat_natCast or_self true_or or_true false_or or_false and_self Int.cast_ofNat_Int if_true if_false
open Go.RowKit
def MS.start(w:World):MS:=⟨w,λb=>b<w.heap.size,λ_=>False,0,λ_=>0,λ_=>0,λ_=>0,λ_=>0,0⟩
theorem z7w(w:World):SRel (MS.start w) A4.nil :=
 ⟨rfl,λg hg=>absurd hg (AZ _),λg _ hg=>absurd hg (AZ _),λb hb=>hb.elim id False.elim⟩
theorem PC.below{P:Program}{f:Nat}{xs:List AV}{b:Bool}(h:PC P f xs (.bool b)){w:World}{cargs:List Value}(hx:AB (MS.start w) xs cargs):
 Calls P f cargs.toArray w λe w'=>e=.returned (.bool b)/\Below w.heap.size w w':=by
 refine (h.2 (MS.start w) cargs (z7w w) hx).mono λe w' hh=>?_;obtain⟨v,S',x,H',rfl,rfl,ev,_,hv,rfl,_⟩:=hh;have hv':v=.bool b:=hv;subst hv';exact⟨rfl,ev.os,ev.tape.1,ev.output,ev.size,λk hk=>ev.kept k (.inl hk)⟩
theorem z3y{w:World}{a:Addr}{v:Value}(h:w.cell? a=some v):a.block<w.heap.size:=by
 unfold World.cell? at h;split at h
 ·rename_i hb;exact (AU.1 hb).1
 ·cases h
end Go.Proofs.YtflibbceibjddaaGreat.Abs
