/-
  Parts of the proof that the law holds whatever the input; without conditions.
-/
import Derived.OrdersIn
import Derived.Deep.LoopGhost
import Derived.Scope
import Derived.Sort.LoopGhostIn
import Derived.RangeFuncNested
import Derived.LoopN
import Derived.IntWalk
import Derived.Below
import Derived.Test.YtflibbceibjddaaGreatNF1
set_option linter.unusedSimpArgs false
set_option linter.unusedVariables false
set_option linter.unusedSectionVars false
namespace Go.Proofs.YtflibbceibjddaaGreat.Abs
def Env.put(env:Env)(dst:Option Nat)(x:AV):Env:=match dst with
 |some d=>fput env d x
 |none=>env
def Hd:AV->Bool->Prop->Prop->Prop->Prop
 |.bool true,true,p,_,_=>p
 |.bool false,false,p,_,_=>p
 |.bool true,false,_,q,_=>q
 |.bool false,true,_,q,_=>q
 |.tup [],_,_,_,r=>r
 |_,_,_,_,_=>False
theorem To{b w:Bool}{p q r:Prop}(hp:b=w->p)(hq:b=(!w)->q):Hd (.bool b) w p q r:=by
 cases b<;>cases w<;>simp only[Hd]<;>first|exact hp rfl|exact hq rfl
theorem NF{b w:Bool}{p q r:Prop}(h:Hd (.bool b) w p q r):(b=w->p)/\(b=(!w)->q):=by
 cases b<;>cases w<;>simp only[Hd] at h<;>simp[h]
def He(env:Env)(g:Option (Nat × Bool))(f:Bool->Env->Prop):Prop :=
 match g with
 |none=>f true env
 |some (d,want)=>Hd (env d) want (f true (env.put (some d) (.bool want))) (f false (env.put (some d) (.bool (!want)))) (f false env)
def AOp.vals(o:AOp)(env:Env):List AV:=o.args.map (·.eval env)
def runK(P:Program):List AOp->Env->A5->(Env->A5->Prop)->Prop
 |[],env,H,K=>K env H
 |o::l,env,H,K=>He env o.guard λw env =>
  if w then AF P o.k H (o.vals env) λx H'=>runK P l (env.put o.dst x) H' K else runK P l (env.put o.dst (.tup [])) H K
def AK.still:AK->Bool
 |.mv|.pick|.build ..|.load ..|.nilCheck|.bin _|.eqb _|.eqs ..|.eqn _|.un _|.conv _|.slice ..|.faddr ..|.field ..|.iaddr _|.iaddrA ..|.index ..|.indexStr|.extract _|.len _|.cap|.max|.min|.mkFunc _|.toStr|.runStr|.mapGet _=>true
 |_=>false
def Tp(P:Program)(k:AK)(H:A5)(xs:List AV)(K:AV->Prop):Prop :=
 match k,xs with
 |.call,.fn f caps::ys=>∃x,B3 P f (ys++caps) H (λy H'=>y=x/\H'=H)/\K x
 |.bslice w len z idx,xs=>HH w len idx xs/\0<w/\Bh (F2 idx xs (List.replicate len z))=true/\K (.full w (F2 idx xs (List.replicate len z)))
 |k,xs=>k.still=true/\AF P k H xs λx _=>K x
def runQ(P:Program)(H:A5):List AOp->Env->(Env->Prop)->Prop
 |[],env,K=>K env
 |o::l,env,K=>He env o.guard λw env =>
  if w then Tp P o.k H (o.vals env) λx=>runQ P H l (env.put o.dst x) K else runQ P H l (env.put o.dst (.tup [])) K
def fen(r:Option Nat):Fence:={ Fence.wide with round:=r }
def mark(D:Nat):Deferred:={ target:=.collected D,args:=#[] }
def Marks(S:MS)(ds:List Deferred):Prop:=S.base<=S.w.heap.size/\∃Ds:List Nat,ds=Ds.map mark/\Ds.Nodup/\∀D∈Ds,S.base<=D/\S.keep D/\¬S.im D/\S.w.heap[D]? = some (.deferred (some []))
theorem Marks.of{S S':MS}{ds:List Deferred}(h:Marks S ds)(hb:S'.base=S.base)(hsz:S.w.heap.size<=S'.w.heap.size)(hk:∀b,S.keep b->S'.keep b)(hf:∀b,S'.im b->S.im b\/¬S.keep b)(hh:∀b,S.keep b->S'.w.heap[b]? = S.w.heap[b]?):Marks S' ds:=by
 obtain⟨hbs,Ds,h1,h2,h3⟩:=h;refine⟨by rw[hb];exact AJ hbs hsz,Ds,h1,h2,λD hD=>?_⟩;obtain⟨k1,k2,k3,k4⟩:=h3 D hD;refine⟨by rw[hb];exact k1,hk D k2,λhi=>?_,by rw[hh D k2];exact k4⟩;rcases hf D hi with h|h
 ·exact k3 h
 ·exact h k2
theorem Marks.mono{S S':MS}{ds:List Deferred}(e:Evo S S')(h:Marks S ds):Marks S' ds:=h.of e.base e.size e.keep e.fresh (λb hb=>e.kept b (.inr hb))
theorem Marks.nil{S:MS}(h:S.base<=S.w.heap.size):Marks S []:=⟨h,[],rfl,Dc,λ_ h=>by cases h⟩
structure FRel(S:MS)(n:Nat)(env:Env)(a:Act):Prop where
 size:a.tmps.size=n
 defers:Marks S a.defers
 val:∀i,i<n->VRel S (env i) (a.tmps.getD i undef)
theorem FRel.mono{S S':MS}{n:Nat}{env:Env}{a:Act}(e:Evo S S')(h:FRel S n env a):FRel S' n env a:=⟨h.size,h.defers.mono e,λi hi=>VRel.mono e _ (h.val i hi)⟩
theorem FRel.put{S:MS}{n:Nat}{env:Env}{a:Act}(h:FRel S n env a){dst:Option Nat}(hd:dst.all (·<n)=true){x:AV}{v:Value}(hv:VRel S x v):FRel S n (env.put dst x) (a.put dst v):=by
 cases dst with
 |none=>exact h
 |some d =>
  simp only[Option.all_some,Ah] at hd;refine⟨by show (a.tmps.setIfInBounds d v).size=n;simp[h.size],h.defers,λi hi=>?_⟩;show VRel S (if i=d then x else env i) ((a.tmps.setIfInBounds d v).getD i undef);by_cases hid:i=d
  ·subst hid
   rw[Ae rfl];have:i<a.tmps.size:=by rw[h.size];exact hi
   simpa [this] using hv
  ·rw[Ab hid]
   have:=h.val i hi;simpa [Array.getElem?_setIfInBounds_ne (De hid)] using this
section
variable {P:Program}{S:MS}{H:A5}{n:Nat}
theorem R4{env:Env}{a:Act}(hF:FRel S n env a){x:Operand}{y:AArg}(h:H5 n x=some y):VRel S (y.eval env) (a.eval x):=by
 cases x<;>simp only[H5] at h
 ·rename_i t
  split at h
  ·rename_i ht;cases h;exact hF.val t ht
  ·cases h
 ·rename_i v
  obtain⟨z,hz,rfl⟩:=Ag.1 h;exact G9 hz
 ·cases h
 ·rename_i f;cases h;exact⟨[],rfl,rfl⟩
theorem Jt{env:Env}{a:Act}(hF:FRel S n env a):∀{l:List Operand}{l':List AArg},l.mapM (H5 n)=some l'->AB S (l'.map (·.eval env)) (l.map a.eval)
 |[],l',h=>by simp at h;subst h;rfl
 |x::l,l',h=>by
  rw[BL] at h;simp only[Option.bind_eq_bind,B0,Option.pure_def,Aq] at h;obtain⟨y,hy,r,hr,rfl⟩:=h;exact⟨_,_,rfl,R4 hF hy,Jt hF hr⟩
theorem Cb{ops:Array Oper}{o:Oper}{q:AOp}(h:Cs P n ops o=some q):Cu P o.op=some q.k/\o.op.operands.toList.mapM (H5 n)=some q.args/\q.dst=o.dst/\o.dst.all (·<n)=true /\
 ((o.guard=none/\q.guard=none)\/∃j want d,o.guard=some (j,want)/\q.guard=some (d,want)/\(ops[j]?).bind (·.dst)=some d/\d<n):=by
 unfold Cs at h;split at h
 ·rename_i k args hk hargs
  split at h
  ·rename_i hd
   split at h
   ·rename_i hg;cases h;exact⟨hk,hargs,rfl,hd,.inl ⟨hg,rfl⟩⟩
   ·rename_i j want hg
    split at h
    ·rename_i d hj
     split at h
     ·rename_i hdn;cases h;exact⟨hk,hargs,rfl,hd,.inr ⟨j,want,d,hg,rfl,hj,hdn⟩⟩
     ·cases h
    ·cases h
  ·cases h
 ·cases h
theorem PX{env:Env}{a:Act}(hF:FRel S n env a){ops:Array Oper}{j d:Nat}(hj:(ops[j]?).bind (·.dst)=some d)(hd:d<n):
 (∀b,env d=.bool b->yielded ops a.tmps j=some b)/\(env d=.tup []->yielded ops a.tmps j=none):=by
 have hv:=hF.val d hd;have hlt:d<a.tmps.size:=by rw[hF.size];exact hd
 have e:a.tmps[d]? = some (a.tmps.getD d undef):=by simp[hlt]
 refine⟨λb hb=>?_,λhb=>?_⟩
 ·rw[hb] at hv
  simp only[yielded,hj,Option.bind_some,e,show a.tmps.getD d undef=.bool b from hv]
 ·rw[hb] at hv
  obtain⟨vs,hv,hvs⟩:=hv;simp only[yielded,hj,Option.bind_some,e,hv]
theorem Xq{env:Env}{d:Nat}{x:AV}(h:env d=x):env.put (some d) x=env:=by
 funext j;show (if j=d then x else env j)=_;split
 ·rename_i hj;rw[hj,h]
 ·rfl
theorem NG{ops:Array Oper}{o:Oper}{q:AOp}(h:Cs P n ops o=some q){env:Env}{a:Act}(hF:FRel S n env a){f:Bool->Env->Prop}(hg:He env q.guard f):
 f (Region.wanted o (yielded ops a.tmps)) env:=by
 obtain⟨_,_,_,_,h5⟩:=Cb h;rcases h5 with⟨h1,h2⟩|⟨j,want,d,h1,h2,h3,h4⟩
 ·rw[h2] at hg
  have:Region.wanted o (yielded ops a.tmps)=true:=by simp[Region.wanted,h1]
  rw[this];exact hg
 ·rw[h2] at hg
  obtain⟨y1,y2⟩:=PX hF h3 h4;simp only[He] at hg;cases hx:env d<;>rw[hx] at hg<;>try exact (show False from hg).elim
  ·rename_i b
   have hg:=NF hg;have hy:=y1 b hx;have hw:Region.wanted o (yielded ops a.tmps)=(b == want):=by simp only[Region.wanted,h1,hy];cases b<;>cases want<;>rfl
   rw[hw];by_cases hb:b=want
   ·have:=hg.1 hb
    rw[Xq (by rw[hx,hb])] at this;simpa [hb] using this
   ·have hb':b=!want:=by cases b<;>cases want<;>simp_all
    have:=hg.2 hb';rw[Xq (by rw[hx,hb'])] at this;have e:(b == want)=false:=by simpa using hb
    rw[e];exact this
  ·rename_i vs
   cases vs with
   |nil =>
    have hw:Region.wanted o (yielded ops a.tmps)=false:=by simp[Region.wanted,h1,y2 hx]
    rw[hw];exact hg
   |cons _ _=>exact (show False from hg).elim
theorem IM{S:MS}:VRel S (.tup []) undef:=⟨[],rfl,rfl⟩
theorem NH{f:FuncId}{args:Array Value}{w:World}{R:Ending->World->Prop}{r:Option Nat}{m:Nat}(h:Calls P f args w R):CallsIn (fen r) m P f args w R:=by
 have:=(callsIn_wide (n:=m)).2 h;exact this
theorem z92(hS:SRel S H){env:Env}{a:Act}(hF:FRel S n env a){o:Oper}{q:AOp}{ops:Array Oper}(h:Cs P n ops o=some q){K:AV->A5->Prop}(hst:AF P q.k H (q.vals env) K)
 {N:Act->World->Prop} {Q:Exit->Act->World->Prop} (hN:∀S' H' x a',Evo S S'->SRel S' H'->FRel S' n (env.put q.dst x) a'->K x H'->N a' S'.w) (r:Option Nat) (m:Nat):o.wpIn (fen r) m P a S.w N Q:=by
 obtain⟨h1,h2,h3,h4,_⟩:=Cb h;have hargs:=Jt hF h2;have h1':=Ik h1 λe=>by rw[e] at hst;simp[AF] at hst
 have hsem:o.semAt (fen r).round a.eval=execOp a.eval o:=Oper.semAt_eq _ _ _ λc hc=>by rw[hc] at h1';cases h1'
 rcases PW hS o h1 (ρ:=a.eval) hargs hst with⟨v,S',x,H',hr,e,hS',hv,hK⟩|⟨f,cargs,hr,hc⟩
 ·have hN':=λv' (hv':VRel S' x v')=>hN S' H' x (a.put o.dst v') e hS' (by rw[h3];exact (hF.mono e).put h4 hv') hK
  refine⟨λ_ _=>trivial,?_⟩;rw[hsem];rcases hr with hr|⟨hr,rfl⟩<;>rw[hr]
  ·exact hN' v hv
  ·exact hN' undef hv
 ·refine⟨λ_ _=>trivial,?_⟩
  rw[hsem,hr,Oper.uponIn_enter];refine⟨λh=>(by cases h),NH (hc.mono λe w' hh=>?_)⟩;obtain⟨v,S',x,H',rfl,rfl,ev,hS',hv,hK⟩:=hh;exact hN S' H' x (a.put o.dst v) ev hS' (by rw[h3];exact (hF.mono ev).put h4 hv) hK
theorem KA{ops:Array Oper}{Q:Exit->Act->World->Prop}:∀(l:List Oper)(l':List AOp)(k:Nat),(∀j,l[j]? = ops[k+j]?)->l.mapM (Cs P n ops)=some l'->∀{S:MS}{H:A5}{env:Env}{a:Act}{K:Env->A5->Prop},
 SRel S H->FRel S n env a->runK P l' env H K->(∀S' H' env' a',Evo S S'->SRel S' H'->FRel S' n env' a'->K env' H'->Q .normal a' S'.w)->∀(rd:Option Nat)(m:Nat),wpOpsIn (fen rd) m P ops Q (List.range' k l.length) a S.w
 |[],l',k,_,hm,S,H,env,a,K,hS,hF,hr,hQ,rd,m=>by
  simp at hm;subst hm;exact hQ S H env a (.refl S) hS hF hr
 |o::l,l',k,hl,hm,S,H,env,a,K,hS,hF,hr,hQ,rd,m=>by
  rw[BL] at hm;simp only[Option.bind_eq_bind,B0,Option.pure_def,Aq] at hm;obtain⟨q,hq,r,hrr,rfl⟩:=hm;have h0:ops[k]? = some o:=by simpa using (hl 0).symm
  have hl':∀j,l[j]? = ops[k+1+j]? := λj=>by have:=hl (j+1);simpa [Bo,Ci 1 j] using this
  have hg:=NG hq hF hr;rw[show List.range' k (o::l).length=k::List.range' (k+1) l.length from rfl];simp only[wpOpsIn,h0];cases hw:Region.wanted o (yielded ops a.tmps)
  ·rw[hw] at hg
   simp only[A8,Bt] at hg ⊢;obtain⟨_,_,h3,h4,_⟩:=Cb hq;exact⟨λ_ _=>trivial,KA l r (k+1) hl' hrr hS (by rw[h3];exact hF.put h4 IM) hg hQ rd m⟩
  ·rw[hw] at hg
   simp only[Bi] at hg ⊢;refine z92 hS hF hq hg (λS' H' x a' e hS' hF' hK=>?_) rd m;exact KA l r (k+1) hl' hrr hS' hF' hK (λS2 H2 env2 a2 e2 hS2 hF2 hK2=>hQ S2 H2 env2 a2 (e.trans e2) hS2 hF2 hK2) rd m
end
section
variable {P:Program}{H:A5}{n:Nat}{ops:Array Oper}{md:Region.Mode}{rd:Option Nat}{mm:Nat}
def QY(P:Program)(k:AK)(H:A5)(xs:List AV)(x:AV):Prop :=
 (∃f caps ys,k=.call/\xs=.fn f caps::ys/\B3 P f (ys++caps) H λy H'=>y=x/\H'=H) \/
 (∃w len z idx,k=.bslice w len z idx/\HH w len idx xs/\0<w/\Bh (F2 idx xs (List.replicate len z))=true/\x=.full w (F2 idx xs (List.replicate len z))) \/
 (k.still=true/\AF P k H xs λy H'=>y=x/\H'=H)
theorem z93{op:BinOp}{k:IntKind}{a b:Int}{K:AV->Prop}(h:binI op k a b K):∃x,binI op k a b (λy=>y=x)/\K x:=by
 cases op<;>simp only[binI] at h ⊢
 case quo=>exact⟨_,⟨h.1,rfl⟩,h.2⟩
 case rem=>exact⟨_,⟨h.1,rfl⟩,h.2⟩
 all_goals exact⟨_,rfl,h⟩
theorem PY{w:Nat}{x:AV}{lo hi mx:Option Int}{K:AV->Prop}(h:GB w x lo hi mx H K):∃y,GB w x lo hi mx H (λz=>z=y)/\K y:=by
 cases mx with
 |some m =>
  simp only[GB] at h ⊢;obtain⟨h1,h2,h3,h4⟩:=h;cases x<;>simp only at h4<;>try exact h4.elim
  all_goals exact⟨_,⟨h1,h2,h3,rfl⟩,h4⟩
 |none =>
  cases x<;>simp only[GB] at h ⊢<;>try exact h.elim
  ·exact⟨_,⟨h.1,h.2.1,rfl⟩,h.2.2⟩
  ·exact⟨_,⟨h.1,h.2.1,rfl⟩,h.2.2⟩
  ·exact⟨_,⟨h.1,h.2.1,h.2.2.1,h.2.2.2.1,rfl⟩,h.2.2.2.2⟩
  ·exact⟨_,⟨h.1,h.2.1,h.2.2.1,h.2.2.2.1,rfl⟩,h.2.2.2.2⟩
  ·exact⟨_,⟨h.1,h.2.1,h.2.2.1,h.2.2.2.1,h.2.2.2.2.1,h.2.2.2.2.2.1,rfl⟩,h.2.2.2.2.2.2⟩
theorem peel{α:Type}{A:Prop}{F G:α->Prop}(a:A)(h:∃x,F x/\G x):∃x,(A/\F x)/\G x:=h.elim λx hx=>⟨x,⟨a,hx.1⟩,hx.2⟩
set_option maxHeartbeats 2000000 in
theorem NI{k:AK}(hk:k.still=true){xs:List AV}{K:AV->Prop}(h:AF P k H xs λx _=>K x):∃x,AF P k H xs (λy H'=>y=x/\H'=H)/\K x:=by
 cases k with
 |mv =>
  match xs,h with
  |[],h=>simp[AF] at h
  |_::_::_,h=>simp[AF] at h
  |[x],h =>
   exact⟨_,Aa rfl rfl,h⟩
 |pick =>
  match xs,h with
  |[],h=>simp[AF] at h
  |[_],h=>simp[AF] at h
  |[_,_],h=>simp[AF] at h
  |_::_::_::_::_,h=>simp[AF] at h
  |[x,y,z],h =>
   cases x<;>simp only[AF] at h<;>try exact h.elim
   all_goals repeat (first|(exact⟨_,Aa rfl rfl,h⟩;done)|(refine peel h.1 ?_;replace h:=h.2))
 |build z pl idx =>
  obtain⟨y,hy,h⟩:=Cn h;refine⟨.agg y,?_,h⟩;show optK _ _;rw[hy];exact⟨rfl,rfl⟩
 |load a s =>
  match xs,h with
  |[],h=>simp[AF] at h
  |_::_::_,h=>simp[AF] at h
  |[x],h =>
   cases x<;>simp only[AF] at h<;>try exact h.elim
   all_goals repeat (first|(exact⟨_,Aa rfl rfl,h⟩;done)|(refine peel h.1 ?_;replace h:=h.2))
 |nilCheck =>
  match xs,h with
  |[],h=>simp[AF] at h
  |_::_::_,h=>simp[AF] at h
  |[x],h =>
   cases x<;>simp only[AF] at h<;>try exact h.elim
   all_goals repeat (first|(exact⟨_,Aa rfl rfl,h⟩;done)|(refine peel h.1 ?_;replace h:=h.2))
 |bin op =>
  match xs,h with
  |[],h=>simp[AF] at h
  |[_],h=>simp[AF] at h
  |_::_::_::_,h=>simp[AF] at h
  |[x,y],h =>
   cases x<;>cases y<;>simp only[AF] at h<;>try exact h.elim
   ·cases op
    case shl=>exact⟨_,Aa h.1 (Aa rfl rfl),h.2⟩
    case shr=>exact⟨_,Aa h.1 (Aa rfl rfl),h.2⟩
    all_goals
     obtain⟨z,h1,h2⟩:=z93 h.2;refine⟨z,Aa h.1 ?_,h2⟩;simpa only[and_true] using h1
   ·cases op<;>first|exact h.elim|exact⟨_,Aa rfl rfl,h⟩
 |eqb neg =>
  match xs,h with
  |[],h=>simp[AF] at h
  |[_],h=>simp[AF] at h
  |_::_::_::_,h=>simp[AF] at h
  |[x,y],h =>
   cases x<;>cases y<;>simp only[AF] at h<;>try exact h.elim
   all_goals repeat (first|(exact⟨_,Aa rfl rfl,h⟩;done)|(refine peel h.1 ?_;replace h:=h.2))
 |eqs neg ks =>
  match xs,h with
  |[],h=>simp[AF] at h
  |[_],h=>simp[AF] at h
  |_::_::_::_,h=>simp[AF] at h
  |[x,y],h =>
   cases x<;>cases y<;>simp only[AF] at h<;>try exact h.elim
   obtain⟨b,hb,h⟩:=Cn h;refine⟨.bool (if neg then !b else b),?_,h⟩;show optK _ _;rw[hb];exact⟨rfl,rfl⟩
 |eqn neg =>
  match xs,h with
  |[],h=>simp[AF] at h
  |[_],h=>simp[AF] at h
  |_::_::_::_,h=>simp[AF] at h
  |[x,y],h =>
   cases y<;>simp only[AF] at h<;>try exact h.elim
   cases x<;>simp only at h<;>try exact h.elim
   all_goals repeat (first|(exact⟨_,Aa rfl rfl,h⟩;done)|(refine peel h.1 ?_;replace h:=h.2))
 |un op =>
  match xs,h with
  |[],h=>simp[AF] at h
  |_::_::_,h=>simp[AF] at h
  |[x],h =>
   cases op<;>cases x<;>simp only[AF] at h<;>try exact h.elim
   all_goals repeat (first|(exact⟨_,Aa rfl rfl,h⟩;done)|(refine peel h.1 ?_;replace h:=h.2))
 |conv k =>
  match xs,h with
  |[],h=>simp[AF] at h
  |_::_::_,h=>simp[AF] at h
  |[x],h =>
   cases x<;>simp only[AF] at h<;>try exact h.elim
   all_goals repeat (first|(exact⟨_,Aa rfl rfl,h⟩;done)|(refine peel h.1 ?_;replace h:=h.2))
 |slice w lo hi mx =>
  match xs,h with
  |[],h=>simp[AF] at h
  |x::l,h =>
   obtain⟨p,hp,h⟩:=Cn (show optK _ _ from h);obtain⟨q,hq,h⟩:=Cn h;obtain⟨r,hr,hr2,h⟩:=Cn h;obtain⟨z,h1,h2⟩:=PY h;refine⟨z,?_,h2⟩;show optK (optA lo l) _;rw[hp];show optK (optA hi p.2) _;rw[hq];show optK (optA mx q.2) _;rw[hr];exact⟨hr2,by simpa only[and_true] using h1⟩
 |faddr a off s =>
  match xs,h with
  |[],h=>simp[AF] at h
  |_::_::_,h=>simp[AF] at h
  |[x],h =>
   cases x<;>simp only[AF] at h<;>try exact h.elim
   all_goals repeat (first|(exact⟨_,Aa rfl rfl,h⟩;done)|(refine peel h.1 ?_;replace h:=h.2))
 |field a off s =>
  match xs,h with
  |[],h=>simp[AF] at h
  |_::_::_,h=>simp[AF] at h
  |[x],h =>
   cases x<;>simp only[AF] at h<;>try exact h.elim
   all_goals repeat (first|(exact⟨_,Aa rfl rfl,h⟩;done)|(refine peel h.1 ?_;replace h:=h.2))
 |iaddr w =>
  match xs,h with
  |[],h=>simp[AF] at h
  |[_],h=>simp[AF] at h
  |_::_::_::_,h=>simp[AF] at h
  |[x,y],h =>
   cases x<;>cases y<;>simp only[AF] at h<;>try exact h.elim
   all_goals repeat (first|(exact⟨_,Aa rfl rfl,h⟩;done)|(refine peel h.1 ?_;replace h:=h.2))
 |iaddrA n w a =>
  match xs,h with
  |[],h=>simp[AF] at h
  |[_],h=>simp[AF] at h
  |_::_::_::_,h=>simp[AF] at h
  |[x,y],h =>
   cases x<;>cases y<;>simp only[AF] at h<;>try exact h.elim
   all_goals repeat (first|(exact⟨_,Aa rfl rfl,h⟩;done)|(refine peel h.1 ?_;replace h:=h.2))
 |index n w a =>
  match xs,h with
  |[],h=>simp[AF] at h
  |[_],h=>simp[AF] at h
  |_::_::_::_,h=>simp[AF] at h
  |[x,y],h =>
   cases x<;>cases y<;>simp only[AF] at h<;>try exact h.elim
   all_goals repeat (first|(exact⟨_,Aa rfl rfl,h⟩;done)|(refine peel h.1 ?_;replace h:=h.2))
 |indexStr =>
  match xs,h with
  |[],h=>simp[AF] at h
  |[_],h=>simp[AF] at h
  |_::_::_::_,h=>simp[AF] at h
  |[x,y],h =>
   cases x<;>cases y<;>simp only[AF] at h<;>try exact h.elim
   all_goals repeat (first|(exact⟨_,Aa rfl rfl,h⟩;done)|(refine peel h.1 ?_;replace h:=h.2))
 |extract i =>
  match xs,h with
  |[],h=>simp[AF] at h
  |_::_::_,h=>simp[AF] at h
  |[x],h =>
   cases x<;>simp only[AF] at h<;>try exact h.elim
   all_goals repeat (first|(exact⟨_,Aa rfl rfl,h⟩;done)|(refine peel h.1 ?_;replace h:=h.2))
 |len str =>
  cases str
  ·match xs,h with
   |[],h=>simp[AF] at h
   |_::_::_,h=>simp[AF] at h
   |[x],h =>
    cases x<;>simp only[AF] at h<;>try exact h.elim
    all_goals exact⟨_,Aa rfl rfl,h⟩
  ·match xs,h with
   |[],h=>simp[AF] at h
   |_::_::_,h=>simp[AF] at h
   |[x],h =>
    cases x<;>simp only[AF] at h<;>try exact h.elim
    all_goals exact⟨_,Aa rfl rfl,h⟩
 |cap =>
  match xs,h with
  |[],h=>simp[AF] at h
  |_::_::_,h=>simp[AF] at h
  |[x],h =>
   cases x<;>simp only[AF] at h<;>try exact h.elim
   all_goals exact⟨_,Aa rfl rfl,h⟩
 |max =>
  match xs,h with
  |[],h=>simp[AF] at h
  |[_],h=>simp[AF] at h
  |_::_::_::_,h=>simp[AF] at h
  |[x,y],h =>
   cases x<;>cases y<;>simp only[AF] at h<;>try exact h.elim
   all_goals repeat (first|(exact⟨_,Aa rfl rfl,h⟩;done)|(refine peel h.1 ?_;replace h:=h.2))
 |min =>
  match xs,h with
  |[],h=>simp[AF] at h
  |[_],h=>simp[AF] at h
  |_::_::_::_,h=>simp[AF] at h
  |[x,y],h =>
   cases x<;>cases y<;>simp only[AF] at h<;>try exact h.elim
   all_goals repeat (first|(exact⟨_,Aa rfl rfl,h⟩;done)|(refine peel h.1 ?_;replace h:=h.2))
 |mkFunc f =>
  exact⟨_,Aa rfl rfl,h⟩
 |mapGet z =>
  match xs,h with
  |[],h=>simp[AF] at h
  |[x],h=>cases x<;>simp[AF] at h
  |_::_::_::_,h=>simp[AF] at h
  |[x,y],h =>
   cases x<;>try (simp only[AF] at h;done)
   cases y<;>simp only[AF] at h<;>try exact h.elim
   obtain⟨h1,h2,h3,h4,h5⟩:=h;obtain⟨u,hu,h5⟩:=Cn h5;exact⟨u,⟨h1,h2,h3,h4,by rw[hu];exact⟨rfl,rfl⟩⟩,h5⟩
 |toStr =>
  match xs,h with
  |[],h=>simp[AF] at h
  |_::_::_,h=>simp[AF] at h
  |[x],h =>
   obtain⟨h1,h2,bs,h3,h4⟩:=h;exact⟨_,⟨h1,h2,bs,h3,rfl,rfl⟩,h4⟩
 |runStr =>
  match xs,h with
  |[],h=>simp[AF] at h
  |_::_::_,h=>simp[AF] at h
  |[x],h =>
   obtain⟨h1,h2,bs,h3,h4⟩:=h;exact⟨_,⟨h1,h2,bs,h3,rfl,rfl⟩,h4⟩
 |_=>simp[AK.still] at hk
theorem Tq{k:AK}{xs:List AV}{K:AV->Prop}(h:Tp P k H xs K):∃x,QY P k H xs x/\K x:=by
 unfold Tp at h;split at h
 ·obtain⟨x,h1,h2⟩:=h
  exact⟨x,.inl ⟨_,_,_,rfl,rfl,h1⟩,h2⟩
 ·exact⟨_,.inr (.inl ⟨_,_,_,_,rfl,h.1,h.2.1,h.2.2.1,rfl⟩),h.2.2.2⟩
 ·obtain⟨x,h1,h2⟩:=NI h.1 h.2
  exact⟨x,.inr (.inr ⟨h.1,h1⟩),h2⟩
theorem Tr{op:Op}{w len:Nat}{z:AV}{idx:List Nat}(h:Cu P op=some (.bslice w len z idx)):
 ∃t ps e i zv,op=.buildSlice t len ps/\P.underlying t=some (.slice e)/\P.info? e=some i/\i.zero=some zv/\avOf zv=some z/\0<i.size/\zv.cells.size=i.size/\(∀c∈zv.cells,c.oneCell'=true)/\len * i.size<=2 ^ 24/\w=i.size/\idx=ps.toList.map (·.1):=by
 replace h:=Ik h (by simp);cases op
 case buildSlice t len' ps =>
  simp only[ES] at h;split at h
  ·rename_i e ht
   split at h
   ·rename_i i hi
    split at h
    ·rename_i zv hz
     split at h
     ·rename_i x hzx
      split at h
      ·rename_i hc
       cases h;simp only[Ac,Ah,BK,B7] at hc;exact⟨t,ps,e,i,zv,rfl,ht,hi,hz,hzx,hc.1.1.1,hc.1.1.2,hc.1.2,hc.2,rfl,rfl⟩
      ·cases h
     ·cases h
    ·cases h
   ·cases h
  ·cases h
 case makeMap t r=>cases r<;>cases h
 case lookup t a b c =>
  cases c
  ·simp only[ES] at h
   repeat' split at h
   all_goals first|(cases h;done)|(obtain⟨_,_,h⟩:=Ag.1 h;cases h;done)
  ·cases h
 all_goals
  exfalso;simp only[ES,EZ] at h
  repeat' split at h
 all_goals
  first
   |(cases h;done)
   |(obtain⟨⟨_,_⟩,_,h⟩:=Ag.1 h;cases h;done)
   |(obtain⟨_,_,h⟩:=Ag.1 h;cases h;done)
def MS.sealed_(S:MS)(o:Obj):MS:={ S with w:=S.w.alloc o,im:=λb=>S.im b\/b=S.w.heap.size }
theorem z1n{S:MS}(hS:SRel S H)(o:Obj):Evo S (S.sealed_ o)/\SRel (S.sealed_ o) H:=by
 have e:Evo S (S.sealed_ o):=by
  refine⟨rfl,rfl,⟨rfl,Ad _⟩,rfl,by show _<=(S.w.alloc o).heap.size;rw[size_alloc];omega,λb hb=>heap_alloc_lt _ _ _ (hS.im b hb),λb hb=>.inl hb,λb hb=>hb,λb hb=>?_,Ad _,λg hg=>Ad _,λg hg _=>⟨rfl,rfl,rfl⟩⟩;rcases hb with hb|hb
  ·exact .inl hb
  ·exact .inr λhk=>by have:=hS.im b (.inr hk);omega
 refine⟨e,hS.n,λg hg=>?_,hS.apart,λb hb=>?_⟩
 ·have hr:=hS.grp g hg
  refine hr.mono' e (by rw[hS.n];exact hg) rfl (λhh=>heap_alloc_lt _ _ _ (hr.has_lt hh)) (λhh=>?_);have h1:=hr.has_ni hh;have h2:=hr.has_lt hh;rintro ((hi|hi)|hk)
  ·exact h1 (.inl hi)
  ·omega
  ·exact h1 (.inr hk)
 ·show b<(S.w.alloc o).heap.size
  rw[size_alloc];rcases hb with (hb|hb)|hb
  ·have:=hS.im b (.inl hb);omega
  ·omega
  ·have:=hS.im b (.inr hb);omega
theorem Xr{S:MS}(hS:SRel S H){env:Env}{a:Act}(hF:FRel S n env a){o:Oper}{q:AOp}(h:Cs P n ops o=some q){x:AV}(hq:QY P q.k H (q.vals env) x)
 {N:Act->World->Prop} {Q:Exit->Act->World->Prop} (hN:∀S' a',Evo S S'->SRel S' H->FRel S' n (env.put q.dst x) a'->N a' S'.w):o.wpIn (fen rd) mm P a S.w N Q:=by
 rcases hq with⟨f,caps,ys,hk,hxs,hc⟩|⟨w,len,z,idx,hk,hfit,hw,hp,rfl⟩|⟨_,hst⟩
 ·have hst:AF P q.k H (q.vals env) (λy H'=>y=x/\H'=H):=by rw[hk,hxs];exact hc
  refine z92 hS hF h hst (λS' H' y a' e hS' hF' hK=>?_) rd mm;obtain⟨rfl,rfl⟩:=hK;exact hN S' a' e hS' hF'
 ·obtain⟨h1,h2,h3,h4,_⟩:=Cb h
  have hargs:=Jt hF h2;rw[hk] at h1;obtain⟨t,ps,e,i,zv,hop,ht,hi,hz,hzx,h0,hzs,hz1,hmax,rfl,rfl⟩:=Tr h1
  have hx':AB S (q.vals env) (ps.toList.map λp=>a.eval p.2):=by
   have:AB S (q.vals env) (o.op.operands.toList.map a.eval):=hargs;rw[hop] at this;simpa [Op.operands,CH,Function.comp_def] using this
  obtain⟨cells,vs,run,g2,g3,g4,g5⟩:=PV (P:=P) (S:=S) len ht hi hz hzx h0 hzs hz1 hmax ps.toList hx' hfit;obtain⟨ev,hS'⟩:=z1n hS (.cells cells e)
  have hrun:(execOp a.eval o).run P S.w=.ok (.value (.slice (some ⟨S.w.heap.size,0,none⟩) len len)) (S.w.alloc (.cells cells e)):=by
   rw[<-run];obtain⟨dst,op,type,pos,after,guard⟩:=o;change op=_ at hop;subst hop;rfl
  have hsem:o.semAt (fen rd).round a.eval=execOp a.eval o:=Oper.semAt_eq _ _ _ λc hc=>by rw[hop] at hc;cases hc
  refine⟨λ_ _=>trivial,?_⟩;rw[hsem,hrun];refine hN (S.sealed_ (.cells cells e)) (a.put o.dst (.slice (some ⟨S.w.heap.size,0,none⟩) len len)) ev hS' ?_;rw[h3];refine (hF.mono ev).put h4 ⟨hp,hw,_,vs,?_,?_,AB.mono ev _ g3,λ_=>⟨S.w.heap.size,0,rfl,.inr rfl,g5.row (heap_alloc_new _ _)⟩⟩
  ·rw[GN];simp
  ·intro hn;cases hn
 ·refine z92 hS hF h hst (λS' H' y a' e hS' hF' hK=>?_) rd mm
  obtain⟨rfl,rfl⟩:=hK;exact hN S' a' e hS' hF'
def Lets(q:AOp)(env:Env):Prop:=match q.guard with|none=>True|some (d,want)=>env d=.bool want
def Bars(q:AOp)(env:Env):Prop:=match q.guard with|none=>False|some (d,want)=>env d=.bool (!want)\/env d=.tup []
def IN(P:Program)(H:A5)(q:AOp)(x:AV)(env:Env):Prop:=(Lets q env/\QY P q.k H (q.vals env) x)\/(Bars q env/\x=.tup [])
theorem Kc{o:Oper}{q:AOp}(h:Cs P n ops o=some q){S:MS}{env:Env}{a:Act}(hF:FRel S n env a):(Lets q env->Region.wanted o (yielded ops a.tmps)=true)/\(Bars q env->Region.wanted o (yielded ops a.tmps)=false):=by
 obtain⟨_,_,_,_,h5⟩:=Cb h;rcases h5 with⟨h1,h2⟩|⟨j,want,d,h1,h2,h3,h4⟩
 ·simp[Lets,Bars,h2,Region.wanted,h1]
 ·obtain⟨y1,y2⟩:=PX hF h3 h4
  simp only[Lets,Bars,h2,Region.wanted,h1];refine⟨λhh=>?_,λhh=>?_⟩
  ·rw[y1 _ hh];simp
  ·rcases hh with hh|hh
   ·rw[y1 _ hh];cases want<;>rfl
   ·rw[y2 hh];rfl
theorem Ts{S:MS}(hS:SRel S H){env:Env}{a:Act}(hF:FRel S n env a){i:Nat}{o:Oper}(ho:ops[i]? = some o){q:AOp}(h:Cs P n ops o=some q){x:AV}(hy:IN P H q x env)
 {N:Act->World->Prop} {Q:Exit->Act->World->Prop} (hN:∀S' a',Evo S S'->SRel S' H->FRel S' n (env.put q.dst x) a'->N a' S'.w):wpOpIn (fen rd) mm P ops Q i N a S.w:=by
 obtain⟨hl,hb⟩:=Kc h hF;unfold wpOpIn;simp only[ho];rcases hy with⟨h1,h2⟩|⟨h1,rfl⟩
 ·rw[Ae (hl h1)]
  exact Xr hS hF h h2 hN
 ·rw[Ab (by rw[hb h1];simp)]
  obtain⟨_,_,h3,h4,_⟩:=Cb h;exact⟨λ_ _=>trivial,hN S _ (.refl S) hS (by rw[h3];exact hF.put h4 IM)⟩
def anyA(P:Program)(md:Region.Mode)(ops:Array Oper)(l:List AOp)(H:A5)(Q:Env->Prop):Nat->Array Bool->Env->Prop
 |0,listed,env=>Region.ready md ops listed=[]/\Q env
 |fuel+1,listed,env=>(Region.ready md ops listed=[]->Q env)/\∀i∈Region.ready md ops listed,∃q x,l[i]? = some q/\IN P H q x env/\anyA P md ops l H Q fuel (listed.setIfInBounds i true) (env.put q.dst x)
theorem Fb{l:List Oper}{l':List AOp}(h:l.mapM (Cs P n ops)=some l'):∀{i:Nat}{o:Oper},l[i]? = some o->∃q,l'[i]? = some q/\Cs P n ops o=some q:=by
 induction l generalizing l' with
 |nil=>intro i o ho;simp at ho
 |cons y l ih =>
  rw[BL] at h;simp only[Option.bind_eq_bind,B0,Option.pure_def,Aq] at h;obtain⟨q,hq,r,hr,rfl⟩:=h;intro i o ho;cases i with
  |zero=>simp at ho;subst ho;exact⟨q,rfl,hq⟩
  |succ i=>simp at ho;simpa using ih hr ho
theorem Tt{l:List AOp}(hl:ops.toList.mapM (Cs P n ops)=some l){Q:Env->Prop}{Q':Exit->Act->World->Prop}:∀(fuel:Nat)(listed:Array Bool)(env:Env)(S:MS)(a:Act),anyA P md ops l H Q fuel listed env->SRel S H->FRel S n env a ->
 (∀S' env' a',Evo S S'->SRel S' H->FRel S' n env' a'->Q env'->Q' .normal a' S'.w)->wpAnyIn (fen rd) mm P md ops Q' fuel listed a S.w
 |0,listed,env,S,a,h,hS,hF,hQ=>⟨h.1,hQ S env a (.refl S) hS hF h.2⟩
 |fuel+1,listed,env,S,a,h,hS,hF,hQ=>by
  refine⟨λh0=>hQ S env a (.refl S) hS hF (h.1 h0),λi hi=>?_⟩;obtain⟨q,x,hq,hy,hrest⟩:=h.2 i hi;obtain⟨_,o,ho,_⟩:=mem_ready.1 hi;obtain⟨q',hq',hc⟩:=Fb hl (i:=i) (o:=o) (by simpa using ho);rw[hq] at hq';cases hq';exact Ts hS hF ho hc hy λS' a' e hS' hF'=>Tt hl fuel _ _ S' a' hrest hS' hF' λS2 env2 a2 e2 hS2 hF2 hQ2=>hQ S2 env2 a2 (e.trans e2) hS2 hF2 hQ2
theorem Vw{x:Operand}{t:Nat}(h:H5 n x=some (.slot t)):x=.tmp t:=by
 cases x<;>simp only[H5] at h
 ·split at h
  ·cases h;rfl
  ·cases h
 ·obtain⟨_,_,h⟩:=Ag.1 h;cases h
 ·cases h
 ·cases h
theorem KB{d:Nat}:∀{l:List Operand}{l':List AArg},l.mapM (H5 n)=some l'->AArg.slot d∈l'->Operand.tmp d∈l
 |[],l',h,hd=>by simp at h;subst h;simp at hd
 |x::l,l',h,hd=>by
  rw[BL] at h;simp only[Option.bind_eq_bind,B0,Option.pure_def,Aq] at h;obtain⟨y,hy,r,hr,rfl⟩:=h;rcases Af.1 hd with rfl|hd
  ·rw[Vw hy];simp
  ·exact List.mem_cons_of_mem _ (KB hr hd)
theorem Nq{o:Oper}{q:AOp}(h:Cs P n ops o=some q){dst:Option Nat}(hd:∀d,dst=some d->d∉o.looksAt ops)(env:Env)(x:AV):
 q.vals (env.put dst x)=q.vals env/\(Lets q (env.put dst x)↔Lets q env)/\(Bars q (env.put dst x)↔Bars q env):=by
 cases dst with
 |none=>exact⟨rfl,Fy,Fy⟩
 |some d =>
  have hnd:=hd d rfl;obtain⟨_,h2,_,_,h5⟩:=Cb h;refine⟨?_,?_⟩
  ·unfold AOp.vals
   refine AT λy hy=>?_;cases y with
   |const z=>rfl
   |slot t =>
    have ht:t≠d:=λe=>by
     subst e;have:=KB h2 hy;exact hnd (C0 _ (List.mem_filterMap.2 ⟨.tmp t,this,rfl⟩))
    show (if t=d then x else env t)=env t;rw[Ab ht]
  ·rcases h5 with⟨_,hg⟩|⟨j,want,d',hg,hg',hj,_⟩
   ·simp[Lets,Bars,hg]
   ·have hne:d'≠d:=λe=>by
     subst e;exact hnd (CG _ (by simp[hg,hj]))
    have e:env.put (some d) x d'=env d':=by show (if d'=d then x else env d')=_;rw[Ab hne]
    simp[Lets,Bars,hg',e]
theorem put_comm(env:Env){x y:Option Nat}(u v:AV)(h:∀d,x=some d->y≠some d):(env.put x u).put y v=(env.put y v).put x u:=by
 cases x with
 |none=>rfl
 |some d =>
  cases y with
  |none=>rfl
  |some e =>
   have hne:e≠d:=λhe=>h d rfl (he ▸ rfl);funext j;show (if j=e then v else if j=d then u else env j)=(if j=d then u else if j=e then v else env j);by_cases h1:j=e
   ·subst h1;rw[Ae rfl,Ab hne,Ae rfl]
   ·rw[Ab h1,Ab h1]
theorem Ju{o:Oper}{q:AOp}(h:Cs P n ops o=some q){dst:Option Nat}(hd:∀d,dst=some d->d∉o.looksAt ops){env:Env}{x y:AV}:IN P H q y (env.put dst x)↔IN P H q y env:=by
 obtain⟨h1,h2,h3⟩:=Nq h hd env x;unfold IN;rw[h1,h2,h3]
theorem PZ{l:List AOp}(hl:ops.toList.mapM (Cs P n ops)=some l){Q:Env->Prop}{i:Nat}{oi:Oper}{qi:AOp}{x:AV}(hi:ops[i]? = some oi)(hqi:l[i]? = some qi):∀(fuel:Nat)(listed:Array Bool)(env:Env),
 (∀j oj,ops[j]? = some oj->j≠i->listed.getD j true=false->(∀e∈oj.after,Region.binds md e=true->e.on≠i)->oi.apart ops oj=true) ->
 i∈Region.ready md ops listed->IN P H qi x env->anyA P md ops l H Q fuel (listed.setIfInBounds i true) (env.put qi.dst x)->anyA P md ops l H Q (fuel+1) listed env:=by
 have hci:Cs P n ops oi=some qi:=by
  obtain⟨q,hq,hc⟩:=Fb hl (i:=i) (o:=oi) (by simpa using hi);rw[hqi] at hq;cases hq;exact hc
 intro fuel
 induction fuel with
 |zero =>
  intro listed env _ hr hy H;refine⟨λh=>(by rw[h] at hr;cases hr),λj hj=>?_⟩;by_cases hji:j=i
  ·subst hji;exact⟨qi,x,hqi,hy,H⟩
  ·have:=ready_mono hj hji
   rw[H.1] at this;cases this
 |succ fuel ih =>
  intro listed env hfree hr hy H;refine⟨λh=>(by rw[h] at hr;cases hr),λj hj=>?_⟩;by_cases hji:j=i
  ·subst hji;exact⟨qi,x,hqi,hy,H⟩
  ·obtain⟨qj,xj,hqj,hyj,hrest⟩:=H.2 j (ready_mono hj hji)
   obtain⟨hjun,oj,hoj,hall⟩:=mem_ready.1 hj
   have hcj:Cs P n ops oj=some qj:=by
    obtain⟨q,hq,hc⟩:=Fb hl (i:=j) (o:=oj) (by simpa using hoj);rw[hqj] at hq;cases hq;exact hc
   have hnot:∀e∈oj.after,Region.binds md e=true->e.on≠i:=λe he hb heq=>by
    have h1:=hall e he hb;have h0:=(mem_ready.1 hr).1;rw[heq] at h1;rcases Ak i listed.size with h'|h'
    ·simp[h'] at h0 h1;rw[h0] at h1;cases h1
    ·simp[C5 h'] at h1
   obtain⟨a1,a2,a3⟩:=Oper.apart_spec (hfree j oj hoj hji hjun hnot);have di:qi.dst=oi.dst:=(Cb hci).2.2.1;have dj:qj.dst=oj.dst:=(Cb hcj).2.2.1
   have hfree':∀k ok,ops[k]? = some ok->k≠i->(listed.setIfInBounds j true).getD k true=false ->
    (∀e∈ok.after,Region.binds md e=true->e.on≠i)->oi.apart ops ok=true:=λk ok hk hki hun hno=>by
    refine hfree k ok hk hki ?_ hno;by_cases hjk:j=k
    ·subst hjk;exact hjun
    ·rw[getD_set_ne true hjk] at hun;exact hun
   refine⟨qj,xj,hqj,(Ju hcj (by rw[di];exact a1)).1 hyj,ih (listed.setIfInBounds j true) _ hfree' (ready_mono hr (De hji)) ((Ju hci (by rw[dj];exact a3)).2 hy) ?_⟩;rw[Cw _ _ hji,put_comm env xj x (by rw[di,dj];intro d hd hh;exact a2 d hh hd)];exact hrest
theorem FB{q:AOp}{env:Env}{f:Bool->Env->Prop}(hg:He env q.guard f):(Lets q env/\f true env)\/(Bars q env/\f false env):=by
 unfold Lets Bars;cases hq:q.guard with
 |none=>rw[hq] at hg;exact .inl ⟨trivial,hg⟩
 |some gw =>
  obtain⟨d,want⟩:=gw;rw[hq] at hg;simp only[He] at hg;cases hx:env d<;>rw[hx] at hg<;>try exact (show False from hg).elim
  ·rename_i b
   have hg:=NF hg;by_cases hb:b=want
   ·have:=hg.1 hb
    rw[Xq (by rw[hx,hb])] at this;exact .inl ⟨by simp[hx,hb],this⟩
   ·have hb':b=!want:=by cases b<;>cases want<;>simp_all
    have:=hg.2 hb';rw[Xq (by rw[hx,hb'])] at this;exact .inr ⟨.inl (by simp[hx,hb']),this⟩
  ·rename_i vs
   cases vs with
   |nil=>exact .inr ⟨.inr hx,hg⟩
   |cons _ _=>exact (show False from hg).elim
theorem Xs{L:List AOp}(hL:ops.toList.mapM (Cs P n ops)=some L){Q:Env->Prop}:∀(l:List Oper)(l':List AOp)(k:Nat)(listed:Array Bool)(env:Env),(∀j,l[j]? = ops[k+j]?)->(∀j,l'[j]? = L[k+j]?)->l.length=l'.length ->
 Region.lexFrom md ops l.length k listed=true->runQ P H l' env Q->anyA P md ops L H Q l.length listed env
 |[],[],_,_,_,_,_,_,hB,h=>⟨by simpa [Region.lexFrom] using hB,h⟩
 |o::l,q::l',k,listed,env,hl,hl',hlen,hB,h=>by
  have h0:ops[k]? = some o:=by simpa using (hl 0).symm
  have h0':L[k]? = some q:=by simpa using (hl' 0).symm
  simp only[List.length_cons,Region.lexFrom,Ac] at hB;obtain⟨⟨hr,hf⟩,hB'⟩:=hB;simp only[runQ] at h;have ih:=λenv' (hh:runQ P H l' env' Q)=>Xs hL l l' (k+1) (listed.setIfInBounds k true) env' (λj=>by have:=hl (j+1);simpa [Bo,Ci 1 j] using this) (λj=>by have:=hl' (j+1);simpa [Bo,Ci 1 j] using this) (by simpa using hlen) hB' hh;rcases FB h with⟨h1,h2⟩|⟨h1,h2⟩
  ·simp only[Bi] at h2
   obtain⟨x,hx,hK⟩:=Tq h2;exact PZ hL h0 h0' l.length listed env (Region.free_spec h0 hf) (by simpa using hr) (.inl ⟨h1,hx⟩) (ih _ hK)
  ·simp only[A8,Bt] at h2
   exact PZ hL h0 h0' l.length listed env (Region.free_spec h0 hf) (by simpa using hr) (.inr ⟨h1,rfl⟩) (ih _ h2)
 |[],_::_,_,_,_,_,_,hlen,_,_=>by simp at hlen
 |_::_,[],_,_,_,_,_,hlen,_,_=>by simp at hlen
theorem mapM_length{α β:Type}{f:α->Option β}:∀{l:List α}{l':List β},l.mapM f=some l'->l.length=l'.length
 |[],l',h=>by simp at h;subst h;rfl
 |x::l,l',h=>by
  rw[BL] at h;simp only[Option.bind_eq_bind,B0,Option.pure_def,Aq] at h;obtain⟨y,_,r,hr,rfl⟩:=h;simp[mapM_length hr]
theorem Tu{α β:Type}{f:α->Option β}:∀{l:List α}{l':List β},l.mapM f=some l'->∀m,(l.drop m).mapM f=some (l'.drop m)
 |[],l',h,m=>by simp at h;subst h;simp
 |x::l,l',h,0=>by simpa using h
 |x::l,l',h,m+1=>by
  rw[BL] at h;simp only[Option.bind_eq_bind,B0,Option.pure_def,Aq] at h;obtain⟨y,_,r,hr,rfl⟩:=h;simpa using Tu hr m
theorem Zl{S:MS}{a:Act}{env:Env}{id:Nat}{l:List AOp}(hm:P.follows .mixedOrders=true)(hB:Region.lexB .any ops=true)(hl:ops.toList.mapM (Cs P n ops)=some l)(hS:SRel S H)(hF:FRel S n env a){K:Env->Prop}(h:runQ P H l env K)
 {Q:Exit->Act->World->Prop} (hQ:∀S' env' a',Evo S S'->SRel S' H->FRel S' n env' a'->K env'->Q .normal a' S'.w):(Code.region id ops true).wpIn (fen rd) mm P Q a S.w:=by
 simp only[Region.lexB,Ac] at hB;have hlen:ops.toList.length=l.length:=mapM_length hl;have:=Xs (md:=.any) hl ops.toList l 0 (Array.replicate ops.size false) env (by simp) (by simp) hlen (by simpa using hB.2) h;have e:=Evo.drew S;exact wpIn_region_any hm (Tt hl ops.size _ env { S with w:=S.w.drew } a (by simpa using this) hS.drew (hF.mono e) λS' env' a' e' hS' hF' hK=>hQ S' env' a' (e.trans e') hS' hF' hK)
def anyL(P:Program)(md:Region.Mode)(ops:Array Oper)(l:List AOp)(H:A5)(m:Nat)(L:Array Bool->Env->Prop):Nat->Array Bool->Env->Prop
 |0,listed,env=>L listed env
 |f+1,listed,env=>Region.ready md ops listed≠[]/\∀i∈Region.ready md ops listed,i<m/\∃q x,l[i]? = some q/\IN P H q x env/\anyL P md ops l H m L f (listed.setIfInBounds i true) (env.put q.dst x)
theorem Qa{l:List AOp}(hl:ops.toList.mapM (Cs P n ops)=some l){m g:Nat}{L:Array Bool->Env->Prop}{Q':Exit->Act->World->Prop}:∀(f:Nat)(listed:Array Bool)(env:Env)(S:MS)(a:Act),anyL P md ops l H m L f listed env->SRel S H->FRel S n env a ->
 (∀listed S' env' a',Evo S S'->SRel S' H->FRel S' n env' a'->L listed env'->wpAnyIn (fen rd) mm P md ops Q' g listed a' S'.w)->wpAnyIn (fen rd) mm P md ops Q' (f+g) listed a S.w
 |0,listed,env,S,a,h,hS,hF,hQ=>by rw[Bb];exact hQ listed S env a (.refl S) hS hF h
 |f+1,listed,env,S,a,h,hS,hF,hQ=>by
  rw[show f+1+g=(f+g)+1 by omega];refine⟨λh0=>absurd h0 h.1,λi hi=>?_⟩;obtain⟨_,q,x,hq,hy,hrest⟩:=h.2 i hi;obtain⟨_,o,ho,_⟩:=mem_ready.1 hi;obtain⟨q',hq',hc⟩:=Fb hl (i:=i) (o:=o) (by simpa using ho);rw[hq] at hq';cases hq';exact Ts hS hF ho hc hy λS' a' e hS' hF'=>Qa hl f _ _ S' a' hrest hS' hF' λlisted S2 env2 a2 e2 hS2 hF2 hQ2=>hQ listed S2 env2 a2 (e.trans e2) hS2 hF2 hQ2
theorem Qb{l:List AOp}(hl:ops.toList.mapM (Cs P n ops)=some l){m:Nat}{L:Array Bool->Env->Prop}{i:Nat}{oi:Oper}{qi:AOp}{x:AV}(hi:ops[i]? = some oi)(hqi:l[i]? = some qi)
 (hs:Region.sinkB md ops m=true) (hc:Region.chainB md ops m=true) (hn:m<ops.size) (hin:i<m) (hdone:∀listed env,L listed env->∀j∈Region.ready md ops listed,m<=j):∀(f:Nat)(listed:Array Bool)(env:Env),HeadInv md ops m listed ->
 (∀j oj,ops[j]? = some oj->j≠i->listed.getD j true=false->(∀e∈oj.after,Region.binds md e=true->e.on≠i)->oi.apart ops oj=true) ->
 i∈Region.ready md ops listed->IN P H qi x env->anyL P md ops l H m L f (listed.setIfInBounds i true) (env.put qi.dst x)->anyL P md ops l H m L (f+1) listed env:=by
 have hci:Cs P n ops oi=some qi:=by
  obtain⟨q,hq,hc⟩:=Fb hl (i:=i) (o:=oi) (by simpa using hi);rw[hqi] at hq;cases hq;exact hc
 intro f
 induction f with
 |zero =>
  intro listed env inv _ hr hy h;have hun:=(mem_ready.1 hr).1;refine⟨λh=>(by rw[h] at hr;cases hr),λj hj=>?_⟩
  have hjm:j<m:=by
   rcases Ak j m with h|h
   ·exact h
   ·exact absurd hj (tail_waits hs hc hn inv _ i rfl hin hun j h)
  refine⟨hjm,?_⟩;by_cases hji:j=i
  ·subst hji;exact⟨qi,x,hqi,hy,h⟩
  ·have:=hdone _ _ h j (ready_mono hj hji)
   omega
 |succ f ih =>
  intro listed env inv hfree hr hy h;have hun:=(mem_ready.1 hr).1;refine⟨λh=>(by rw[h] at hr;cases hr),λj hj=>?_⟩
  have hjm:j<m:=by
   rcases Ak j m with h|h
   ·exact h
   ·exact absurd hj (tail_waits hs hc hn inv _ i rfl hin hun j h)
  refine⟨hjm,?_⟩;by_cases hji:j=i
  ·subst hji;exact⟨qi,x,hqi,hy,h⟩
  ·obtain⟨_,qj,xj,hqj,hyj,hrest⟩:=h.2 j (ready_mono hj hji)
   obtain⟨hjun,oj,hoj,hall⟩:=mem_ready.1 hj
   have hcj:Cs P n ops oj=some qj:=by
    obtain⟨q,hq,hc⟩:=Fb hl (i:=j) (o:=oj) (by simpa using hoj);rw[hqj] at hq;cases hq;exact hc
   have hnot:∀e∈oj.after,Region.binds md e=true->e.on≠i:=λe he hb heq=>by
    have h1:=hall e he hb;rw[heq,getD_both hun] at h1;cases h1
   obtain⟨a1,a2,a3⟩:=Oper.apart_spec (hfree j oj hoj hji hjun hnot);have di:qi.dst=oi.dst:=(Cb hci).2.2.1;have dj:qj.dst=oj.dst:=(Cb hcj).2.2.1
   have hfree':∀k ok,ops[k]? = some ok->k≠i->(listed.setIfInBounds j true).getD k true=false ->
    (∀e∈ok.after,Region.binds md e=true->e.on≠i)->oi.apart ops ok=true:=λk ok hk hki hun hno=>by
    refine hfree k ok hk hki ?_ hno;by_cases hjk:j=k
    ·subst hjk;exact hjun
    ·rw[getD_set_ne true hjk] at hun;exact hun
   refine⟨qj,xj,hqj,(Ju hcj (by rw[di];exact a1)).1 hyj,ih (listed.setIfInBounds j true) _ (inv.set hj hjm) hfree' (ready_mono hr (De hji)) ((Ju hci (by rw[dj];exact a3)).2 hy) ?_⟩;rw[Cw _ _ hji,put_comm env xj x (by rw[di,dj];intro d hd hh;exact a2 d hh hd)];exact hrest
theorem Xt{L0:List AOp}(hL:ops.toList.mapM (Cs P n ops)=some L0){m g:Nat}{Q:Env->Prop}(hs:Region.sinkB md ops m=true)(hc:Region.chainB md ops m=true)(hn:m<ops.size):
 ∀(l:List Oper)(l':List AOp)(k:Nat)(listed:Array Bool)(env:Env),(∀j,j<l.length->l[j]? = ops[k+j]?)->(∀j,j<l.length->l'[j]? = L0[k+j]?)->l.length=l'.length->k+l.length=m->HeadInv md ops m listed ->
 Region.lexHead md ops g l.length k listed=true->runQ P H l' env Q->anyL P md ops L0 H m (λlisted' env'=>Region.seqB md ops g m listed'=true/\Q env') l.length listed env
 |[],[],k,_,_,_,_,_,hk,_,hB,h=>by
  have:k=m:=by simpa using hk
  subst this;exact⟨by simpa [Region.lexHead] using hB,h⟩
 |o::l,q::l',k,listed,env,hl,hl',hlen,hk,inv,hB,h=>by
  have h0:ops[k]? = some o:=by simpa using (hl 0 (by simp)).symm
  have h0':L0[k]? = some q:=by simpa using (hl' 0 (by simp)).symm
  simp only[List.length_cons,Region.lexHead,Ac] at hB;obtain⟨⟨hr,hf⟩,hB'⟩:=hB;have hkm:k<m:=by simp only[List.length_cons] at hk;omega
  have hr':k∈Region.ready md ops listed:=by simpa using hr
  simp only[runQ] at h;have ih:=λenv' (hh:runQ P H l' env' Q)=>Xt hL hs hc hn l l' (k+1) (listed.setIfInBounds k true) env' (λj hj=>by have:=hl (j+1) (by simp;omega);simpa [Bo,Ci 1 j] using this) (λj hj=>by have:=hl' (j+1) (by simp;omega);simpa [Bo,Ci 1 j] using this) (by simpa using hlen) (by simp only[List.length_cons] at hk;omega) (inv.set hr' hkm) hB' hh;rcases FB h with⟨h1,h2⟩|⟨h1,h2⟩
  ·simp only[Bi] at h2
   obtain⟨x,hx,hK⟩:=Tq h2;exact Qb hL h0 h0' hs hc hn hkm (λlisted' env' hh=>seqB_ready hh.1) l.length listed env inv (Region.free_spec h0 hf) hr' (.inl ⟨h1,hx⟩) (ih _ hK)
  ·simp only[A8,Bt] at h2
   exact Qb hL h0 h0' hs hc hn hkm (λlisted' env' hh=>seqB_ready hh.1) l.length listed env inv (Region.free_spec h0 hf) hr' (.inr ⟨h1,rfl⟩) (ih _ h2)
 |[],_::_,_,_,_,_,_,hlen,_,_,_,_=>by simp at hlen
 |_::_,[],_,_,_,_,_,hlen,_,_,_,_=>by simp at hlen
theorem z1o{Q':Exit->Act->World->Prop}:∀(g k:Nat)(listed:Array Bool)(a:Act)(w:World),k+g=ops.size->Region.seqB md ops g k listed=true->wpOpsIn (fen rd) mm P ops Q' (List.range' k g) a w->wpAnyIn (fen rd) mm P md ops Q' g listed a w
 |0,_,_,_,_,_,hB,h=>⟨by simpa [Region.seqB] using hB,by simpa [wpOpsIn] using h⟩
 |g+1,k,listed,a,w,hk,hB,h=>by
  simp only[Region.seqB,Ac,Ah] at hB;refine⟨λh1=>(by rw[hB.1] at h1;cases h1),λi hi=>?_⟩;rw[hB.1] at hi;have hik:i=k:=by simpa using hi
  subst hik;have hlt:i<ops.size:=by omega
  have h0:ops[i]? = some ops[i]:=DI hlt;rw[show List.range' i (g+1)=i::List.range' (i+1) g from rfl] at h
  have hw:wpOpIn (fen rd) mm P ops Q' i (wpOpsIn (fen rd) mm P ops Q' (List.range' (i+1) g)) a w:=by
   unfold wpOpIn;simp only[wpOpsIn,h0] at h ⊢;exact h
  exact wpOpIn_mono (λa' w' h'=>z1o g (i+1) _ a' w' (by omega) hB.2 h') hw
theorem z1p{S:MS}{a:Act}{env:Env}{id m:Nat}{l:List AOp}(hm:P.follows .mixedOrders=true)(hB:Region.lexTailB .any ops m=true)(hl:ops.toList.mapM (Cs P n ops)=some l)(hS:SRel S H)(hF:FRel S n env a){K:Env->A5->Prop}
 (h:runQ P H (l.take m) env λenv'=>runK P (l.drop m) env' H K)
 {Q:Exit->Act->World->Prop} (hQ:∀S' H' env' a',Evo S S'->SRel S' H'->FRel S' n env' a'->K env' H'->Q .normal a' S'.w):(Code.region id ops true).wpIn (fen rd) mm P Q a S.w:=by
 simp only[Region.lexTailB,Ac,Ah] at hB;obtain⟨⟨⟨⟨hsel,hn⟩,hs⟩,hc⟩,hlex⟩:=hB;have hlen:ops.toList.length=l.length:=mapM_length hl;have hn':m<ops.toList.length:=by simpa using hn
 have htl:(ops.toList.take m).length=m:=by simp;omega
 have inv0:HeadInv .any ops m (Array.replicate ops.size false) :=
  ⟨by simp,λj oj _ hl=>(by rw[getD_replicate_false] at hl;cases hl),λt _ ht=>getD_in (by simpa using ht) (getD_replicate_false _ _)⟩
 have e:=Evo.drew S
 have hA:=Xt (md:=.any) (g:=ops.size-m) hl hs hc hn (ops.toList.take m) (l.take m) 0 _ env (λj hj=>by
  rw[htl] at hj
  simp[hj]) (λj hj=>by
  rw[htl] at hj
  simp[hj]) (by rw[BA,BA,hlen]) (by simpa using htl) inv0 (by rw[htl];exact hlex) h
 rw[htl] at hA;refine wpIn_region_any hm ?_;have hsz:ops.size=m+(ops.size-m):=by omega
 have:=Qa (rd:=rd) (mm:=mm) (Q':=Q) (g:=ops.size-m) hl m _ env { S with w:=S.w.drew } a hA hS.drew (hF.mono e) λlisted S' env' a' e' hS' hF' hh=>by
  obtain⟨hseq,hK⟩:=hh;have hdl:(ops.toList.drop m).length=ops.size-m:=by simp
  refine z1o _ _ _ _ _ (by omega) hseq ?_;have hmd:(ops.toList.drop m).mapM (Cs P n ops)=some (l.drop m):=Tu hl m;have:=KA (Q:=Q) (ops.toList.drop m) (l.drop m) m (λj=>by simp) hmd hS' hF' hK (λS2 H2 env2 a2 e2 hS2 hF2 hK2=>hQ S2 H2 env2 a2 ((e.trans e').trans e2) hS2 hF2 hK2) rd mm
  rwa [hdl] at this
 rw[<-hsz] at this;exact this
end
def hl(l:List Grp):A5:=⟨l.length,λg=>l.getD g default⟩
theorem ahp{n m:Nat}{f g:Nat->Grp}(h:n=m)(k:∀j,f j=g j):(⟨n,f⟩:A5)=⟨m,g⟩:=by
 subst h;rw[show f=g from funext k]
theorem F3(l:List Grp)(G:Grp):(hl l).push G=hl (l++[G]):=by
 refine ahp (by simp[hl]) λj=>?_;show (if j=l.length then G else l.getD j default)=(l++[G]).getD j default;by_cases h:j=l.length
 ·rw[Ae h,h];simp
 ·rw[Ab h]
  by_cases hj:j<l.length
  ·simp[List.getD,A9 hj]
  ·simp[List.getD,B9 (show l.length<=j by omega),B9 (show (l++[G]).length<=j by simp;omega)]
theorem Hr(l:List Grp)(g:Nat)(G:Grp)(h:g<l.length):(hl l).set g G=hl (l.set g G):=by
 refine ahp (by simp[hl]) λj=>?_;show (if j=g then G else l.getD j default)=(l.set g G).getD j default;by_cases hj:j=g
 ·rw[Ae hj,hj];simp[h]
 ·rw[Ab hj];simp[List.getD,Cz (De hj)]
structure Alike(H H':A5)(g:Nat):Prop where
 ver:(H'.at_ g).ver=(H.at_ g).ver
 w:(H'.at_ g).w=(H.at_ g).w
 exact:(H'.at_ g).exact=(H.at_ g).exact
 len:(H'.at_ g).xs.length=(H.at_ g).xs.length
theorem Alike.of_eq{H H':A5}{g:Nat}(h:H'.at_ g=H.at_ g):Alike H H' g:=by constructor<;>rw[h]
def BX(p:Nat->Prop):List AV->Prop
 |[]=>True
 |.ref g _ _ _::r=>p g/\BX p r
 |.ptr g _ _ _::r=>p g/\BX p r
 |.map g _::r=>p g/\BX p r
 |_::r=>BX p r
theorem CC{p q:Nat->Prop}(h:∀g,p g->q g):∀{xs:List AV},BX p xs->BX q xs
 |[],_=>trivial
 |x::r,hx=>by
  cases x<;>simp only[BX] at hx ⊢<;>first|exact CC h hx|exact⟨h _ hx.1,CC h hx.2⟩
section
variable {P:Program}{H H':A5}
theorem Tv{w:Nat}{x:AV}{lo hi mx:Option Int}{K:AV->Prop}(h:BX (Alike H H') [x])(hs:GB w x lo hi mx H K):GB w x lo hi mx H' K:=by
 cases mx with
 |some m=>simpa only[GB] using hs
 |none =>
  cases x<;>simp only[GB] at hs ⊢<;>try exact hs
  obtain⟨⟨h1,h2,h3,h4⟩,_⟩:=h;rw[h1,h2,h3,h4];exact hs
set_option maxHeartbeats 4000000 in
theorem NJ{k:AK}(hk:k.still=true)(hr:k.reads=false){xs:List AV}{x:AV}(hg:BX (Alike H H') xs)(h:AF P k H xs λy _=>y=x):AF P k H' xs λy _=>y=x:=by
 cases k<;>simp only[AK.still,AK.reads,reduceCtorEq] at hk hr
 case cap=>rcases xs with _|⟨a,_|⟨b,r⟩⟩<;>first|exact h|(cases a<;>exact h)
 case mv=>rcases xs with _|⟨a,_|⟨b,r⟩⟩<;>exact h
 case pick=>rcases xs with _|⟨a,_|⟨b,_|⟨c,_|⟨d,r⟩⟩⟩⟩<;>first|exact h|(cases a<;>exact h)
 case build=>exact h
 case nilCheck=>rcases xs with _|⟨a,_|⟨b,r⟩⟩<;>first|exact h|(cases a<;>exact h)
 case bin=>rcases xs with _|⟨a,_|⟨b,_|⟨c,r⟩⟩⟩<;>first|exact h|(cases a<;>exact h)|(cases a<;>cases b<;>exact h)
 case eqb=>rcases xs with _|⟨a,_|⟨b,_|⟨c,r⟩⟩⟩<;>first|exact h|(cases a<;>exact h)|(cases a<;>cases b<;>exact h)
 case eqs=>rcases xs with _|⟨a,_|⟨b,_|⟨c,r⟩⟩⟩<;>first|exact h|(cases a<;>exact h)|(cases a<;>cases b<;>exact h)
 case eqn=>rcases xs with _|⟨a,_|⟨b,_|⟨c,r⟩⟩⟩<;>first|exact h|(cases a<;>exact h)|(cases b<;>first|exact h|(cases a<;>exact h))
 case un=>rcases xs with _|⟨a,_|⟨b,r⟩⟩<;>exact h
 case conv=>rcases xs with _|⟨a,_|⟨b,r⟩⟩<;>first|exact h|(cases a<;>exact h)
 case slice =>
  rcases xs with _|⟨a,r⟩
  ·exact h
  ·have ha:BX (Alike H H') [a]:=by
    cases a<;>simp only[BX] at hg ⊢<;>exact⟨hg.1,trivial⟩
   obtain⟨p,hp,h⟩:=Cn h;obtain⟨q,hq,h⟩:=Cn h;obtain⟨s,hs,h1,h2⟩:=Cn h;simp only[AF,hp,optK,hq,hs];exact⟨h1,Tv ha h2⟩
 case faddr =>
  rcases xs with _|⟨a,_|⟨b,r⟩⟩<;>try exact h
  ·cases a<;>try exact h
   obtain⟨⟨h1,h2,h3,h4⟩,_⟩:=hg;simp only[AF] at h ⊢;rw[h1];exact h
  ·cases a<;>exact h
 case field=>rcases xs with _|⟨a,_|⟨b,r⟩⟩<;>first|exact h|(cases a<;>exact h)
 case iaddr =>
  rcases xs with _|⟨a,_|⟨b,_|⟨c,r⟩⟩⟩<;>try exact h
  ·cases a<;>exact h
  ·cases a<;>cases b<;>try exact h
   obtain⟨⟨h1,h2,h3,h4⟩,_⟩:=hg;simp only[AF] at h ⊢;rw[h1,h2];exact h
  ·cases a<;>cases b<;>exact h
 case iaddrA =>
  rcases xs with _|⟨a,_|⟨b,_|⟨c,r⟩⟩⟩<;>try exact h
  ·cases a<;>exact h
  ·cases a<;>cases b<;>try exact h
   obtain⟨⟨h1,h2,h3,h4⟩,_⟩:=hg;simp only[AF] at h ⊢;rw[h1];exact h
  ·cases a<;>cases b<;>exact h
 case index=>rcases xs with _|⟨a,_|⟨b,_|⟨c,r⟩⟩⟩<;>first|exact h|(cases a<;>exact h)|(cases a<;>cases b<;>exact h)
 case indexStr=>rcases xs with _|⟨a,_|⟨b,_|⟨c,r⟩⟩⟩<;>first|exact h|(cases a<;>exact h)|(cases a<;>cases b<;>exact h)
 case extract=>rcases xs with _|⟨a,_|⟨b,r⟩⟩<;>first|exact h|(cases a<;>exact h)
 case len s=>cases s<;>rcases xs with _|⟨a,_|⟨b,r⟩⟩<;>first|exact h|(cases a<;>exact h)
 case max=>rcases xs with _|⟨a,_|⟨b,_|⟨c,r⟩⟩⟩<;>first|exact h|(cases a<;>exact h)|(cases a<;>cases b<;>exact h)
 case min=>rcases xs with _|⟨a,_|⟨b,_|⟨c,r⟩⟩⟩<;>first|exact h|(cases a<;>exact h)|(cases a<;>cases b<;>exact h)
 case mkFunc=>exact h
set_option maxHeartbeats 4000000 in
theorem LB{k:AK}(hk:k.still=true){xs:List AV}{x:AV}(hg:BX (λg=>H'.at_ g=H.at_ g) xs)(h:AF P k H xs λy _=>y=x):AF P k H' xs λy _=>y=x:=by
 cases hr:k.reads
 ·exact NJ hk hr (CC (λg e=>Alike.of_eq e) hg) h
 ·cases k<;>simp only[AK.reads,reduceCtorEq] at hr
  case load =>
   rcases xs with _|⟨a,_|⟨b,r⟩⟩<;>try exact h
   ·cases a<;>try exact h
    simp only[AF] at h ⊢;rw[hg.1];exact h
   ·cases a<;>exact h
  case toStr =>
   rcases xs with _|⟨a,_|⟨b,r⟩⟩<;>try exact h
   cases a<;>try exact h
   ·simp only[AF,Gy,Gx] at h ⊢
    rw[hg.1];exact h
  case runStr =>
   rcases xs with _|⟨a,_|⟨b,r⟩⟩<;>try exact h
   cases a<;>try exact h
   ·simp only[AF,Gy,Gx] at h ⊢
    rw[hg.1];exact h
  case mapGet =>
   rcases xs with _|⟨a,_|⟨b,_|⟨c,r⟩⟩⟩<;>try exact h
   ·cases a<;>exact h
   ·cases a<;>cases b<;>try exact h
    simp only[AF] at h ⊢;rw[hg.1];exact h
   ·cases a<;>cases b<;>exact h
theorem Vx{w:Nat}{x:AV}{lo hi mx:Option Int}{K K':AV->Prop}(hk:∀x,K x->K' x)(h:GB w x lo hi mx H K):GB w x lo hi mx H K':=by
 obtain⟨y,h1,h2⟩:=PY h;cases mx with
 |some m =>
  simp only[GB] at h ⊢;obtain⟨a1,a2,a3,a4⟩:=h;refine⟨a1,a2,a3,?_⟩;cases x<;>first|exact a4|exact hk _ a4
 |none =>
  cases x<;>simp only[GB] at h ⊢<;>try exact h
  ·exact⟨h.1,h.2.1,hk _ h.2.2⟩
  ·exact⟨h.1,h.2.1,hk _ h.2.2⟩
  ·exact⟨h.1,h.2.1,h.2.2.1,h.2.2.2.1,hk _ h.2.2.2.2⟩
  ·exact⟨h.1,h.2.1,h.2.2.1,h.2.2.2.1,hk _ h.2.2.2.2⟩
  ·exact⟨h.1,h.2.1,h.2.2.1,h.2.2.2.1,h.2.2.2.2.1,h.2.2.2.2.2.1,hk _ h.2.2.2.2.2.2⟩
set_option maxHeartbeats 4000000 in
theorem still_mono{k:AK}(hs:k.still=true){xs:List AV}{K K':AV->A5->Prop}(hk:∀x H',K x H'->K' x H')(h:AF P k H xs K):AF P k H xs K':=by
 cases k<;>simp only[AK.still,reduceCtorEq] at hs
 case bin op =>
  have hb:∀{k:IntKind}{a b:Int}{L L':AV->Prop},(∀x,L x->L' x)->binI op k a b L->binI op k a b L':=λ{k a b L L'} hl hh=>by
   cases op<;>simp only[binI] at hh ⊢<;>first|exact hl _ hh|exact⟨hh.1,hl _ hh.2⟩
  rcases xs with _|⟨a,_|⟨b,_|⟨c,r⟩⟩⟩
  ·exact h
  ·cases a<;>exact h
  ·cases a<;>cases b<;>try exact h
   ·cases op<;>simp only[AF] at h ⊢<;>first|exact⟨h.1,hk _ _ h.2⟩|exact⟨h.1,hb (λx hh=>hk x H hh) h.2⟩
   ·cases op<;>simp only[AF] at h ⊢<;>first|exact h|exact hk _ _ h
  ·cases a<;>cases b<;>exact h
 case cap=>rcases xs with _|⟨a,_|⟨b,r⟩⟩<;>first|exact h|(cases a<;>first|exact h|exact hk _ _ h)
 case mapGet z =>
  rcases xs with _|⟨a,_|⟨b,_|⟨c,r⟩⟩⟩
  ·exact h
  ·cases a<;>exact h
  ·cases a<;>cases b<;>try exact h
   obtain⟨h1,h2,h3,h4,h5⟩:=h;obtain⟨u,hu,h5⟩:=Cn h5;exact⟨h1,h2,h3,h4,by rw[hu];exact hk _ _ h5⟩
  ·cases a<;>cases b<;>exact h
 case slice =>
  rcases xs with _|⟨a,r⟩
  ·exact h
  ·obtain⟨p,hp,h⟩:=Cn h
   obtain⟨q,hq,h⟩:=Cn h;obtain⟨s,hs,h1,h2⟩:=Cn h;simp only[AF,hp,optK,hq,hs];exact⟨h1,Vx (λx hh=>hk x H hh) h2⟩
 case build =>
  obtain⟨y,hy,h⟩:=Cn h;simp only[AF,hy,optK];exact hk _ _ h
 case eqs =>
  rcases xs with _|⟨a,_|⟨b,_|⟨c,r⟩⟩⟩
  ·exact h
  ·cases a<;>exact h
  ·cases a<;>cases b<;>try exact h
   obtain⟨y,hy,h⟩:=Cn h;simp only[AF,hy,optK];exact hk _ _ h
  ·cases a<;>cases b<;>exact h
 case toStr =>
  rcases xs with _|⟨a,_|⟨b,r⟩⟩
  ·exact h
  ·obtain⟨h1,h2,bs,h3,h4⟩:=h
   exact⟨h1,h2,bs,h3,hk _ _ h4⟩
  ·exact h
 case runStr =>
  rcases xs with _|⟨a,_|⟨b,r⟩⟩
  ·exact h
  ·obtain⟨h1,h2,bs,h3,h4⟩:=h
   exact⟨h1,h2,bs,h3,hk _ _ h4⟩
  ·exact h
 case un op =>
  rcases xs with _|⟨a,_|⟨b,r⟩⟩
  ·exact h
  ·cases op<;>cases a<;>simp only[AF] at h ⊢<;>first|exact h|exact hk _ _ h
  ·exact h
 case len s=>cases s<;>rcases xs with _|⟨a,_|⟨b,r⟩⟩<;>(try (cases a))<;>simp only[AF] at h ⊢<;>(repeat (first|exact h|exact hk _ _ h|(refine⟨h.1,?_⟩;replace h:=h.2)))
 case mv=>rcases xs with _|⟨a,_|⟨b,r⟩⟩<;>first|exact h|exact hk _ _ h
 case mkFunc=>exact hk _ _ h
 case pick=>rcases xs with _|⟨a,_|⟨b,_|⟨c,_|⟨d,r⟩⟩⟩⟩<;>(first|exact h|(cases a<;>first|exact h|exact hk _ _ h))
 case nilCheck=>rcases xs with _|⟨a,_|⟨b,r⟩⟩<;>(first|exact h|(cases a<;>first|exact h|(simp only[AF] at h ⊢;(repeat (first|exact h|exact hk _ _ h|(refine⟨h.1,?_⟩;replace h:=h.2))))))
 case conv=>rcases xs with _|⟨a,_|⟨b,r⟩⟩<;>(first|exact h|(cases a<;>first|exact h|(simp only[AF] at h ⊢;(repeat (first|exact h|exact hk _ _ h|(refine⟨h.1,?_⟩;replace h:=h.2))))))
 case load=>rcases xs with _|⟨a,_|⟨b,r⟩⟩<;>(first|exact h|(cases a<;>first|exact h|(simp only[AF] at h ⊢;(repeat (first|exact h|exact hk _ _ h|(refine⟨h.1,?_⟩;replace h:=h.2))))))
 case faddr=>rcases xs with _|⟨a,_|⟨b,r⟩⟩<;>(first|exact h|(cases a<;>first|exact h|(simp only[AF] at h ⊢;(repeat (first|exact h|exact hk _ _ h|(refine⟨h.1,?_⟩;replace h:=h.2))))))
 case field=>rcases xs with _|⟨a,_|⟨b,r⟩⟩<;>(first|exact h|(cases a<;>first|exact h|(simp only[AF] at h ⊢;(repeat (first|exact h|exact hk _ _ h|(refine⟨h.1,?_⟩;replace h:=h.2))))))
 case extract=>rcases xs with _|⟨a,_|⟨b,r⟩⟩<;>(first|exact h|(cases a<;>first|exact h|(simp only[AF] at h ⊢;(repeat (first|exact h|exact hk _ _ h|(refine⟨h.1,?_⟩;replace h:=h.2))))))
 case eqb=>rcases xs with _|⟨a,_|⟨b,_|⟨c,r⟩⟩⟩<;>(first|exact h|(cases a<;>first|exact h|(cases b<;>first|exact h|(simp only[AF] at h ⊢;(repeat (first|exact h|exact hk _ _ h|(refine⟨h.1,?_⟩;replace h:=h.2)))))))
 case iaddr=>rcases xs with _|⟨a,_|⟨b,_|⟨c,r⟩⟩⟩<;>(first|exact h|(cases a<;>first|exact h|(cases b<;>first|exact h|(simp only[AF] at h ⊢;(repeat (first|exact h|exact hk _ _ h|(refine⟨h.1,?_⟩;replace h:=h.2)))))))
 case iaddrA=>rcases xs with _|⟨a,_|⟨b,_|⟨c,r⟩⟩⟩<;>(first|exact h|(cases a<;>first|exact h|(cases b<;>first|exact h|(simp only[AF] at h ⊢;(repeat (first|exact h|exact hk _ _ h|(refine⟨h.1,?_⟩;replace h:=h.2)))))))
 case index=>rcases xs with _|⟨a,_|⟨b,_|⟨c,r⟩⟩⟩<;>(first|exact h|(cases a<;>first|exact h|(cases b<;>first|exact h|(simp only[AF] at h ⊢;(repeat (first|exact h|exact hk _ _ h|(refine⟨h.1,?_⟩;replace h:=h.2)))))))
 case indexStr=>rcases xs with _|⟨a,_|⟨b,_|⟨c,r⟩⟩⟩<;>(first|exact h|(cases a<;>first|exact h|(cases b<;>first|exact h|(simp only[AF] at h ⊢;(repeat (first|exact h|exact hk _ _ h|(refine⟨h.1,?_⟩;replace h:=h.2)))))))
 case max=>rcases xs with _|⟨a,_|⟨b,_|⟨c,r⟩⟩⟩<;>(first|exact h|(cases a<;>first|exact h|(cases b<;>first|exact h|(simp only[AF] at h ⊢;(repeat (first|exact h|exact hk _ _ h|(refine⟨h.1,?_⟩;replace h:=h.2)))))))
 case min=>rcases xs with _|⟨a,_|⟨b,_|⟨c,r⟩⟩⟩<;>(first|exact h|(cases a<;>first|exact h|(cases b<;>first|exact h|(simp only[AF] at h ⊢;(repeat (first|exact h|exact hk _ _ h|(refine⟨h.1,?_⟩;replace h:=h.2)))))))
 case eqn=>rcases xs with _|⟨a,_|⟨b,_|⟨c,r⟩⟩⟩<;>(first|exact h|(cases a<;>exact h)|(cases b<;>first|exact h|(cases a<;>first|exact h|(simp only[AF] at h ⊢;(repeat (first|exact h|exact hk _ _ h|(refine⟨h.1,?_⟩;replace h:=h.2)))))))
def QG(P:Program)(k:AK)(l:List Grp)(xs:List AV)(x:AV):Prop :=
 (∃f caps ys,k=.call/\xs=.fn f caps::ys/\∀H,B3 P f (ys++caps) H λy H'=>y=x/\H'=H) \/
 (∃w len z idx,k=.bslice w len z idx/\HH w len idx xs/\0<w/\Bh (F2 idx xs (List.replicate len z))=true/\x=.full w (F2 idx xs (List.replicate len z))) \/
 (k.still=true/\BX (·<l.length) xs/\AF P k (hl l) xs λy _=>y=x)
theorem QG.qy{k:AK}{l:List Grp}{xs:List AV}{x:AV}(h:QG P k l xs x):QY P k (hl l) xs x:=by
 rcases h with⟨f,caps,ys,h1,h2,h3⟩|h|⟨h1,_,h3⟩
 ·exact .inl ⟨f,caps,ys,h1,h2,h3 _⟩
 ·exact .inr (.inl h)
 ·obtain⟨x',h4,rfl⟩:=NI h1 h3
  exact .inr (.inr ⟨h1,h4⟩)
inductive Turn(l:List Grp):List Grp->Prop where
 |push (G:Grp):Turn l (l++[G])
 |store (g:Nat) (G:Grp) (h:g<l.length) (a:G.ver=(l.getD g default).ver) (b:G.w=(l.getD g default).w) (c:G.exact=(l.getD g default).exact) (d:G.xs.length=(l.getD g default).xs.length):Turn l (l.set g G)
theorem Dr(l:List Grp)(g:Nat):(hl l).at_ g=l.getD g default:=(rfl)
theorem QG.push{k:AK}{l:List Grp}{xs:List AV}{x:AV}(G:Grp)(h:QG P k l xs x):QG P k (l++[G]) xs x:=by
 rcases h with h|h|⟨h1,h2,h3⟩
 ·exact .inl h
 ·exact .inr (.inl h)
 ·refine .inr (.inr ⟨h1,CC (λg hg=>by rw[Aj];omega) h2,LB h1 (CC (λg hg=>?_) h2) h3⟩)
  rw[Dr,Dr];simp[List.getD,A9 hg]
theorem QG.stored{k:AK}(hr:k.reads=false){l:List Grp}{xs:List AV}{x:AV}{g:Nat}{G:Grp}(hg:g<l.length)(a:G.ver=(l.getD g default).ver)(b:G.w=(l.getD g default).w)(c:G.exact=(l.getD g default).exact)(d:G.xs.length=(l.getD g default).xs.length)
 (h:QG P k l xs x):QG P k (l.set g G) xs x:=by
 rcases h with h|h|⟨h1,h2,h3⟩
 ·exact .inl h
 ·exact .inr (.inl h)
 ·refine .inr (.inr ⟨h1,by rw[Ea];exact h2,NJ h1 hr (CC (λj hj=>?_) h2) h3⟩)
  by_cases hjg:j=g
  ·subst hjg
   constructor<;>rw[Dr,Dr]<;>simp[List.getD,hg] at a b c d ⊢<;>assumption
  ·refine Alike.of_eq ?_
   rw[Dr,Dr];simp[List.getD,Cz (De hjg)]
set_option maxHeartbeats 4000000 in
theorem QG.blind{k:AK}(hb:k.blind=true){l l':List Grp}(hlen:l.length<=l'.length){xs:List AV}{x:AV}(h:QG P k l xs x):QG P k l' xs x:=by
 rcases h with h|h|⟨h1,h2,h3⟩
 ·exact .inl h
 ·exact .inr (.inl h)
 ·refine .inr (.inr ⟨h1,CC (λg hg=>by omega) h2,?_⟩)
  cases k<;>simp only[AK.still,AK.blind,reduceCtorEq] at h1 hb
  case cap=>rcases xs with _|⟨a,_|⟨b,r⟩⟩<;>first|exact h3|(cases a<;>exact h3)
  case mv=>rcases xs with _|⟨a,_|⟨b,r⟩⟩<;>exact h3
  case pick=>rcases xs with _|⟨a,_|⟨b,_|⟨c,_|⟨d,r⟩⟩⟩⟩<;>first|exact h3|(cases a<;>exact h3)
  case build=>exact h3
  case nilCheck=>rcases xs with _|⟨a,_|⟨b,r⟩⟩<;>first|exact h3|(cases a<;>exact h3)
  case bin=>rcases xs with _|⟨a,_|⟨b,_|⟨c,r⟩⟩⟩<;>first|exact h3|(cases a<;>exact h3)|(cases a<;>cases b<;>exact h3)
  case eqb=>rcases xs with _|⟨a,_|⟨b,_|⟨c,r⟩⟩⟩<;>first|exact h3|(cases a<;>exact h3)|(cases a<;>cases b<;>exact h3)
  case eqs=>rcases xs with _|⟨a,_|⟨b,_|⟨c,r⟩⟩⟩<;>first|exact h3|(cases a<;>exact h3)|(cases a<;>cases b<;>exact h3)
  case eqn=>rcases xs with _|⟨a,_|⟨b,_|⟨c,r⟩⟩⟩<;>first|exact h3|(cases a<;>exact h3)|(cases b<;>first|exact h3|(cases a<;>exact h3))
  case un=>rcases xs with _|⟨a,_|⟨b,r⟩⟩<;>exact h3
  case conv=>rcases xs with _|⟨a,_|⟨b,r⟩⟩<;>first|exact h3|(cases a<;>exact h3)
  case field=>rcases xs with _|⟨a,_|⟨b,r⟩⟩<;>first|exact h3|(cases a<;>exact h3)
  case index=>rcases xs with _|⟨a,_|⟨b,_|⟨c,r⟩⟩⟩<;>first|exact h3|(cases a<;>exact h3)|(cases a<;>cases b<;>exact h3)
  case indexStr=>rcases xs with _|⟨a,_|⟨b,_|⟨c,r⟩⟩⟩<;>first|exact h3|(cases a<;>exact h3)|(cases a<;>cases b<;>exact h3)
  case extract=>rcases xs with _|⟨a,_|⟨b,r⟩⟩<;>first|exact h3|(cases a<;>exact h3)
  case len s=>cases s<;>rcases xs with _|⟨a,_|⟨b,r⟩⟩<;>first|exact h3|(cases a<;>exact h3)
  case max=>rcases xs with _|⟨a,_|⟨b,_|⟨c,r⟩⟩⟩<;>first|exact h3|(cases a<;>exact h3)|(cases a<;>cases b<;>exact h3)
  case min=>rcases xs with _|⟨a,_|⟨b,_|⟨c,r⟩⟩⟩<;>first|exact h3|(cases a<;>exact h3)|(cases a<;>cases b<;>exact h3)
  case mkFunc=>exact h3
end
section
variable {P:Program}{n:Nat}{ops:Array Oper}{md:Region.Mode}{rd:Option Nat}{mm:Nat}
def Comm(P:Program)(e:AK)(l l':List Grp):Prop:=∀q:AK,JF q e=true->∀ys z,QG P q l ys z->QG P q l' ys z
theorem at_lt{l:List Grp}{g:Nat}(h:((hl l).at_ g).exact=true):g<l.length:=by
 rcases Ak g l.length with hg|hg
 ·exact hg
 ·rw[Dr] at h
  have:l.getD g default=default:=by simp[List.getD,B9 hg]
  rw[this] at h;cases h
theorem zfx{k:AK}{e:Nat}(he:k.eff=some e)(hap:k.appOk=true){l:List Grp}{xs:List AV}{K:AV->A5->Prop}(hoff:Rs k xs)(h:AF P k (hl l) xs K):
 ∃x l',AF P k (hl l) xs (λy H'=>y=x/\H'=hl l')/\K x (hl l')/\Comm P k l l':=by
 have hpush:∀G,k.eff=some 0->Comm P k l (l++[G]):=λG h0 q hq ys z hh=>hh.push G;cases k<;>simp only[AK.eff,Aq,reduceCtorEq] at he
 case mkMap =>
  match xs,h with
  |_::_,h=>exact h.elim
  |[],h =>
   have h':K (.map l.length 1) ((hl l).push ⟨0,1,true,[]⟩):=h;rw[F3] at h'
   exact⟨_,_,⟨rfl,F3 _ _⟩,h',λq hq ys u hh=>by
    simp only[JF,AK.eff,Ac] at hq
    exact hh.blind hq.2 (by simp)⟩
 case mapSet =>
  match xs,h with
  |[],h=>exact h.elim
  |[x],h=>cases x<;>exact h.elim
  |[x,y],h=>cases x<;>first|exact h.elim|(cases y<;>exact h.elim)
  |x::y::u::v::r,h=>cases x<;>first|exact h.elim|(cases y<;>exact h.elim)
  |[x,y,u],h =>
   cases x<;>try exact h.elim
   cases y<;>try exact h.elim
   obtain⟨h1,h2,h3,h4,h5⟩:=h;obtain⟨zs,h6,h7⟩:=Cn h5;have hg:=at_lt h4;rw[Hr _ _ _ hg] at h7;refine⟨_,_,⟨h1,h2,h3,h4,by rw[h6];exact⟨rfl,Hr _ _ _ hg⟩⟩,h7,λq hq ys u hh=>?_⟩;simp only[JF,AK.eff,Ac] at hq;exact hh.blind hq.2 (by simp)
 case alloc z w =>
  match xs,h with
  |_::_,h=>exact h.elim
  |[],h =>
   have h':K (.ptr l.length 1 0 0) ((hl l).push ⟨w,1,true,[z]⟩):=h;rw[F3] at h';exact⟨_,_,⟨rfl,F3 _ _⟩,h',hpush _ rfl⟩
 case box =>
  match xs,h with
  |[],h=>exact h.elim
  |_::_::_,h=>exact h.elim
  |[x],h =>
   obtain⟨h1,h2,h3⟩:=h;rw[F3] at h3;exact⟨_,_,⟨h1,h2,rfl,F3 _ _⟩,h3,hpush _ rfl⟩
 case mkSlice w b z =>
  match xs,h with
  |[],h=>exact h.elim
  |[x],h=>cases x<;>exact h.elim
  |x::y::u::r,h=>cases x<;>first|exact h.elim|(cases y<;>exact h.elim)
  |[x,y],h =>
   cases x<;>try exact h.elim
   cases y<;>try exact h.elim
   obtain⟨h1,h2,h3,h4⟩:=h;rw[F3] at h4;exact⟨_,_,⟨h1,h2,h3,rfl,F3 _ _⟩,h4,hpush _ rfl⟩
 case store s =>
  match xs,h with
  |[],h=>exact h.elim
  |[x],h=>cases x<;>exact h.elim
  |x::y::u::r,h=>cases x<;>exact h.elim
  |[x,y],h =>
   cases x<;>try exact h.elim
   rename_i g v i o;obtain⟨h1,h2,h3,h4,h5,h6,h7,h8⟩:=h
   have hg:g<l.length:=by
    rcases Ak g l.length with hg|hg
    ·exact hg
    ·exfalso
     rw[Dr] at h2;have:l.getD g default=default:=by simp[List.getD,B9 hg]
     rw[this] at h2;exact absurd h2 (Ba _)
   rw[Hr _ _ _ hg] at h8;refine⟨_,_,⟨h1,h2,h3,h4,h5,h6,h7,rfl,Hr _ _ _ hg⟩,h8,λq hq ys z hh=>?_⟩;simp only[JF,AK.eff,Ac,AA] at hq;exact hh.stored hq.2 hg h1.symm rfl rfl (by simp[Dr])
 case app w b z =>
  have hbl:∀l',l.length<=l'.length->Comm P (.app w b z) l l':=λl' hl q hq ys u hh=>by
   simp only[JF,AK.eff,Ac] at hq;exact hh.blind hq.2 hl
  match xs,h with
  |[],h=>exact h.elim
  |[x],h=>exact h.elim
  |x::y::u::r,h=>exact h.elim
  |[s,y],h =>
   obtain⟨h1,h2⟩:=h;obtain⟨news,h3,h4⟩:=Cn h2
   have mk:∀{K':AV->A5->Prop},JY w b s news (hl l) K'->AF P (.app w b z) (hl l) [s,y] K':=λhh=>by
    refine⟨h1,?_⟩;rw[h3];exact hh
   suffices hh:∃x l',JY w b s news (hl l) (λy H'=>y=x/\H'=hl l')/\K x (hl l')/\l.length<=l'.length by
    obtain⟨x,l',k1,k2,k3⟩:=hh;exact⟨x,l',mk k1,k2,hbl l' k3⟩
   cases s<;>simp only[JY] at h4 ⊢<;>try exact h4.elim
   ·obtain⟨a1,a2⟩:=h4
    rw[F3] at a2 ⊢;exact⟨_,_,⟨a1,rfl,rfl⟩,a2,by simp⟩
   ·obtain⟨a1,a2⟩:=h4
    rw[F3] at a2 ⊢;exact⟨_,_,⟨a1,rfl,rfl⟩,a2,by simp⟩
   ·obtain⟨a1,a2,a3⟩:=h4
    rcases Nat.eq_zero_or_pos news.length with h0|h0
    ·exact⟨_,_,⟨a1,λ_=>⟨rfl,rfl⟩,λh=>absurd h (by omega)⟩,a2 h0,Ad _⟩
    ·obtain⟨a3,a4⟩:=a3 h0
     rw[F3] at a4 ⊢;exact⟨_,_,⟨a1,λh=>absurd h (by omega),λ_=>⟨a3,rfl,rfl⟩⟩,a4,by simp⟩
   ·rename_i g v off len
    obtain⟨a1,a2,a3,a4,a5⟩:=h4;have hset:∀G:Grp,K (.ref g v off (len+news.length)) ((hl l).set g G)->g<l.length->True:=λ_ _ _=>trivial;cases hc:(!((hl l).at_ g).exact||((hl l).at_ g).xs.isEmpty)
    ·rw[hc] at a5
     simp only at a5
     have hg:g<l.length:=by
      rcases Ak g l.length with hg|hg
      ·exact hg
      ·have:(hl l).at_ g=default:=by rw[Dr];simp[List.getD,B9 hg]
       rw[this] at hc;cases hc
     by_cases hle:off+len+news.length<=((hl l).at_ g).xs.length
     ·have:=a5.1 hle
      rw[Hr _ _ _ hg] at this;exact⟨_,_,⟨a1,a2,a3,a4,λ_=>⟨rfl,Hr _ _ _ hg⟩,λhlt=>absurd hlt (by omega)⟩,this,by simp⟩
     ·have:=a5.2 (by omega)
      rw[F3] at this;exact⟨_,_,⟨a1,a2,a3,a4,λhlt=>absurd hlt hle,λ_=>⟨rfl,F3 _ _⟩⟩,this,by simp⟩
    ·rw[hc] at a5
     simp only at a5;obtain⟨b1,b2,b3,_⟩:=a5;have b4:off=0:=hoff;by_cases hg:g<l.length
     ·by_cases hle:off+len=((hl l).at_ g).xs.length
      ·have:=b2 hle
       rw[Hr _ _ _ hg] at this;exact⟨_,_,⟨a1,a2,a3,a4,b1,λ_=>⟨rfl,Hr _ _ _ hg⟩,λhlt=>absurd hlt (by omega),λhz=>absurd b4 hz⟩,this,by simp⟩
      ·obtain⟨c1,c2⟩:=b3 (by omega)
       rw[Hr _ _ _ hg] at c2;exact⟨_,_,⟨a1,a2,a3,a4,b1,λhlt=>absurd hlt hle,λ_=>⟨c1,rfl,Hr _ _ _ hg⟩,λhz=>absurd b4 hz⟩,c2,by simp⟩
     ·exfalso
      have:(hl l).at_ g=default:=by rw[Dr];simp[List.getD,B9 (FL hg)]
      rw[this] at a2;simp only[AK.appOk,Ah] at hap;rw[<-a2] at hap;exact Cj 0 hap
def PF(P:Program)(q:AOp)(x:AV)(env:Env)(l l':List Grp):Prop :=
 (Lets q env/\((q.k.eff=none/\QG P q.k l (q.vals env) x/\l'=l)\/(q.k.eff≠none/\AF P q.k (hl l) (q.vals env) (λy H'=>y=x/\H'=hl l')/\Comm P q.k l l')))\/(Bars q env/\x=.tup []/\l'=l)
theorem R5{l l':List Grp}{S:MS}(hS:SRel S (hl l)){env:Env}{a:Act}(hF:FRel S n env a){i:Nat}{o:Oper}(ho:ops[i]? = some o){q:AOp}(h:Cs P n ops o=some q){x:AV}(hy:PF P q x env l l')
 {N:Act->World->Prop} {Q:Exit->Act->World->Prop} (hN:∀S' a',Evo S S'->SRel S' (hl l')->FRel S' n (env.put q.dst x) a'->N a' S'.w):wpOpIn (fen rd) mm P ops Q i N a S.w:=by
 obtain⟨hL,hB⟩:=Kc h hF;unfold wpOpIn;simp only[ho];rcases hy with⟨h1,⟨_,h2,rfl⟩|⟨_,h2,_⟩⟩|⟨h1,rfl,rfl⟩
 ·rw[Ae (hL h1)]
  exact Xr hS hF h h2.qy hN
 ·rw[Ae (hL h1)]
  refine z92 hS hF h h2 (λS' H' y a' e hS' hF' hK=>?_) rd mm;obtain⟨rfl,rfl⟩:=hK;exact hN S' a' e hS' hF'
 ·rw[Ab (by rw[hB h1];simp)]
  obtain⟨_,_,h3,h4,_⟩:=Cb h;exact⟨λ_ _=>trivial,hN S _ (.refl S) hS (by rw[h3];exact hF.put h4 IM)⟩
def anyG(P:Program)(md:Region.Mode)(ops:Array Oper)(L:List AOp)(Q:Env->List Grp->Prop):Nat->Array Bool->Env->List Grp->Prop
 |0,listed,env,l=>Region.ready md ops listed=[]/\Q env l
 |f+1,listed,env,l=>(Region.ready md ops listed=[]->Q env l)/\∀i∈Region.ready md ops listed,∃q x l',L[i]? = some q/\PF P q x env l l'/\anyG P md ops L Q f (listed.setIfInBounds i true) (env.put q.dst x) l'
theorem Qc{L:List AOp}(hL:ops.toList.mapM (Cs P n ops)=some L){Q:Env->List Grp->Prop}{Q':Exit->Act->World->Prop}:∀(fuel:Nat)(listed:Array Bool)(env:Env)(l:List Grp)(S:MS)(a:Act),anyG P md ops L Q fuel listed env l->SRel S (hl l)->FRel S n env a ->
 (∀S' env' l' a',Evo S S'->SRel S' (hl l')->FRel S' n env' a'->Q env' l'->Q' .normal a' S'.w)->wpAnyIn (fen rd) mm P md ops Q' fuel listed a S.w
 |0,listed,env,l,S,a,h,hS,hF,hQ=>⟨h.1,hQ S env l a (.refl S) hS hF h.2⟩
 |fuel+1,listed,env,l,S,a,h,hS,hF,hQ=>by
  refine⟨λh0=>hQ S env l a (.refl S) hS hF (h.1 h0),λi hi=>?_⟩;obtain⟨q,x,l',hq,hy,hrest⟩:=h.2 i hi;obtain⟨_,o,ho,_⟩:=mem_ready.1 hi;obtain⟨q',hq',hc⟩:=Fb hL (i:=i) (o:=o) (by simpa using ho);rw[hq] at hq';cases hq';exact R5 hS hF ho hc hy λS' a' e hS' hF'=>Qc hL fuel _ _ _ S' a' hrest hS' hF' λS2 env2 l2 a2 e2 hS2 hF2 hQ2=>hQ S2 env2 l2 a2 (e.trans e2) hS2 hF2 hQ2
theorem KC{o:Oper}{q:AOp}(h:Cs P n ops o=some q){dst:Option Nat}(hd:∀d,dst=some d->d∉o.looksAt ops){env:Env}{x y:AV}{l l':List Grp}:PF P q y (env.put dst x) l l'↔PF P q y env l l':=by
 obtain⟨h1,h2,h3⟩:=Nq h hd env x;unfold PF;rw[h1,h2,h3]
theorem Zm{L:List AOp}(hL:ops.toList.mapM (Cs P n ops)=some L){Q:Env->List Grp->Prop}{i:Nat}{oi:Oper}{qi:AOp}{x:AV}(hi:ops[i]? = some oi)(hqi:L[i]? = some qi)(hpair:∀j,i<j->Zg md ops L i j=true):∀(fuel:Nat)(listed:Array Bool)(env:Env)(l l1:List Grp),
 (∀j,j<i->listed.getD j true=true) ->
 (∀j oj,ops[j]? = some oj->j≠i->listed.getD j true=false->(∀e∈oj.after,Region.binds md e=true->e.on≠i)->oi.apart ops oj=true) ->
 i∈Region.ready md ops listed->PF P qi x env l l1->anyG P md ops L Q fuel (listed.setIfInBounds i true) (env.put qi.dst x) l1->anyG P md ops L Q (fuel+1) listed env l:=by
 have hci:Cs P n ops oi=some qi:=by
  obtain⟨q,hq,hc⟩:=Fb hL (i:=i) (o:=oi) (by simpa using hi);rw[hqi] at hq;cases hq;exact hc
 intro fuel
 induction fuel with
 |zero =>
  intro listed env l l1 _ _ hr hy h;refine⟨λh=>(by rw[h] at hr;cases hr),λj hj=>?_⟩;by_cases hji:j=i
  ·subst hji;exact⟨qi,x,l1,hqi,hy,h⟩
  ·have:=ready_mono hj hji
   rw[h.1] at this;cases this
 |succ fuel ih =>
  intro listed env l l1 hlow hfree hr hy h;refine⟨λh=>(by rw[h] at hr;cases hr),λj hj=>?_⟩;by_cases hji:j=i
  ·subst hji;exact⟨qi,x,l1,hqi,hy,h⟩
  ·obtain⟨qj,xj,l2,hqj,hyj,hrest⟩:=h.2 j (ready_mono hj hji)
   obtain⟨hjun,oj,hoj,hall⟩:=mem_ready.1 hj
   have hcj:Cs P n ops oj=some qj:=by
    obtain⟨q,hq,hc⟩:=Fb hL (i:=j) (o:=oj) (by simpa using hoj);rw[hqj] at hq;cases hq;exact hc
   have hun:=(mem_ready.1 hr).1
   have hnot:∀e∈oj.after,Region.binds md e=true->e.on≠i:=λe he hb heq=>by
    have h1:=hall e he hb;rw[heq,getD_both hun] at h1;cases h1
   have hij:i<j:=by
    rcases Ew i j with h1|h1|h1
    ·exact h1
    ·exact absurd h1.symm hji
    ·rw[hlow j h1] at hjun;cases hjun
   obtain⟨a1,a2,a3⟩:=Oper.apart_spec (hfree j oj hoj hji hjun hnot);have di:qi.dst=oi.dst:=(Cb hci).2.2.1;have dj:qj.dst=oj.dst:=(Cb hcj).2.2.1
   have hfree':∀k ok,ops[k]? = some ok->k≠i->(listed.setIfInBounds j true).getD k true=false ->
    (∀e∈ok.after,Region.binds md e=true->e.on≠i)->oi.apart ops ok=true:=λk ok hk hki hun hno=>by
    refine hfree k ok hk hki ?_ hno;by_cases hjk:j=k
    ·subst hjk;exact hjun
    ·rw[getD_set_ne true hjk] at hun;exact hun
   have hlow':∀k,k<i->(listed.setIfInBounds j true).getD k true=true:=λk hk=>by
    rw[getD_set_ne true (by omega)];exact hlow k hk
   have hp:qi.k.eff=none/\(qj.k.eff=none\/JF qi.k qj.k=true):=by
    have h1:=hpair j hij;simp only[Zg,hqi,hqj,EX,Ac,DN] at h1;rcases h1 with h1|h1
    ·exact h1
    ·obtain⟨oj',hoj',e,he,hb,hon⟩:=Region.waitsFor_spec h1
     have:oj'=oj:=BW (hoj'.symm.trans hoj);subst this;exact absurd hon (hnot e he hb)
   have hl1:l1=l:=by
    rcases hy with⟨_,⟨_,_,hh⟩|⟨hh,_⟩⟩|⟨_,_,hh⟩
    ·exact hh
    ·exact absurd hp.1 hh
    ·exact hh
   subst hl1;have hyj':=(KC hcj (by rw[di];exact a1)).1 hyj
   have hyi:PF P qi x env l2 l2:=by
    rcases hyj' with⟨_,⟨_,_,rfl⟩|⟨hne,_,hcm⟩⟩|⟨_,_,rfl⟩
    ·exact hy
    ·rcases hy with⟨b1,⟨b2,b3,_⟩|⟨b2,_⟩⟩|⟨b1,b2,_⟩
     ·exact .inl ⟨b1,.inl ⟨b2,hcm qi.k (hp.2.resolve_left hne) _ _ b3,rfl⟩⟩
     ·exact absurd hp.1 b2
     ·exact .inr ⟨b1,b2,rfl⟩
    ·exact hy
   refine⟨qj,xj,l2,hqj,hyj',ih (listed.setIfInBounds j true) _ l2 l2 hlow' hfree' (ready_mono hr (De hji)) ((KC hci (by rw[dj];exact a3)).2 hyi) ?_⟩;rw[Cw _ _ hji,put_comm env xj x (by rw[di,dj];intro d hd hh;exact a2 d hh hd)];exact hrest
def runG(P:Program):List AOp->Env->List Grp->(Env->List Grp->Prop)->Prop
 |[],env,l,K=>K env l
 |o::r,env,l,K=>He env o.guard λw env =>
  if w then (if o.k.eff.isNone then ∃x,QG P o.k l (o.vals env) x/\runG P r (env.put o.dst x) l K else ∃x l',AF P o.k (hl l) (o.vals env) (λy H'=>y=x/\H'=hl l')/\Comm P o.k l l'/\runG P r (env.put o.dst x) l' K)
  else runG P r (env.put o.dst (.tup [])) l K
theorem Xu{L:List AOp}(hL:ops.toList.mapM (Cs P n ops)=some L){Q:Env->List Grp->Prop}(hpair:∀i j,i<j->Zg md ops L i j=true)(hap:∀q∈L,q.k.appOk=true):∀(r:List Oper)(r':List AOp)(k:Nat)(listed:Array Bool)(env:Env)(l:List Grp),(∀j,r[j]? = ops[k+j]?)->(∀j,r'[j]? = L[k+j]?)->r.length=r'.length->(∀j,j<k->listed.getD j true=true) ->
 Region.lexFrom md ops r.length k listed=true->runG P r' env l Q->anyG P md ops L Q r.length listed env l
 |[],[],_,_,_,_,_,_,_,_,hB,h=>⟨by simpa [Region.lexFrom] using hB,h⟩
 |o::r,q::r',k,listed,env,l,hr0,hr0',hlen,hlow,hB,h=>by
  have h0:ops[k]? = some o:=by simpa using (hr0 0).symm
  have h0':L[k]? = some q:=by simpa using (hr0' 0).symm
  have hk:k<ops.size:=(Bl.1 h0).1;simp only[List.length_cons,Region.lexFrom,Ac] at hB;obtain⟨⟨hr,hf⟩,hB'⟩:=hB;simp only[runG] at h;have hr':k∈Region.ready md ops listed:=by simpa using hr
  have hlow':∀j,j<k+1->(listed.setIfInBounds k true).getD j true=true:=λj hj=>by
   by_cases hjk:k=j
   ·subst hjk
    rcases Ak k listed.size with hs|hs
    ·simp[hs]
    ·simp[C5 hs]
   ·rw[getD_set_ne true hjk]
    exact hlow j (by omega)
  have ih:=λenv' l' (hh:runG P r' env' l' Q)=>Xu hL hpair hap r r' (k+1) (listed.setIfInBounds k true) env' l' (λj=>by have:=hr0 (j+1);simpa [Bo,Ci 1 j] using this) (λj=>by have:=hr0' (j+1);simpa [Bo,Ci 1 j] using this) (by simpa using hlen) hlow' hB' hh;have first:=λx l1 (hy:PF P q x env l l1) (hh:runG P r' (env.put q.dst x) l1 Q)=>Zm hL h0 h0' (λj hj=>hpair k j hj) r.length listed env l l1 hlow (Region.free_spec h0 hf) hr' hy (ih _ _ hh)
  rcases FB h with⟨h1,h2⟩|⟨h1,h2⟩
  ·simp only[Bi] at h2
   cases he:q.k.eff with
   |none =>
    simp only[he,Option.isNone_none,Bi] at h2;obtain⟨x,hx,hK⟩:=h2;exact first x l (.inl ⟨h1,.inl ⟨he,hx,rfl⟩⟩) hK
   |some e =>
    simp only[he,Option.isNone_some,A8,Bt] at h2;obtain⟨x,l',b1,b3,b2⟩:=h2;exact first x l' (.inl ⟨h1,.inr ⟨by simp[he],b1,b3⟩⟩) b2
  ·simp only[A8,Bt] at h2
   exact first (.tup []) l (.inr ⟨h1,rfl,rfl⟩) h2
 |[],_::_,_,_,_,_,_,_,hlen,_,_,_=>by simp at hlen
 |_::_,[],_,_,_,_,_,_,hlen,_,_,_=>by simp at hlen
theorem z94{S:MS}{a:Act}{env:Env}{id:Nat}{L:List AOp}{l:List Grp}(hm:P.follows .mixedOrders=true)(hB:Region.lexB .any ops=true)(hp:Te .any ops L=true)(hL:ops.toList.mapM (Cs P n ops)=some L)(hS:SRel S (hl l))(hF:FRel S n env a){K:Env->List Grp->Prop}(h:runG P L env l K)
 {Q:Exit->Act->World->Prop} (hQ:∀S' env' l' a',Evo S S'->SRel S' (hl l')->FRel S' n env' a'->K env' l'->Q .normal a' S'.w):(Code.region id ops true).wpIn (fen rd) mm P Q a S.w:=by
 simp only[Region.lexB,Ac] at hB;have hlen:ops.toList.length=L.length:=mapM_length hL;simp only[Te,Ac] at hp;have hap:∀q∈L,q.k.appOk=true:=λq hq=>AP.1 hp.1 q hq
 have hpair:∀i j,i<j->Zg .any ops L i j=true:=λi j hij=>by
  by_cases hj:j<ops.size
  ·exact AP.1 (AP.1 hp.2 j (Bq.2 hj)) i (Bq.2 hij)
  ·have:L[j]? = none:=B9 (by rw[<-hlen];simp;omega)
   unfold Zg;rw[this];split<;>first|rfl|(rename_i hh;cases hh)|(rename_i hh _;cases hh)
 have:=Xu (md:=.any) hL hpair hap ops.toList L 0 (Array.replicate ops.size false) env l (by simp) (by simp) hlen (λj hj=>by omega) (by simpa using hB.2) h;have e:=Evo.drew S;exact wpIn_region_any hm (Qc hL ops.size _ env l { S with w:=S.w.drew } a (by simpa using this) hS.drew (hF.mono e) λS' env' l' a' e' hS' hF' hK=>hQ S' env' l' a' (e.trans e') hS' hF' hK)
end
section
variable {P:Program}{n:Nat}{ops:Array Oper}{md:Region.Mode}{rd:Option Nat}{mm:Nat}
theorem QG.away{k:AK}{l l':List Grp}(hlen:l.length<=l'.length){xs:List AV}{x:AV}(hx:BX (λg=>g<l.length->l'.getD g default=l.getD g default) xs)(h:QG P k l xs x):QG P k l' xs x:=by
 rcases h with h|h|⟨h1,h2,h3⟩
 ·exact .inl h
 ·exact .inr (.inl h)
 ·have key:∀{xs:List AV}{p q:Nat->Prop},BX p xs->BX q xs->BX (λg=>p g/\q g) xs:=by
   intro xs
   induction xs with
   |nil=>intro p q _ _;trivial
   |cons a r ih =>
    intro p q hp hq;cases a<;>simp only[BX] at hp hq ⊢<;>first|exact ih hp hq|exact⟨⟨hp.1,hq.1⟩,ih hp.2 hq.2⟩
  refine .inr (.inr ⟨h1,CC (λg hg=>by omega) h2,LB h1 (CC (λg hg=>?_) (key h2 hx)) h3⟩);rw[Dr,Dr];exact hg.2 hg.1
def Vy(P:Program)(f:Bool)(ks:List Nat)(q:AOp)(x:AV)(env:Env)(l l':List Grp):Prop :=
 PF P q x env l l'/\(Lets q env->f=true->BX (·∉ks) (q.vals env))/\(q.k.eff=some 2->l.length<=l'.length/\∀g,g∉ks->g<l.length->l'.getD g default=l.getD g default)
def anyX(P:Program)(fl:List Bool)(ks:List Nat)(md:Region.Mode)(ops:Array Oper)(L:List AOp)(Q:Env->List Grp->Prop):Nat->Array Bool->Env->List Grp->Prop
 |0,listed,env,l=>Region.ready md ops listed=[]/\Q env l
 |f+1,listed,env,l=>(Region.ready md ops listed=[]->Q env l)/\∀i∈Region.ready md ops listed,∃q x l',L[i]? = some q/\Vy P (fl.getD i false) ks q x env l l'/\anyX P fl ks md ops L Q f (listed.setIfInBounds i true) (env.put q.dst x) l'
theorem Qd{fl:List Bool}{ks:List Nat}{L:List AOp}(hL:ops.toList.mapM (Cs P n ops)=some L){Q:Env->List Grp->Prop}{Q':Exit->Act->World->Prop}:∀(fuel:Nat)(listed:Array Bool)(env:Env)(l:List Grp)(S:MS)(a:Act),anyX P fl ks md ops L Q fuel listed env l->SRel S (hl l)->FRel S n env a ->
 (∀S' env' l' a',Evo S S'->SRel S' (hl l')->FRel S' n env' a'->Q env' l'->Q' .normal a' S'.w)->wpAnyIn (fen rd) mm P md ops Q' fuel listed a S.w
 |0,listed,env,l,S,a,h,hS,hF,hQ=>⟨h.1,hQ S env l a (.refl S) hS hF h.2⟩
 |fuel+1,listed,env,l,S,a,h,hS,hF,hQ=>by
  refine⟨λh0=>hQ S env l a (.refl S) hS hF (h.1 h0),λi hi=>?_⟩;obtain⟨q,x,l',hq,hy,hrest⟩:=h.2 i hi;obtain⟨_,o,ho,_⟩:=mem_ready.1 hi;obtain⟨q',hq',hc⟩:=Fb hL (i:=i) (o:=o) (by simpa using ho);rw[hq] at hq';cases hq';exact R5 hS hF ho hc hy.1 λS' a' e hS' hF'=>Qd hL fuel _ _ _ S' a' hrest hS' hF' λS2 env2 l2 a2 e2 hS2 hF2 hQ2=>hQ S2 env2 l2 a2 (e.trans e2) hS2 hF2 hQ2
theorem Tw{f:Bool}{ks:List Nat}{o:Oper}{q:AOp}(h:Cs P n ops o=some q){dst:Option Nat}(hd:∀d,dst=some d->d∉o.looksAt ops){env:Env}{x y:AV}{l l':List Grp}:Vy P f ks q y (env.put dst x) l l'↔Vy P f ks q y env l l':=by
 obtain⟨h1,h2,h3⟩:=Nq h hd env x;unfold Vy;rw[KC h hd,h1,h2]
theorem Zn{fl:List Bool}{ks:List Nat}{L:List AOp}(hL:ops.toList.mapM (Cs P n ops)=some L){Q:Env->List Grp->Prop}{i:Nat}{oi:Oper}{qi:AOp}{x:AV}(hi:ops[i]? = some oi)(hqi:L[i]? = some qi)
 (hpair:∀j,i<j->match L[j]? with|some qj=>(qi.k.eff=none/\(qj.k.eff=none\/JF qi.k qj.k=true\/fl.getD i false=true/\qj.k.eff=some 2))\/Region.waitsFor md ops j i=true|none=>True):∀(fuel:Nat)(listed:Array Bool)(env:Env)(l l1:List Grp),
 (∀j,j<i->listed.getD j true=true) ->
 (∀j oj,ops[j]? = some oj->j≠i->listed.getD j true=false->(∀e∈oj.after,Region.binds md e=true->e.on≠i)->oi.apart ops oj=true) ->
 i∈Region.ready md ops listed->Vy P (fl.getD i false) ks qi x env l l1->anyX P fl ks md ops L Q fuel (listed.setIfInBounds i true) (env.put qi.dst x) l1->anyX P fl ks md ops L Q (fuel+1) listed env l:=by
 have hci:Cs P n ops oi=some qi:=by
  obtain⟨q,hq,hc⟩:=Fb hL (i:=i) (o:=oi) (by simpa using hi);rw[hqi] at hq;cases hq;exact hc
 intro fuel
 induction fuel with
 |zero =>
  intro listed env l l1 _ _ hr hy h;refine⟨λh=>(by rw[h] at hr;cases hr),λj hj=>?_⟩;by_cases hji:j=i
  ·subst hji;exact⟨qi,x,l1,hqi,hy,h⟩
  ·have:=ready_mono hj hji
   rw[h.1] at this;cases this
 |succ fuel ih =>
  intro listed env l l1 hlow hfree hr hy h;refine⟨λh=>(by rw[h] at hr;cases hr),λj hj=>?_⟩;by_cases hji:j=i
  ·subst hji;exact⟨qi,x,l1,hqi,hy,h⟩
  ·obtain⟨qj,xj,l2,hqj,hyj,hrest⟩:=h.2 j (ready_mono hj hji)
   obtain⟨hjun,oj,hoj,hall⟩:=mem_ready.1 hj
   have hcj:Cs P n ops oj=some qj:=by
    obtain⟨q,hq,hc⟩:=Fb hL (i:=j) (o:=oj) (by simpa using hoj);rw[hqj] at hq;cases hq;exact hc
   have hun:=(mem_ready.1 hr).1
   have hnot:∀e∈oj.after,Region.binds md e=true->e.on≠i:=λe he hb heq=>by
    have h1:=hall e he hb;rw[heq,getD_both hun] at h1;cases h1
   have hij:i<j:=by
    rcases Ew i j with h1|h1|h1
    ·exact h1
    ·exact absurd h1.symm hji
    ·rw[hlow j h1] at hjun;cases hjun
   obtain⟨a1,a2,a3⟩:=Oper.apart_spec (hfree j oj hoj hji hjun hnot);have di:qi.dst=oi.dst:=(Cb hci).2.2.1;have dj:qj.dst=oj.dst:=(Cb hcj).2.2.1
   have hfree':∀k ok,ops[k]? = some ok->k≠i->(listed.setIfInBounds j true).getD k true=false ->
    (∀e∈ok.after,Region.binds md e=true->e.on≠i)->oi.apart ops ok=true:=λk ok hk hki hun hno=>by
    refine hfree k ok hk hki ?_ hno;by_cases hjk:j=k
    ·subst hjk;exact hjun
    ·rw[getD_set_ne true hjk] at hun;exact hun
   have hlow':∀k,k<i->(listed.setIfInBounds j true).getD k true=true:=λk hk=>by
    rw[getD_set_ne true (by omega)];exact hlow k hk
   have hp:qi.k.eff=none/\(qj.k.eff=none\/JF qi.k qj.k=true\/fl.getD i false=true/\qj.k.eff=some 2):=by
    have h1:=hpair j hij;rw[hqj] at h1;rcases h1 with h1|h1
    ·exact h1
    ·obtain⟨oj',hoj',e,he,hb,hon⟩:=Region.waitsFor_spec h1
     have:oj'=oj:=BW (hoj'.symm.trans hoj);subst this;exact absurd hon (hnot e he hb)
   have hl1:l1=l:=by
    rcases hy.1 with⟨_,⟨_,_,hh⟩|⟨hh,_⟩⟩|⟨_,_,hh⟩
    ·exact hh
    ·exact absurd hp.1 hh
    ·exact hh
   subst hl1;have hyj':=(Tw hcj (by rw[di];exact a1)).1 hyj
   have hyi:Vy P (fl.getD i false) ks qi x env l2 l2:=by
    refine⟨?_,hy.2.1,λh2=>by rw[hp.1] at h2;cases h2⟩;rcases hyj'.1 with⟨_,⟨_,_,rfl⟩|⟨hne,_,hcm⟩⟩|⟨_,_,rfl⟩
    ·exact hy.1
    ·rcases hy.1 with⟨b1,⟨b2,b3,_⟩|⟨b2,_⟩⟩|⟨b1,b2,_⟩
     ·refine .inl ⟨b1,.inl ⟨b2,?_,rfl⟩⟩
      rcases hp.2.resolve_left hne with h3|⟨h3,h4⟩
      ·exact hcm qi.k h3 _ _ b3
      ·obtain⟨c1,c2⟩:=hyj'.2.2 h4
       exact b3.away c1 (CC (λg hg=>c2 g hg) (hy.2.1 b1 h3))
     ·exact absurd hp.1 b2
     ·exact .inr ⟨b1,b2,rfl⟩
    ·exact hy.1
   refine⟨qj,xj,l2,hqj,hyj',ih (listed.setIfInBounds j true) _ l2 l2 hlow' hfree' (ready_mono hr (De hji)) ((Tw hci (by rw[dj];exact a3)).2 hyi) ?_⟩;rw[Cw _ _ hji,put_comm env xj x (by rw[di,dj];intro d hd hh;exact a2 d hh hd)];exact hrest
def runX(P:Program)(ks:List Nat):List Bool->List AOp->Env->List Grp->(Env->List Grp->Prop)->Prop
 |_,[],env,l,K=>K env l
 |fl,o::r,env,l,K=>He env o.guard λw env =>
  if w then (if o.k.eff.isNone then (fl.headD false=true->BX (·∉ks) (o.vals env))/\∃x,QG P o.k l (o.vals env) x/\runX P ks fl.tail r (env.put o.dst x) l K
   else ∃x l',AF P o.k (hl l) (o.vals env) (λy H'=>y=x/\H'=hl l')/\Comm P o.k l l'/\(o.k.eff=some 2->l.length<=l'.length/\∀g,g∉ks->g<l.length->l'.getD g default=l.getD g default)/\(fl.headD false=true->BX (·∉ks) (o.vals env))/\runX P ks fl.tail r (env.put o.dst x) l' K)
  else runX P ks fl.tail r (env.put o.dst (.tup [])) l K
theorem Xv{fl:List Bool}{ks:List Nat}{L:List AOp}(hL:ops.toList.mapM (Cs P n ops)=some L){Q:Env->List Grp->Prop}
 (hpair:∀i j qi,i<j->L[i]? = some qi->match L[j]? with|some qj=>(qi.k.eff=none/\(qj.k.eff=none\/JF qi.k qj.k=true\/fl.getD i false=true/\qj.k.eff=some 2))\/Region.waitsFor md ops j i=true|none=>True):∀(r:List Oper)(r':List AOp)(k:Nat)(listed:Array Bool)(env:Env)(l:List Grp),(∀j,r[j]? = ops[k+j]?)->(∀j,r'[j]? = L[k+j]?)->r.length=r'.length->(∀j,j<k->listed.getD j true=true) ->
 Region.lexFrom md ops r.length k listed=true->runX P ks (fl.drop k) r' env l Q->anyX P fl ks md ops L Q r.length listed env l
 |[],[],_,_,_,_,_,_,_,_,hB,h=>⟨by simpa [Region.lexFrom] using hB,h⟩
 |o::r,q::r',k,listed,env,l,hr0,hr0',hlen,hlow,hB,h=>by
  have h0:ops[k]? = some o:=by simpa using (hr0 0).symm
  have h0':L[k]? = some q:=by simpa using (hr0' 0).symm
  have hk:k<ops.size:=(Bl.1 h0).1;simp only[List.length_cons,Region.lexFrom,Ac] at hB;obtain⟨⟨hr,hf⟩,hB'⟩:=hB;simp only[runX] at h;have hhd:(fl.drop k).headD false=fl.getD k false:=by simp[List.headD_eq_head?_getD,List.head?_drop]
  have htl:(fl.drop k).tail=fl.drop (k+1):=by simp
  rw[hhd,htl] at h;have hr':k∈Region.ready md ops listed:=by simpa using hr
  have hlow':∀j,j<k+1->(listed.setIfInBounds k true).getD j true=true:=λj hj=>by
   by_cases hjk:k=j
   ·subst hjk
    rcases Ak k listed.size with hs|hs
    ·simp[hs]
    ·simp[C5 hs]
   ·rw[getD_set_ne true hjk]
    exact hlow j (by omega)
  have ih:=λenv' l' (hh:runX P ks (fl.drop (k+1)) r' env' l' Q)=>Xv hL hpair r r' (k+1) (listed.setIfInBounds k true) env' l' (λj=>by have:=hr0 (j+1);simpa [Bo,Ci 1 j] using this) (λj=>by have:=hr0' (j+1);simpa [Bo,Ci 1 j] using this) (by simpa using hlen) hlow' hB' hh;have first:=λx l1 (hy:Vy P (fl.getD k false) ks q x env l l1) (hh:runX P ks (fl.drop (k+1)) r' (env.put q.dst x) l1 Q)=>Zn hL h0 h0' (λj hj=>hpair k j q hj h0') r.length listed env l l1 hlow (Region.free_spec h0 hf) hr' hy (ih _ _ hh)
  rcases FB h with⟨h1,h2⟩|⟨h1,h2⟩
  ·simp only[Bi] at h2
   cases he:q.k.eff with
   |none =>
    simp only[he,Option.isNone_none,Bi] at h2;obtain⟨hfl,x,hx,hK⟩:=h2;exact first x l ⟨.inl ⟨h1,.inl ⟨he,hx,rfl⟩⟩,λ_=>hfl,λhh=>by rw[he] at hh;cases hh⟩ hK
   |some e =>
    simp only[he,Option.isNone_some,A8,Bt] at h2;obtain⟨x,l',b1,b3,b4,b5,b2⟩:=h2;exact first x l' ⟨.inl ⟨h1,.inr ⟨by simp[he],b1,b3⟩⟩,λ_=>b5,λhh=>b4 (by rw[<-he];exact hh)⟩ b2
  ·simp only[A8,Bt] at h2
   refine first (.tup []) l ⟨.inr ⟨h1,rfl,rfl⟩,λhL'=>?_,λ_=>⟨Ad _,λ_ _ _=>rfl⟩⟩ h2
   exfalso;unfold Lets at hL';unfold Bars at h1;split at hL'
   ·rename_i hg;rw[hg] at h1;exact h1
   ·rename_i d want hg
    rw[hg] at h1;simp only at h1;rw[hL'] at h1;rcases h1 with h1|h1
    ·cases want<;>simp at h1
    ·cases h1
 |[],_::_,_,_,_,_,_,_,hlen,_,_,_=>by simp at hlen
 |_::_,[],_,_,_,_,_,_,hlen,_,_,_=>by simp at hlen
theorem zkn{S:MS}{a:Act}{env:Env}{id:Nat}{ks:List Nat}{L:List AOp}{l:List Grp}(hm:P.follows .mixedOrders=true)(hB:Region.lexB .any ops=true)(hp:Xg .any ops L=true)(hL:ops.toList.mapM (Cs P n ops)=some L)(hS:SRel S (hl l))(hF:FRel S n env a){K:Env->List Grp->Prop}(h:runX P ks (NB .any ops L) L env l K)
 {Q:Exit->Act->World->Prop} (hQ:∀S' env' l' a',Evo S S'->SRel S' (hl l')->FRel S' n env' a'->K env' l'->Q .normal a' S'.w):(Code.region id ops true).wpIn (fen rd) mm P Q a S.w:=by
 simp only[Region.lexB,Ac] at hB;have hlen:ops.toList.length=L.length:=mapM_length hL
 have hpair:∀i j qi,i<j->L[i]? = some qi->match L[j]? with|some qj=>(qi.k.eff=none/\(qj.k.eff=none\/JF qi.k qj.k=true\/(NB .any ops L).getD i false=true/\qj.k.eff=some 2))\/Region.waitsFor .any ops j i=true|none=>True:=λi j qi hij hqi=>by
  by_cases hj:j<ops.size
  ·have h1:=AP.1 (AP.1 hp j (Bq.2 hj)) i (Bq.2 hij)
   unfold zkg at h1;rw[hqi] at h1;cases hqj:L[j]? with
   |none=>trivial
   |some qj =>
    rw[hqj] at h1;simp only[EX,Ac,DN,BK] at h1;rcases h1 with⟨h1,h2⟩|h1
    ·refine .inl ⟨h1,?_⟩
     rcases h2 with (h2|h2)|h2
     ·exact .inl h2
     ·exact .inr (.inl h2)
     ·exact .inr (.inr h2)
    ·exact .inr h1
  ·have:L[j]? = none:=B9 (by rw[<-hlen];simp;omega)
   rw[this];trivial
 have:=Xv (md:=.any) (fl:=NB .any ops L) (ks:=ks) hL hpair ops.toList L 0 (Array.replicate ops.size false) env l (by simp) (by simp) hlen (λj hj=>by omega) (by simpa using hB.2) (by simpa using h);have e:=Evo.drew S;exact wpIn_region_any hm (Qd hL ops.size _ env l { S with w:=S.w.drew } a (by simpa using this) hS.drew (hF.mono e) λS' env' l' a' e' hS' hF' hK=>hQ S' env' l' a' (e.trans e') hS' hF' hK)
end
section
variable {P:Program}{S:MS}{H:A5}{K:AV->A5->Prop}
def Vz:AK->List AV->Nat->Grp->AV->Prop
 |.alloc z w,[],g,G,x=>G=⟨w,2,true,[z]⟩/\x=.ptr g 2 0 0
 |.box,[y],g,G,x=>Ez y.cells=true/\0<y.cells.length/\G=⟨y.cells.length,2,true,[y]⟩/\x=.ptr g 2 0 0
 |.mkSlice w bytes z,[.int _ l,.int _ c],g,G,x=>0<=l/\l<=c/\c * bytes<=140737488355328/\G=⟨w,2,true,List.replicate c.toNat z⟩/\x=.ref g 2 0 l.toNat
 |_,_,_,_,_=>False
theorem V0(hS:SRel S H)(cells:Array Value)(T:TypeId)(w:Nat)(ys:List AV)(cap:Nat)(hsz:cells.size=cap * w){vs:List Value}(hv:AB S ys vs)(hf:Gw cells w vs)(hx:ys.length=cap)(hw:0<w){g:Nat}(hg:g<H.n)(hG:H.at_ g=⟨w,1,true,[]⟩):
 Evo S (S.moved (S.w.alloc (.cells cells T)) g S.w.heap.size 2 cap w)/\SRel (S.moved (S.w.alloc (.cells cells T)) g S.w.heap.size 2 cap w) (H.set g ⟨w,2,true,ys⟩):=by
 have hGr:=hS.grp g hg;have ec:S.cur g=1:=by rw[hGr.ver,hG]
 exact hS.moved hg (by rw[hG];exact hw) (S.w.alloc (.cells cells T)) S.w.heap.size cap ⟨w,2,true,ys⟩ rfl ⟨rfl,Ad _⟩ rfl (by show _<=(S.w.heap.push _).size;simp) (λb _ hb=>heap_alloc_lt S.w _ b hb) (.inr (.inl (Ad _)))
  (λ_=>⟨cells,T,vs,heap_alloc_new S.w _,hsz,hv,hf⟩) (by simp[hx]) (λ_=>hx) hw (by rw[ec];show 1<=2;omega) (λhh=>by rw[ec] at hh;change 2=1 at hh;omega)
theorem zeb(hS:SRel S H)(o:Obj)(cap w:Nat){g:Nat}(hg:g<H.n):VRel (S.moved (S.w.alloc o) g S.w.heap.size 2 cap w) (.ptr g 2 0 0) (.pointer (some ⟨S.w.heap.size,0,none⟩)):=by
 refine⟨⟨_,rfl⟩,?_,?_,λ_=>?_⟩
 ·show g<S.n;rw[hS.n];exact hg
 ·show 2<=fput _ _ _ _;rw[AL];exact Ad _
 ·show _=Value.pointer (some ⟨fput _ _ _ _,_,_⟩);rw[AL];simp
theorem zko(hS:SRel S H)(o:Obj)(cap w len:Nat)(hl:len<=cap){g:Nat}(hg:g<H.n):VRel (S.moved (S.w.alloc o) g S.w.heap.size 2 cap w) (.ref g 2 0 len) (.slice (some ⟨S.w.heap.size,0,none⟩) len cap):=by
 refine⟨⟨_,_,rfl,λh=>by cases h⟩,?_,?_,λ_=>⟨_,_,rfl,.inl ⟨?_,?_,?_⟩⟩⟩
 ·show g<S.n;rw[hS.n];exact hg
 ·show 2<=fput _ _ _ _;rw[AL];exact Ad _
 ·show _=some (Addr.mk (fput _ _ _ _) _ _);rw[AL];simp
 ·show _=fput _ _ _ _-_;rw[AL];simp
 ·show _<=fput _ _ _ _;rw[AL];omega
theorem Tx{v:Value}{w:Nat}(h0:v.cells.size=w)(h1:∀c∈v.cells,c.oneCell'=true):Gw v.cells w [v]:=λk u hu=>by
 cases k with
 |zero=>simp only[List.getElem?_cons_zero,Aq] at hu;subst hu;exact⟨h0,h1,λj hj=>by simp⟩
 |succ k=>simp at hu
theorem z1q(hS:SRel S H)(t:TypeId){i:TypeInfo}{z:Value}{x:AV}(hi:P.info? t=some i)(hz:i.zero=some z)(hx:avOf z=some x)(h0:0<z.cells.size)(h1:∀c∈z.cells,c.oneCell'=true){g:Nat}(hg:g<H.n)(hG:H.at_ g=⟨z.cells.size,1,true,[]⟩)
 (hK:K (.ptr g 2 0 0) (H.set g ⟨z.cells.size,2,true,[x]⟩)):OpOk P S ((do pure (Next.value (<-Instr.alloc t true (.tuple #[]))):Sem Next).run P S.w) K:=by
 obtain⟨e',hS'⟩:=V0 hS z.cells t z.cells.size [x] 1 (by simp) (.one (G9 hx)) (Tx rfl h1) rfl h0 hg hG;refine Fa (v:=.pointer (some ⟨S.w.heap.size,0,none⟩)) ?_ e' hS' (zeb hS _ _ _ hg) hK;simp[Instr.alloc,zeroValue,typeInfo,hi,hz,newVar,DO];rfl
theorem zfy(hS:SRel S H)(t:TypeId){v:Value}{x:AV}(hv:VRel S x v)(h1:Ez x.cells=true)(h2:0<x.cells.length){g:Nat}(hg:g<H.n)(hG:H.at_ g=⟨x.cells.length,1,true,[]⟩)
 (hK:K (.ptr g 2 0 0) (H.set g ⟨x.cells.length,2,true,[x]⟩)):OpOk P S ((do pure (Next.value (<-Instr.box t v)):Sem Next).run P S.w) K:=by
 obtain⟨k1,k2⟩:=Hc hv h1;obtain⟨e',hS'⟩:=V0 hS v.cells t x.cells.length [x] 1 (by simpa using k1) (.one hv) (Tx k1 k2) rfl h2 hg hG;refine Fa (v:=.pointer (some ⟨S.w.heap.size,0,none⟩)) ?_ e' hS' (zeb hS _ _ _ hg) hK;simp[Instr.box,newVar,DO];rfl
theorem V1(hS:SRel S H)(t:TypeId){e:TypeId}{i:TypeInfo}{z:Value}{x:AV}(ht:P.underlying t=some (.slice e))(hi:P.info? e=some i)(hz:i.zero=some z)(hx:avOf z=some x)(h0:0<i.size)(hby:0<i.bytes)(hzs:z.cells.size=i.size)
 (hz1:∀c∈z.cells,c.oneCell'=true) {k k':IntKind} {l c:Int} (h1:0<=l) (h2:l<=c) (h3:c * i.bytes<=140737488355328) {g:Nat} (hg:g<H.n) (hG:H.at_ g=⟨i.size,1,true,[]⟩) (hK:K (.ref g 2 0 l.toNat) (H.set g ⟨i.size,2,true,List.replicate c.toNat x⟩)) :
 OpOk P S ((do pure (Next.value (<-Instr.makeSlice t (.int k l) (.int k' c))):Sem Next).run P S.w) K:=by
 have hc:c<=140737488355328:=by
  have:c * 1<=c * i.bytes:=CY (by omega) (by omega);omega
 have wl:IntKind.i64.wrap l=l:=IntWalk.i64_in _ (by omega);have wc:IntKind.i64.wrap c=c:=IntWalk.i64_in _ (by omega)
 have hl':(i.bytes:Int) * l<=140737488355328:=by
  have:l * i.bytes<=c * i.bytes:=Ek h2 (by omega);rw[FT];omega
 have hc':(i.bytes:Int) * c<=140737488355328:=by rw[FT];exact h3
 have hask:∀w',(askRoom (c.toNat * i.bytes)).run P w'=.ok () w':=by
  intro w'
  have:¬(c.toNat * i.bytes>roomBytes):=by
   have e:((c.toNat * i.bytes:Nat):Int)=c * i.bytes:=by rw[Int.natCast_mul,BE (by omega)]
   simp only[roomBytes];omega
  simp[askRoom,this]
 obtain⟨e',hS'⟩:=V0 hS ((Array.range (c.toNat * i.size)).map λk=>z.cells[k % z.cells.size]!) e i.size (List.replicate c.toNat x) c.toNat (by simp) (AB.replicate (G9 hx) _) (Js hzs hz1) (by simp) h0 hg hG;refine Fa (v:=.slice (some ⟨S.w.heap.size,0,none⟩) l.toNat c.toNat) ?_ e' hS' (zko hS _ _ _ _ (by omega) hg) hK;have t1:typeInfo e=typeInfo e:=rfl;have hti:∀w',(typeInfo e).run P w'=.ok i w':=by intro w';simp[typeInfo,hi]
 simp only[Instr.makeSlice,Sem.run_bind,run_underlying ht,Result.andThen_ok,asInt,asIntOf,Sem.run_pure,hti,wl,wc];have c1:¬(c<0):=by omega
 have c2:¬((i.bytes:Int) * c>2 ^ 48):=by omega
 have c3:¬(l<0):=by omega
 have c4:¬(l>c):=by omega
 have hz':∀w',(zeroValue e).run P w'=.ok z w':=λw'=>by simp[zeroValue,typeInfo,hi,hz]
 simp only[c1,c2,c3,c4,Be,DX,A8,Bt,Sem.run_bind,hask,Result.andThen_ok,Cp hi];by_cases hl0:c.toNat * i.size=0
 ·simp only[hl0,Bi,Sem.run_bind,Sem.run_pure,Result.andThen_ok,No,DO]
  rfl
 ·simp only[hl0,Bt,Sem.run_bind,hz',Result.andThen_ok,Sem.run_pure,DO]
  rfl
theorem Zo(hS:SRel S H)(o:Oper){ρ:Operand->Value}{k:AK}(hk:Cu P o.op=some k){xs:List AV}(hx:AB S xs (o.op.operands.toList.map ρ)){g:Nat}{G:Grp}{y:AV}(hl:Vz k xs g G y)(hg:g<H.n)(hG:H.at_ g=⟨G.w,1,true,[]⟩)(hK:K y (H.set g G)):
 OpOk P S ((execOp ρ o).run P S.w) K:=by
 have hn:k≠.no:=λe=>by subst e;cases xs<;>exact hl
 replace hk:=Ik hk hn;obtain⟨dst,op,type,pos,after,guard⟩:=o;cases op with
 |alloc t =>
  simp only[ES] at hk;split at hk
  ·rename_i i hi
   split at hk
   ·rename_i z' hz
    split at hk
    ·rename_i x hzx
     split at hk
     ·rename_i hc
      cases hk
      have hx0:xs=[]:=by
       match xs,hl with
       |[],_=>rfl
      subst hx0;obtain⟨rfl,rfl⟩:=hl;simp only[Ac,Ah,B7] at hc;exact z1q hS t hi hz hzx hc.1 hc.2 hg hG hK
     ·cases hk
    ·cases hk
   ·cases hk
  ·cases hk
 |box t x =>
  cases hk;obtain⟨z,rfl,hv⟩:=(show AB S xs [ρ x] by simpa [Op.operands] using hx).len1;obtain⟨h1,h2,rfl,rfl⟩:=hl;exact zfy hS t hv h1 h2 hg hG hK
 |makeSlice t l c =>
  have hx':AB S xs [ρ l,ρ c]:=by simpa [Op.operands] using hx
  simp only[ES] at hk;split at hk
  ·rename_i e ht
   split at hk
   ·rename_i i hi
    split at hk
    ·rename_i z hz
     split at hk
     ·rename_i x hzx
      split at hk
      ·rename_i hc
       cases hk;obtain⟨a,b,rfl,ha,hb⟩:=hx'.len2;cases a<;>cases b<;>simp only[Vz] at hl<;>try exact hl.elim
       rename_i k1 l1 k2 c1;obtain⟨h1,h2,h3,rfl,rfl⟩:=hl;obtain ha:ρ l=.int k1 l1:=ha;obtain hb:ρ c=.int k2 c1:=hb;simp only[Ac,Ah,BK,B7] at hc;have:=V1 (k:=k1) (k':=k2) hS t ht hi hz hzx hc.1.1.1 hc.1.1.2 hc.1.2 hc.2 h1 h2 h3 hg hG hK;rw[<-ha,<-hb] at this;exact this
      ·cases hk
     ·cases hk
    ·cases hk
   ·cases hk
  ·cases hk
 |_ =>
  exfalso;simp only[ES] at hk
  repeat' split at hk
  all_goals first
   |(cases hk;done)
   |(cases hk;cases xs<;>exact hl)
   |(obtain⟨_,_,rfl⟩:=Ag.1 hk;exact hl)
   |(unfold EZ at hk;repeat' split at hk
     all_goals first
      |(cases hk;done)
      |(cases hk;exact hl))
   |contradiction
end
section
variable {P:Program}{n:Nat}{ops:Array Oper}{md:Region.Mode}{rd:Option Nat}{mm:Nat}
def ActA(k:AK)(ks:List Nat)(xs:List AV)(l:List Grp)(x:AV)(l':List Grp):Prop :=
 ∃g G,Vz k xs g G x/\g<l.length/\l.getD g default=⟨G.w,1,true,[]⟩/\g∈ks/\l'=l.set g G
theorem Vz.ver{k:AK}{xs:List AV}{g:Nat}{G:Grp}{x:AV}(h:Vz k xs g G x):G.ver=2:=by
 unfold Vz at h;split at h
 ·rw[h.1]
 ·rw[h.2.2.1]
 ·rw[h.2.2.2.1]
 ·exact h.elim
theorem Kd{l:List Grp}{g:Nat}(G:Grp)(h:g<l.length):(l.set g G).getD g default=G:=by simp[List.getD,h]
theorem GC{l:List Grp}{g j:Nat}(G:Grp)(h:g≠j):(l.set g G).getD j default=l.getD j default:=by simp[List.getD,Cz h]
theorem ActA.same{k:AK}{ks:List Nat}{xs:List AV}{l l':List Grp}{x:AV}(h:ActA k ks xs l x l'):l'.length=l.length/\∀g,g∉ks->l'.getD g default=l.getD g default:=by
 obtain⟨g,G,_,h1,_,h2,rfl⟩:=h;refine⟨by simp,λj hj=>GC _ (λe=>hj (e ▸ h2))⟩
def zkp(P:Program)(f:Bool)(ks:List Nat)(q:AOp)(x:AV)(env:Env)(l l':List Grp):Prop :=
 PF P q x env l l'/\(Lets q env->f=true->BX (·∉ks) (q.vals env))/\((q.k.eff=some 1\/q.k.eff=some 2)->l.length<=l'.length/\∀g,g∉ks->g<l.length->l'.getD g default=l.getD g default)/\(q.k.eff=some 1->l'.length=l.length)/\(q.k.grows=true->∀g,g∉ks->g<l'.length->g<l.length)
def NK(P:Program)(f:Bool)(ks:List Nat)(q:AOp)(x:AV)(env:Env)(l l':List Grp):Prop :=
 (q.k.laid=true/\((Lets q env/\ActA q.k ks (q.vals env) l x l')\/(Bars q env/\x=.tup []/\l'=l)))\/(q.k.laid=false/\zkp P f ks q x env l l')
theorem z95{f:Bool}{ks:List Nat}{l l':List Grp}{S:MS}(hS:SRel S (hl l)){env:Env}{a:Act}(hF:FRel S n env a){i:Nat}{o:Oper}(ho:ops[i]? = some o){q:AOp}(h:Cs P n ops o=some q){x:AV}(hy:NK P f ks q x env l l')
 {N:Act->World->Prop} {Q:Exit->Act->World->Prop} (hN:∀S' a',Evo S S'->SRel S' (hl l')->FRel S' n (env.put q.dst x) a'->N a' S'.w):wpOpIn (fen rd) mm P ops Q i N a S.w:=by
 rcases hy with⟨hlaid,hy⟩|⟨_,hy⟩
 ·obtain⟨hL,hB⟩:=Kc h hF
  rcases hy with⟨h1,g,G,hla,hg,hG,_,rfl⟩|⟨h1,rfl,rfl⟩
  ·unfold wpOpIn
   simp only[ho];rw[Ae (hL h1)];obtain⟨k1,k2,k3,k4,k5⟩:=Cb h;have hsem:o.semAt (fen rd).round a.eval=execOp a.eval o:=Oper.semAt_eq _ _ _ λc hc=>by have k1:=Ik k1 (λe=>by rw[e] at hlaid;cases hlaid);rw[hc] at k1;cases k1
   have hst:=Zo (K:=λy H'=>y=x/\H'=hl (l.set g G)) hS o (ρ:=a.eval) k1 (Jt hF k2) hla (g:=g) hg hG ⟨rfl,Hr _ _ _ hg⟩;rcases hst with⟨v,S',y,H',hr,e,hS',hv,rfl,rfl⟩|⟨f,cargs,hr,hc⟩
   ·have hN':=λv' (hv':VRel S' y v')=>hN S' (a.put o.dst v') e hS' (by rw[k3];exact (hF.mono e).put k4 hv')
    refine⟨λ_ _=>trivial,?_⟩;rw[hsem];rcases hr with hr|⟨hr,rfl⟩<;>rw[hr]
    ·exact hN' v hv
    ·exact hN' undef hv
   ·refine⟨λ_ _=>trivial,?_⟩
    rw[hsem,hr,Oper.uponIn_enter];refine⟨λh=>(by cases h),NH (hc.mono λe w' hh=>?_)⟩;obtain⟨v,S',y,H',rfl,rfl,ev,hS',hv,rfl,rfl⟩:=hh;exact hN S' (a.put o.dst v) ev hS' (by rw[k3];exact (hF.mono ev).put k4 hv)
  ·unfold wpOpIn
   simp only[ho];rw[Ab (by rw[hB h1];simp)];obtain⟨_,_,h3,h4,_⟩:=Cb h;exact⟨λ_ _=>trivial,hN S _ (.refl S) hS (by rw[h3];exact hF.put h4 IM)⟩
 ·exact R5 hS hF ho h hy.1 hN
def anyY(P:Program)(fl:List Bool)(ks:List Nat)(md:Region.Mode)(ops:Array Oper)(L:List AOp)(Q:Env->List Grp->Prop):Nat->Array Bool->Env->List Grp->Prop
 |0,listed,env,l=>Region.ready md ops listed=[]/\Q env l
 |f+1,listed,env,l=>(Region.ready md ops listed=[]->Q env l)/\∀i∈Region.ready md ops listed,∃q x l',L[i]? = some q/\NK P (fl.getD i false) ks q x env l l'/\anyY P fl ks md ops L Q f (listed.setIfInBounds i true) (env.put q.dst x) l'
theorem Qe{fl:List Bool}{ks:List Nat}{L:List AOp}(hL:ops.toList.mapM (Cs P n ops)=some L){Q:Env->List Grp->Prop}{Q':Exit->Act->World->Prop}:∀(fuel:Nat)(listed:Array Bool)(env:Env)(l:List Grp)(S:MS)(a:Act),anyY P fl ks md ops L Q fuel listed env l->SRel S (hl l)->FRel S n env a ->
 (∀S' env' l' a',Evo S S'->SRel S' (hl l')->FRel S' n env' a'->Q env' l'->Q' .normal a' S'.w)->wpAnyIn (fen rd) mm P md ops Q' fuel listed a S.w
 |0,listed,env,l,S,a,h,hS,hF,hQ=>⟨h.1,hQ S env l a (.refl S) hS hF h.2⟩
 |fuel+1,listed,env,l,S,a,h,hS,hF,hQ=>by
  refine⟨λh0=>hQ S env l a (.refl S) hS hF (h.1 h0),λi hi=>?_⟩;obtain⟨q,x,l',hq,hy,hrest⟩:=h.2 i hi;obtain⟨_,o,ho,_⟩:=mem_ready.1 hi;obtain⟨q',hq',hc⟩:=Fb hL (i:=i) (o:=o) (by simpa using ho);rw[hq] at hq';cases hq';exact z95 hS hF ho hc hy λS' a' e hS' hF'=>Qe hL fuel _ _ _ S' a' hrest hS' hF' λS2 env2 l2 a2 e2 hS2 hF2 hQ2=>hQ S2 env2 l2 a2 (e.trans e2) hS2 hF2 hQ2
theorem Ty{f:Bool}{ks:List Nat}{o:Oper}{q:AOp}(h:Cs P n ops o=some q){dst:Option Nat}(hd:∀d,dst=some d->d∉o.looksAt ops){env:Env}{x y:AV}{l l':List Grp}:NK P f ks q y (env.put dst x) l l'↔NK P f ks q y env l l':=by
 obtain⟨h1,h2,h3⟩:=Nq h hd env x;unfold NK zkp;rw[KC h hd,h1,h2,h3]
def Zp(fl:List Bool)(i j:Nat)(qi qj:AOp):Prop :=
 (qi.k.laid=true/\qj.k.laid=true)\/(qi.k.eff=none/\(qj.k.eff=none\/(JF qi.k qj.k=true/\qj.k.laid=false)\/(fl.getD i false=true\/qi.k.solo=true)/\(qj.k.laid=true\/qj.k.eff=some 1\/qj.k.eff=some 2)))\/((qi.k.laid=true\/qi.k.eff=some 1)/\qj.k.eff=none/\(fl.getD j false=true\/qj.k.solo=true))\/(qi.k.grows=true/\qj.k.eff=none/\fl.getD j false=true)
theorem IP{k:AK}(h:k.grows=true):k.eff=some 2:=by cases k<;>first|rfl|cases h
theorem Zq{k:AK}(h:k.grows=true):k.laid=false:=by cases k<;>first|rfl|cases h
theorem QG.back{k:AK}{l l':List Grp}{xs:List AV}{x:AV}(hx:BX (λg=>g<l.length->g<l'.length/\l'.getD g default=l.getD g default) xs)(h:QG P k l xs x):QG P k l' xs x:=by
 rcases h with h|h|⟨h1,h2,h3⟩
 ·exact .inl h
 ·exact .inr (.inl h)
 ·have key:∀{xs:List AV}{p q:Nat->Prop},BX p xs->BX q xs->BX (λg=>p g/\q g) xs:=by
   intro xs
   induction xs with
   |nil=>intro p q _ _;trivial
   |cons a r ih =>
    intro p q hp hq;cases a<;>simp only[BX] at hp hq ⊢<;>first|exact ih hp hq|exact⟨⟨hp.1,hq.1⟩,ih hp.2 hq.2⟩
  refine .inr (.inr ⟨h1,CC (λg hg=>(hg.2 hg.1).1) (key h2 hx),LB h1 (CC (λg hg=>?_) (key h2 hx)) h3⟩);rw[Dr,Dr];exact (hg.2 hg.1).2
theorem QG.solo{k:AK}{l l':List Grp}{xs:List AV}{x:AV}(h:QG P k l xs x)(hk:k.solo=true)(hl:l.length<=l'.length):QG P k l' xs x:=by
 rcases h with h|h|⟨h1,h2,h3⟩
 ·exact .inl h
 ·exact .inr (.inl h)
 ·refine .inr (.inr ⟨h1,CC (λg hg=>AX hg hl) h2,?_⟩)
  cases k<;>first|(cases hk;done)|exact h3|(rcases xs with _|⟨a,_|⟨b,r⟩⟩<;>exact h3)
theorem z96{k:AK}(h:k.laid=true):k.eff=some 0:=by cases k<;>first|rfl|cases h
theorem R6{k:AK}(h:k.eff=none):k.laid=false:=by cases k<;>first|rfl|cases h
theorem swapY{fl:List Bool}{ks:List Nat}{i j:Nat}{qi qj:AOp}{x xj:AV}{env:Env}{l l1 l2:List Grp}(hp:Zp fl i j qi qj)(hy:NK P (fl.getD i false) ks qi x env l l1)(hyj:NK P (fl.getD j false) ks qj xj env l1 l2):
 ∃lj,NK P (fl.getD j false) ks qj xj env l lj/\NK P (fl.getD i false) ks qi x env lj l2:=by
 rcases hp with⟨hi,hj⟩|⟨hi,hp⟩|⟨hi,hj,hf⟩|⟨hi,hj,hf⟩
 ·have hy:=(hy.resolve_right λh=>by rw[hi] at h;cases h.1).2
  have hyj:=(hyj.resolve_right λh=>by rw[hj] at h;cases h.1).2;rcases hy with⟨a1,a2⟩|⟨a1,a2,rfl⟩
  ·rcases hyj with⟨b1,b2⟩|⟨b1,b2,rfl⟩
   ·obtain⟨g,G,hla,hg,hG,hgk,rfl⟩:=a2
    obtain⟨g',G',hla',hg',hG',hgk',rfl⟩:=b2
    have hne:g≠g':=by
     intro e;subst e;rw[Kd _ hg] at hG';have:=hla.ver;rw[hG'] at this;cases this
    rw[GC _ hne] at hG';rw[Ea] at hg';refine⟨l.set g' G',.inl ⟨hj,.inl ⟨b1,g',G',hla',hg',hG',hgk',rfl⟩⟩,.inl ⟨hi,.inl ⟨a1,g,G,hla,by simpa using hg,?_,hgk,?_⟩⟩⟩
    ·rw[GC _ (De hne)];exact hG
    ·rw[List.set_comm _ _ hne]
   ·exact⟨l,.inl ⟨hj,.inr ⟨b1,b2,rfl⟩⟩,.inl ⟨hi,.inl ⟨a1,a2⟩⟩⟩
  ·exact⟨l2,.inl ⟨hj,hyj⟩,.inl ⟨hi,.inr ⟨a1,a2,rfl⟩⟩⟩
 ·rcases hy with⟨hy,_⟩|⟨hil,hy⟩
  ·rw[R6 hi] at hy;cases hy
  have hl1:l1=l:=by
   rcases hy.1 with⟨_,⟨_,_,hh⟩|⟨hh,_⟩⟩|⟨_,_,hh⟩
   ·exact hh
   ·exact absurd hi hh
   ·exact hh
  subst hl1;refine⟨l2,hyj,.inr ⟨hil,?_⟩⟩
  have keep:l2=l1\/(fl.getD i false=true/\l1.length<=l2.length/\∀g,g∉ks->g<l1.length->l2.getD g default=l1.getD g default)\/(∀ys z,QG P qi.k l1 ys z->QG P qi.k l2 ys z):=by
   rcases hyj with⟨hjl,⟨_,hyj⟩|⟨_,_,rfl⟩⟩|⟨hjl,hyj⟩
   ·obtain⟨e1,e2⟩:=hyj.same
    rcases hp with hp|⟨_,hp⟩|⟨hp,_⟩
    ·rw[z96 hjl] at hp;cases hp
    ·rw[hjl] at hp;cases hp
    ·rcases hp with hp|hp
     ·exact .inr (.inl ⟨hp,by omega,λg hg _=>e2 g hg⟩)
     ·exact .inr (.inr λys z hh=>hh.solo hp (by omega))
   ·exact .inl rfl
   ·rcases hyj.1 with⟨_,⟨_,_,rfl⟩|⟨hne,_,hcm⟩⟩|⟨_,_,rfl⟩
    ·exact .inl rfl
    ·rcases hp with hp|⟨hp,_⟩|⟨hp,hp2⟩
     ·exact absurd hp hne
     ·exact .inr (.inr λys z hh=>hcm qi.k hp ys z hh)
     ·have:=hp2.resolve_left (by rw[hjl];simp)
      rcases hp with hp|hp
      ·exact .inr (.inl ⟨hp,hyj.2.2.1 this⟩)
      ·exact .inr (.inr λys z hh=>hh.solo hp (hyj.2.2.1 this).1)
    ·exact .inl rfl
  refine⟨?_,hy.2.1,λh2=>(by rw[hi] at h2;rcases h2 with h2|h2<;>cases h2),λ_=>rfl,λh2=>(by rw[IP h2] at hi;cases hi)⟩;rcases hy.1 with⟨b1,⟨b2,b3,_⟩|⟨b2,_⟩⟩|⟨b1,b2,_⟩
  ·refine .inl ⟨b1,.inl ⟨b2,?_,rfl⟩⟩
   rcases keep with rfl|⟨k1,k2,k3⟩|k1
   ·exact b3
   ·exact b3.away k2 (CC (λg hg=>k3 g hg) (hy.2.1 b1 k1))
   ·exact k1 _ _ b3
  ·exact absurd hi b2
  ·exact .inr ⟨b1,b2,rfl⟩
 ·rcases hyj with⟨hyj,_⟩|⟨hjl,hyj⟩
  ·rw[R6 hj] at hyj;cases hyj
  have hl2:l2=l1:=by
   rcases hyj.1 with⟨_,⟨_,_,hh⟩|⟨hh,_⟩⟩|⟨_,_,hh⟩
   ·exact hh
   ·exact absurd hj hh
   ·exact hh
  subst hl2;refine⟨l,.inr ⟨hjl,?_⟩,hy⟩
  have keep:l2.length=l.length/\∀g,g∉ks->g<l2.length->l.getD g default=l2.getD g default:=by
   rcases hy with⟨_,⟨_,hy⟩|⟨_,_,rfl⟩⟩|⟨hil,hy⟩
   ·obtain⟨e1,e2⟩:=hy.same
    exact⟨e1,λg hg _=>(e2 g hg).symm⟩
   ·exact⟨rfl,λ_ _ _=>rfl⟩
   ·have h1:qi.k.eff=some 1:=hi.resolve_left (by rw[hil];simp)
    obtain⟨_,_,k1,k2,_⟩:=hy;have k2:=k2 h1;exact⟨k2,λg hg hlt=>((k1 (.inl h1)).2 g hg (by omega)).symm⟩
  refine⟨?_,hyj.2.1,λh2=>(by rw[hj] at h2;rcases h2 with h2|h2<;>cases h2),λ_=>rfl,λh2=>(by rw[IP h2] at hj;cases hj)⟩;rcases hyj.1 with⟨b1,⟨b2,b3,_⟩|⟨b2,_⟩⟩|⟨b1,b2,_⟩
  ·exact .inl ⟨b1,.inl ⟨b2,hf.elim (λhf=>b3.away (by omega) (CC (λg hg=>keep.2 g hg) (hyj.2.1 b1 hf))) λhf=>b3.solo hf (by omega),rfl⟩⟩
  ·exact absurd hj b2
  ·exact .inr ⟨b1,b2,rfl⟩
 ·rcases hyj with⟨hyj,_⟩|⟨hjl,hyj⟩
  ·rw[R6 hj] at hyj;cases hyj
  have hl2:l2=l1:=by
   rcases hyj.1 with⟨_,⟨_,_,hh⟩|⟨hh,_⟩⟩|⟨_,_,hh⟩
   ·exact hh
   ·exact absurd hj hh
   ·exact hh
  subst hl2;refine⟨l,.inr ⟨hjl,?_⟩,hy⟩;obtain⟨_,_,k1,_,k3⟩:=(hy.resolve_left λh=>by rw[Zq hi] at h;cases h.1).2;have k1:=(k1 (.inr (IP hi))).2;have k3:=k3 hi;refine⟨?_,hyj.2.1,λh2=>(by rw[hj] at h2;rcases h2 with h2|h2<;>cases h2),λ_=>rfl,λh2=>(by rw[IP h2] at hj;cases hj)⟩;rcases hyj.1 with⟨b1,⟨b2,b3,_⟩|⟨b2,_⟩⟩|⟨b1,b2,_⟩
  ·exact .inl ⟨b1,.inl ⟨b2,b3.back (CC (λg hg hlt=>⟨k3 g hg hlt,(k1 g hg (k3 g hg hlt)).symm⟩) (hyj.2.1 b1 hf)),rfl⟩⟩
  ·exact absurd hj b2
  ·exact .inr ⟨b1,b2,rfl⟩
theorem Zr{fl:List Bool}{ks:List Nat}{L:List AOp}(hL:ops.toList.mapM (Cs P n ops)=some L){Q:Env->List Grp->Prop}{i:Nat}{oi:Oper}{qi:AOp}{x:AV}(hi:ops[i]? = some oi)(hqi:L[i]? = some qi)
 (hpair:∀j,i<j->match L[j]? with|some qj=>Zp fl i j qi qj\/Region.waitsFor md ops j i=true|none=>True):∀(fuel:Nat)(listed:Array Bool)(env:Env)(l l1:List Grp),
 (∀j,j<i->listed.getD j true=true) ->
 (∀j oj,ops[j]? = some oj->j≠i->listed.getD j true=false->(∀e∈oj.after,Region.binds md e=true->e.on≠i)->oi.apart ops oj=true) ->
 i∈Region.ready md ops listed->NK P (fl.getD i false) ks qi x env l l1->anyY P fl ks md ops L Q fuel (listed.setIfInBounds i true) (env.put qi.dst x) l1->anyY P fl ks md ops L Q (fuel+1) listed env l:=by
 have hci:Cs P n ops oi=some qi:=by
  obtain⟨q,hq,hc⟩:=Fb hL (i:=i) (o:=oi) (by simpa using hi);rw[hqi] at hq;cases hq;exact hc
 intro fuel
 induction fuel with
 |zero =>
  intro listed env l l1 _ _ hr hy h;refine⟨λh=>(by rw[h] at hr;cases hr),λj hj=>?_⟩;by_cases hji:j=i
  ·subst hji;exact⟨qi,x,l1,hqi,hy,h⟩
  ·have:=ready_mono hj hji
   rw[h.1] at this;cases this
 |succ fuel ih =>
  intro listed env l l1 hlow hfree hr hy h;refine⟨λh=>(by rw[h] at hr;cases hr),λj hj=>?_⟩;by_cases hji:j=i
  ·subst hji;exact⟨qi,x,l1,hqi,hy,h⟩
  ·obtain⟨qj,xj,l2,hqj,hyj,hrest⟩:=h.2 j (ready_mono hj hji)
   obtain⟨hjun,oj,hoj,hall⟩:=mem_ready.1 hj
   have hcj:Cs P n ops oj=some qj:=by
    obtain⟨q,hq,hc⟩:=Fb hL (i:=j) (o:=oj) (by simpa using hoj);rw[hqj] at hq;cases hq;exact hc
   have hun:=(mem_ready.1 hr).1
   have hnot:∀e∈oj.after,Region.binds md e=true->e.on≠i:=λe he hb heq=>by
    have h1:=hall e he hb;rw[heq,getD_both hun] at h1;cases h1
   have hij:i<j:=by
    rcases Ew i j with h1|h1|h1
    ·exact h1
    ·exact absurd h1.symm hji
    ·rw[hlow j h1] at hjun;cases hjun
   obtain⟨a1,a2,a3⟩:=Oper.apart_spec (hfree j oj hoj hji hjun hnot);have di:qi.dst=oi.dst:=(Cb hci).2.2.1;have dj:qj.dst=oj.dst:=(Cb hcj).2.2.1
   have hfree':∀k ok,ops[k]? = some ok->k≠i->(listed.setIfInBounds j true).getD k true=false ->
    (∀e∈ok.after,Region.binds md e=true->e.on≠i)->oi.apart ops ok=true:=λk ok hk hki hun hno=>by
    refine hfree k ok hk hki ?_ hno;by_cases hjk:j=k
    ·subst hjk;exact hjun
    ·rw[getD_set_ne true hjk] at hun;exact hun
   have hlow':∀k,k<i->(listed.setIfInBounds j true).getD k true=true:=λk hk=>by
    rw[getD_set_ne true (by omega)];exact hlow k hk
   have hp:Zp fl i j qi qj:=by
    have h1:=hpair j hij;rw[hqj] at h1;rcases h1 with h1|h1
    ·exact h1
    ·obtain⟨oj',hoj',e,he,hb,hon⟩:=Region.waitsFor_spec h1
     have:oj'=oj:=BW (hoj'.symm.trans hoj);subst this;exact absurd hon (hnot e he hb)
   have hyj':=(Ty hcj (by rw[di];exact a1)).1 hyj;obtain⟨lj,s1,s2⟩:=swapY hp hy hyj';refine⟨qj,xj,lj,hqj,s1,ih (listed.setIfInBounds j true) _ lj l2 hlow' hfree' (ready_mono hr (De hji)) ((Ty hci (by rw[dj];exact a3)).2 s2) ?_⟩;rw[Cw _ _ hji,put_comm env xj x (by rw[di,dj];intro d hd hh;exact a2 d hh hd)];exact hrest
def runY(P:Program)(ks:List Nat):List Bool->List AOp->Env->List Grp->(Env->List Grp->Prop)->Prop
 |_,[],env,l,K=>K env l
 |fl,o::r,env,l,K=>He env o.guard λw env =>
  if w then (if o.k.laid then ∃x l',ActA o.k ks (o.vals env) l x l'/\runY P ks fl.tail r (env.put o.dst x) l' K
   else if o.k.eff.isNone then (fl.headD false=true->BX (·∉ks) (o.vals env))/\∃x,QG P o.k l (o.vals env) x/\runY P ks fl.tail r (env.put o.dst x) l K
   else ∃x l',AF P o.k (hl l) (o.vals env) (λy H'=>y=x/\H'=hl l')/\Comm P o.k l l'/\((o.k.eff=some 1\/o.k.eff=some 2)->l.length<=l'.length/\∀g,g∉ks->g<l.length->l'.getD g default=l.getD g default)/\(o.k.eff=some 1->l'.length=l.length)/\(o.k.grows=true->∀g,g∉ks->g<l'.length->g<l.length)/\(fl.headD false=true->BX (·∉ks) (o.vals env))/\runY P ks fl.tail r (env.put o.dst x) l' K)
  else runY P ks fl.tail r (env.put o.dst (.tup [])) l K
theorem Xw{fl:List Bool}{ks:List Nat}{L:List AOp}(hL:ops.toList.mapM (Cs P n ops)=some L){Q:Env->List Grp->Prop}
 (hpair:∀i j qi,i<j->L[i]? = some qi->match L[j]? with|some qj=>Zp fl i j qi qj\/Region.waitsFor md ops j i=true|none=>True):∀(r:List Oper)(r':List AOp)(k:Nat)(listed:Array Bool)(env:Env)(l:List Grp),(∀j,r[j]? = ops[k+j]?)->(∀j,r'[j]? = L[k+j]?)->r.length=r'.length->(∀j,j<k->listed.getD j true=true) ->
 Region.lexFrom md ops r.length k listed=true->runY P ks (fl.drop k) r' env l Q->anyY P fl ks md ops L Q r.length listed env l
 |[],[],_,_,_,_,_,_,_,_,hB,h=>⟨by simpa [Region.lexFrom] using hB,h⟩
 |o::r,q::r',k,listed,env,l,hr0,hr0',hlen,hlow,hB,h=>by
  have h0:ops[k]? = some o:=by simpa using (hr0 0).symm
  have h0':L[k]? = some q:=by simpa using (hr0' 0).symm
  have hk:k<ops.size:=(Bl.1 h0).1;simp only[List.length_cons,Region.lexFrom,Ac] at hB;obtain⟨⟨hr,hf⟩,hB'⟩:=hB;simp only[runY] at h;have hhd:(fl.drop k).headD false=fl.getD k false:=by simp[List.headD_eq_head?_getD,List.head?_drop]
  have htl:(fl.drop k).tail=fl.drop (k+1):=by simp
  rw[hhd,htl] at h;have hr':k∈Region.ready md ops listed:=by simpa using hr
  have hlow':∀j,j<k+1->(listed.setIfInBounds k true).getD j true=true:=λj hj=>by
   by_cases hjk:k=j
   ·subst hjk
    rcases Ak k listed.size with hs|hs
    ·simp[hs]
    ·simp[C5 hs]
   ·rw[getD_set_ne true hjk]
    exact hlow j (by omega)
  have ih:=λenv' l' (hh:runY P ks (fl.drop (k+1)) r' env' l' Q)=>Xw hL hpair r r' (k+1) (listed.setIfInBounds k true) env' l' (λj=>by have:=hr0 (j+1);simpa [Bo,Ci 1 j] using this) (λj=>by have:=hr0' (j+1);simpa [Bo,Ci 1 j] using this) (by simpa using hlen) hlow' hB' hh;have first:=λx l1 (hy:NK P (fl.getD k false) ks q x env l l1) (hh:runY P ks (fl.drop (k+1)) r' (env.put q.dst x) l1 Q)=>Zr hL h0 h0' (λj hj=>hpair k j q hj h0') r.length listed env l l1 hlow (Region.free_spec h0 hf) hr' hy (ih _ _ hh)
  cases hla:q.k.laid with
  |true =>
   rcases FB h with⟨h1,h2⟩|⟨h1,h2⟩
   ·simp only[hla,Bi] at h2
    obtain⟨x,l',b1,b2⟩:=h2;exact first x l' (.inl ⟨hla,.inl ⟨h1,b1⟩⟩) b2
   ·simp only[A8,Bt] at h2
    exact first (.tup []) l (.inl ⟨hla,.inr ⟨h1,rfl,rfl⟩⟩) h2
  |false =>
   rcases FB h with⟨h1,h2⟩|⟨h1,h2⟩
   ·simp only[hla,Bi,A8,Bt] at h2
    cases he:q.k.eff with
    |none =>
     simp only[he,Option.isNone_none,Bi] at h2;obtain⟨hfl,x,hx,hK⟩:=h2;exact first x l (.inr ⟨hla,.inl ⟨h1,.inl ⟨he,hx,rfl⟩⟩,λ_=>hfl,λhh=>(by rw[he] at hh;rcases hh with hh|hh<;>cases hh),λ_=>rfl,λhh=>(by rw[IP hh] at he;cases he)⟩) hK
    |some e =>
     simp only[he,Option.isNone_some,A8,Bt] at h2;obtain⟨x,l',b1,b3,b4,b6,b7,b5,b2⟩:=h2;exact first x l' (.inr ⟨hla,.inl ⟨h1,.inr ⟨by simp[he],b1,b3⟩⟩,λ_=>b5,λhh=>b4 (by rw[<-he];exact hh),λhh=>b6 (by rw[<-he];exact hh),b7⟩) b2
   ·simp only[A8,Bt] at h2
    refine first (.tup []) l (.inr ⟨hla,.inr ⟨h1,rfl,rfl⟩,λhL'=>?_,λ_=>⟨Ad _,λ_ _ _=>rfl⟩,λ_=>rfl,λ_ _ _ hh=>hh⟩) h2
    exfalso;unfold Lets at hL';unfold Bars at h1;split at hL'
    ·rename_i hg;rw[hg] at h1;exact h1
    ·rename_i d want hg
     rw[hg] at h1;simp only at h1;rw[hL'] at h1;rcases h1 with h1|h1
     ·cases want<;>simp at h1
     ·cases h1
 |[],_::_,_,_,_,_,_,_,hlen,_,_,_=>by simp at hlen
 |_::_,[],_,_,_,_,_,_,hlen,_,_,_=>by simp at hlen
theorem Zs{L:List AOp}{i j:Nat}{qi qj:AOp}(hi:L[i]? = some qi)(hj:L[j]? = some qj)(h:zfk md ops L i j=true):Zp (JH md ops L) i j qi qj\/Region.waitsFor md ops j i=true:=by
 unfold zfk at h;rw[hi,hj] at h;simp only[EX,Ac,DN,BK,AA] at h;rcases h with (((h|⟨h1,h2⟩)|⟨h1,h2⟩)|⟨⟨h1,h2⟩,h3⟩)|⟨⟨h1,h2⟩,h3⟩
 ·exact .inr h
 ·exact .inl (.inl ⟨h1,h2⟩)
 ·refine .inl (.inr (.inl ⟨h1,?_⟩))
  rcases h2 with (h2|h2)|⟨h2,h3⟩
  ·exact .inl h2
  ·exact .inr (.inl h2)
  ·refine .inr (.inr ⟨h2,?_⟩)
   rcases h3 with (h3|h3)|h3
   ·exact .inl h3
   ·exact .inr (.inl h3)
   ·exact .inr (.inr h3)
 ·exact .inl (.inr (.inr (.inl ⟨h1,h2,h3⟩)))
 ·exact .inl (.inr (.inr (.inr ⟨h1,h2,h3⟩)))
theorem zkq{S:MS}{a:Act}{env:Env}{id:Nat}{ks:List Nat}{L:List AOp}{l:List Grp}(hm:P.follows .mixedOrders=true)(hB:Region.lexB .any ops=true)(hp:Xh .any ops L=true)(hL:ops.toList.mapM (Cs P n ops)=some L)(hS:SRel S (hl l))(hF:FRel S n env a){K:Env->List Grp->Prop}(h:runY P ks (JH .any ops L) L env l K)
 {Q:Exit->Act->World->Prop} (hQ:∀S' env' l' a',Evo S S'->SRel S' (hl l')->FRel S' n env' a'->K env' l'->Q .normal a' S'.w):(Code.region id ops true).wpIn (fen rd) mm P Q a S.w:=by
 simp only[Region.lexB,Ac] at hB;have hlen:ops.toList.length=L.length:=mapM_length hL
 have hpair:∀i j qi,i<j->L[i]? = some qi->match L[j]? with|some qj=>Zp (JH .any ops L) i j qi qj\/Region.waitsFor .any ops j i=true|none=>True:=λi j qi hij hqi=>by
  by_cases hj:j<ops.size
  ·have h1:=AP.1 (AP.1 hp j (Bq.2 hj)) i (Bq.2 hij)
   cases hqj:L[j]? with
   |none=>trivial
   |some qj=>exact Zs hqi hqj h1
  ·have:L[j]? = none:=B9 (by rw[<-hlen];simp;omega)
   rw[this];trivial
 have:=Xw (md:=.any) (fl:=JH .any ops L) (ks:=ks) hL hpair ops.toList L 0 (Array.replicate ops.size false) env l (by simp) (by simp) hlen (λj hj=>by omega) (by simpa using hB.2) (by simpa using h);have e:=Evo.drew S;exact wpIn_region_any hm (Qe hL ops.size _ env l { S with w:=S.w.drew } a (by simpa using this) hS.drew (hF.mono e) λS' env' l' a' e' hS' hF' hK=>hQ S' env' l' a' (e.trans e') hS' hF' hK)
end
structure BEvo(b:Nat)(S S':MS):Prop where
 base:S'.base=S.base
 os:S'.w.os=S.w.os
 tape:JW S'.w S.w
 output:S'.w.output=S.w.output
 size:S.w.heap.size<=S'.w.heap.size
 kept:∀b,S.im b\/S.keep b->S'.w.heap[b]? = S.w.heap[b]?
 im:∀b,S.im b->S'.im b
 keep:∀b,S.keep b->S'.keep b
 fresh:∀b,S'.im b->S.im b\/¬S.keep b
 n:b<=S'.n
 cur:∀g,g<b->S.cur g<=S'.cur g
 same:∀g,g<b->S'.cur g=S.cur g->S'.place g=S.place g/\S'.cap g=S.cap g/\S'.wid g=S.wid g
theorem Evo.down{S S':MS}{b:Nat}(e:Evo S S')(hb:b<=S.n):BEvo b S S' :=
 ⟨e.base,e.os,e.tape,e.output,e.size,e.kept,e.im,e.keep,e.fresh,AJ hb e.n,λg hg=>e.cur g (AX hg hb),λg hg=>e.same g (AX hg hb)⟩
theorem BEvo.up{S S':MS}(e:BEvo S.n S S'):Evo S S' :=
 ⟨e.base,e.os,e.tape,e.output,e.size,e.kept,e.im,e.keep,e.fresh,e.n,e.cur,e.same⟩
theorem BEvo.refl{b:Nat}{S:MS}(hb:b<=S.n):BEvo b S S:=(Evo.refl S).down hb
theorem BEvo.trans{b:Nat}{A B C:MS}(h:BEvo b A B)(k:BEvo b B C):BEvo b A C where
 base:=k.base.trans h.base
 os:=k.os.trans h.os
 tape:=k.tape.trans h.tape
 output:=k.output.trans h.output
 size:=AJ h.size k.size
 kept b hb:=(k.kept b (hb.imp (h.im b) (h.keep b))).trans (h.kept b hb)
 im b hb:=k.im b (h.im b hb)
 keep b hb:=k.keep b (h.keep b hb)
 fresh b hb:=(k.fresh b hb).elim (h.fresh b) (λhn=>.inr λhk=>hn (h.keep b hk))
 n:=k.n
 cur g hg:=AJ (h.cur g hg) (k.cur g hg)
 same g hg e:=by
  have h1:=h.cur g hg;have h2:=k.cur g hg;have e1:B.cur g=A.cur g:=by omega
  have e2:C.cur g=B.cur g:=by omega
  obtain⟨p1,p2,p3⟩:=h.same g hg e1;obtain⟨q1,q2,q3⟩:=k.same g hg e2;exact⟨q1.trans p1,q2.trans p2,q3.trans p3⟩
inductive Ex where
 |normal
 |exit (id:Nat)
 |ret
def Ex.up:Ex->Exit
 |.normal=>.normal
 |.exit id=>.exit id
 |.ret=>.ret
def After(S:MS)(n b:Nat)(Q:Ex->Env->A5->Prop)(e:Exit)(a:Act)(w:World):Prop :=
 ∃S' env H' x,S'.w=w/\BEvo b S S'/\SRel S' H'/\FRel S' n env a/\e=Ex.up x/\Q x env H'
def T(P:Program)(n b:Nat)(c:AC)(env:Env)(H:A5)(Q:Ex->Env->A5->Prop):Prop :=
 ∀(rd:Option Nat)(mm:Nat)(_:c.free=true\/rd=none) code,E0 P n code=some c->∀S a,b<=S.n->SRel S H->FRel S n env a->code.wpIn (fen rd) mm P (After S n b Q) a S.w
section
variable {P:Program}{n b:Nat}{env:Env}{H:A5}{Q:Ex->Env->A5->Prop}
theorem z97{x y:Bool}{q:Prop}(h:(x&&y)=true\/q):(x=true\/q)/\(y=true\/q):=by
 rcases h with h|h
 ·rw[Ac] at h;exact⟨.inl h.1,.inl h.2⟩
 ·exact⟨.inr h,.inr h⟩
theorem After.trans{S S':MS}(e:BEvo b S S'){Q:Ex->Env->A5->Prop}{x:Exit}{a:Act}{w:World}(h:After S' n b Q x a w):After S n b Q x a w :=
 let ⟨S2,env,H',y,h1,h2,h3,h4,h5,h6⟩:=h
 ⟨S2,env,H',y,h1,e.trans h2,h3,h4,h5,h6⟩
theorem After.mono{S:MS}{Q Q':Ex->Env->A5->Prop}(hq:∀x env H,Q x env H->Q' x env H){x:Exit}{a:Act}{w:World}(h:After S n b Q x a w):After S n b Q' x a w :=
 let ⟨S2,env,H',y,h1,h2,h3,h4,h5,h6⟩:=h
 ⟨S2,env,H',y,h1,h2,h3,h4,h5,hq _ _ _ h6⟩
theorem T.mono{c:AC}{Q':Ex->Env->A5->Prop}(h:T P n b c env H Q)(hq:∀x env H,Q x env H->Q' x env H):T P n b c env H Q' :=
 λrd mm hrd code hc S a hb hS hF=>wpIn_mono (h rd mm hrd code hc S a hb hS hF) λ_ _ _ hh=>hh.mono hq
theorem Hf{F:Fence}{mm:Nat}{c:Code}{a:Act}{w:World}{R:Exit->Act->World->Prop}(h:c.wpIn F mm P (Exit.noGoto R) a w):(Code.scope c).wpIn F mm P R a w:=by
 intro b k cs hro hb hr;have h0:(lone (b.atR a (.code (.scope c)::k)) cs w).fenced P F:=fenced_calm hb hr rfl;obtain⟨e,a₁,w₁,hq,harr⟩:=h b (.inScope c::k) cs hro hb hr;have hs:step P (lone (b.atR a (.code (.scope c)::k)) cs w)=.next (lone (b.atR a (.code c::.inScope c::k)) cs w):=step_lone_go (by simp[stepG,stepG.exec,Frame.atR]);have hs2:step P (lone (b.atR a₁ (.inScope c::k)) cs w₁)=.next (lone (b.atR a₁ k) cs w₁):=step_lone_go (by simp[stepG,stepG.exec,Frame.atR]);cases e with
 |normal=>exact⟨.normal,a₁,w₁,hq,.head h0 hs (StepsIn.trans harr (.one (fenced_calm hb hr rfl) hs2))⟩
 |exit id=>exact⟨.exit id,a₁,w₁,hq,λk' hk=>.head h0 hs (harr.1 k' (by simp[exitTo,hk])),λhr' hk=>let ⟨k₁,h1,h2⟩:=harr.2 hr' (by simp[exitTo,hk]);⟨k₁,h1,.head h0 hs h2⟩⟩
 |goto l=>exact hq.elim
 |ret=>exact⟨_,a₁,w₁,hq,.of_steps (.one h0 hs) harr⟩
 |panic ch=>exact⟨_,a₁,w₁,hq,.of_steps (.one h0 hs) harr⟩
 |outgrown=>exact⟨_,a₁,w₁,hq,.of_steps (.one h0 hs) harr⟩
theorem z1r{F:Fence}{mm:Nat}{c:Code}{S:MS}{a:Act}{w:World}(h:c.wpIn F mm P (After S n b Q) a w):(Code.scope c).wpIn F mm P (After S n b Q) a w:=by
 refine Hf (wpIn_mono h λe a w hh=>?_);obtain⟨S2,env,H',y,h1,h2,h3,h4,h5,h6⟩:=hh;subst h5;cases y<;>exact⟨S2,env,H',_,h1,h2,h3,h4,rfl,h6⟩
theorem Tz{F:Fence}{mm:Nat}{c:AC}{S:MS}{a:Act}{w:World}(h:∀code,E0 P n code=some c->(∀d,code≠.scope d)->code.wpIn F mm P (After S n b Q) a w):∀code,E0 P n code=some c->code.wpIn F mm P (After S n b Q) a w
 |.scope d,hc=>z1r (Tz h d (by simpa [E0] using hc))
 |.skip,hc=>h _ hc (by simp)
 |.region ..,hc=>h _ hc (by simp)
 |.seq ..,hc=>h _ hc (by simp)
 |.cond ..,hc=>h _ hc (by simp)
 |.block ..,hc=>h _ hc (by simp)
 |.loop _,hc=>h _ hc (by simp)
 |.rangeFunc ..,hc=>h _ hc (by simp)
 |.exit _,hc=>h _ hc (by simp)
 |.label _,hc=>h _ hc (by simp)
 |.goto _,hc=>h _ hc (by simp)
 |.ret,hc=>h _ hc (by simp)
 |.refuse _,hc=>h _ hc (by simp)
theorem T_of{c:AC}(h:∀(rd:Option Nat)(mm:Nat)(_:c.free=true\/rd=none) code,E0 P n code=some c->(∀d,code≠.scope d)->∀S a,b<=S.n->SRel S H->FRel S n env a->code.wpIn (fen rd) mm P (After S n b Q) a S.w):T P n b c env H Q :=
 λrd mm hrd code hc S a hb hS hF=>Tz (λcode hc hs=>h rd mm hrd code hc hs S a hb hS hF) code hc
theorem Fc{ops:Array Oper}{draw:Bool}{l:List AOp}{c:AC}(h:Hb P ops draw l=some c):
 (draw=false/\c=.reg l)\/(draw=true/\P.follows .mixedOrders=true/\Region.lexB .any ops=true/\c=.dreg l)\/(draw=true/\∃m,P.follows .mixedOrders=true/\Region.lexTailB .any ops m=true/\c=.dtl (l.take m) (l.drop m))\/(draw=true/\P.follows .mixedOrders=true/\Region.lexB .any ops=true/\Te .any ops l=true/\c=.greg l)\/(draw=true/\P.follows .mixedOrders=true/\Region.lexB .any ops=true/\Xg .any ops l=true/\c=.grx (NB .any ops l) l)\/(draw=true/\P.follows .mixedOrders=true/\Region.lexB .any ops=true/\Xh .any ops l=true/\c=.gry (JH .any ops l) l):=by
 unfold Hb at h;split at h
 ·rename_i hd
  split at h
  ·rename_i hf
   split at h
   ·split at h
    ·rename_i hB
     cases h;simp only[Ac] at hB;exact .inr (.inr (.inl ⟨hd,_,hf,hB.2,rfl⟩))
    ·split at h
     ·rename_i hB
      cases h;simp only[Ac] at hB;exact .inr (.inr (.inl ⟨hd,_,hf,hB.2,rfl⟩))
     ·split at h
      ·rename_i hB;cases h;exact .inr (.inl ⟨hd,hf,hB,rfl⟩)
      ·cases h
   ·split at h
    ·rename_i hB;cases h;exact .inr (.inr (.inl ⟨hd,_,hf,hB,rfl⟩))
    ·split at h
     ·rename_i hB
      cases h;simp only[Ac] at hB;exact .inr (.inr (.inr (.inl ⟨hd,hf,hB.1,hB.2,rfl⟩)))
     ·split at h
      ·rename_i hB
       cases h;simp only[Ac] at hB;exact .inr (.inr (.inr (.inr (.inl ⟨hd,hf,hB.1,hB.2,rfl⟩))))
      ·split at h
       ·rename_i hB
        cases h;simp only[Ac] at hB;exact .inr (.inr (.inr (.inr (.inr ⟨hd,hf,hB.1,hB.2,rfl⟩))))
       ·cases h
  ·cases h
 ·rename_i hd;cases h;exact .inl ⟨by simpa using hd,rfl⟩
theorem Ke{ops:Array Oper}{draw:Bool}{l l':List AOp}(h:Hb P ops draw l=some (.reg l')):draw=false/\l'=l:=by
 rcases Fc h with⟨h1,h2⟩|⟨_,_,_,h2⟩|⟨_,_,_,_,h2⟩|⟨_,_,_,_,h2⟩|⟨_,_,_,_,h2⟩|⟨_,_,_,_,h2⟩<;>cases h2;exact⟨h1,rfl⟩
theorem T3{ops:Array Oper}{draw:Bool}{l l':List AOp}(h:Hb P ops draw l=some (.dreg l')):draw=true/\P.follows .mixedOrders=true/\Region.lexB .any ops=true/\l'=l:=by
 rcases Fc h with⟨_,h2⟩|⟨h1,h3,h4,h2⟩|⟨_,_,_,_,h2⟩|⟨_,_,_,_,h2⟩|⟨_,_,_,_,h2⟩|⟨_,_,_,_,h2⟩<;>cases h2;exact⟨h1,h3,h4,rfl⟩
theorem V2{ops:Array Oper}{draw:Bool}{l p q:List AOp}(h:Hb P ops draw l=some (.dtl p q)):draw=true/\∃m,P.follows .mixedOrders=true/\Region.lexTailB .any ops m=true/\p=l.take m/\q=l.drop m:=by
 rcases Fc h with⟨_,h2⟩|⟨_,_,_,h2⟩|⟨h1,m,h3,h4,h2⟩|⟨_,_,_,_,h2⟩|⟨_,_,_,_,h2⟩|⟨_,_,_,_,h2⟩<;>cases h2;exact⟨h1,m,h3,h4,rfl,rfl⟩
theorem T4{ops:Array Oper}{draw:Bool}{l l':List AOp}(h:Hb P ops draw l=some (.greg l')):draw=true/\P.follows .mixedOrders=true/\Region.lexB .any ops=true/\Te .any ops l=true/\l'=l:=by
 rcases Fc h with⟨_,h2⟩|⟨_,_,_,h2⟩|⟨_,_,_,_,h2⟩|⟨h1,h3,h4,h5,h2⟩|⟨_,_,_,_,h2⟩|⟨_,_,_,_,h2⟩<;>cases h2;exact⟨h1,h3,h4,h5,rfl⟩
theorem V3{ops:Array Oper}{draw:Bool}{l l':List AOp}{fl:List Bool}(h:Hb P ops draw l=some (.grx fl l')):draw=true/\P.follows .mixedOrders=true/\Region.lexB .any ops=true/\Xg .any ops l=true/\l'=l/\fl=NB .any ops l:=by
 rcases Fc h with⟨_,h2⟩|⟨_,_,_,h2⟩|⟨_,_,_,_,h2⟩|⟨_,_,_,_,h2⟩|⟨h1,h3,h4,h5,h2⟩|⟨_,_,_,_,h2⟩<;>cases h2;exact⟨h1,h3,h4,h5,rfl,rfl⟩
theorem V4{ops:Array Oper}{draw:Bool}{l l':List AOp}{fl:List Bool}(h:Hb P ops draw l=some (.gry fl l')):draw=true/\P.follows .mixedOrders=true/\Region.lexB .any ops=true/\Xh .any ops l=true/\l'=l/\fl=JH .any ops l:=by
 rcases Fc h with⟨_,h2⟩|⟨_,_,_,h2⟩|⟨_,_,_,_,h2⟩|⟨_,_,_,_,h2⟩|⟨_,_,_,_,h2⟩|⟨h1,h3,h4,h5,h2⟩<;>cases h2;exact⟨h1,h3,h4,h5,rfl,rfl⟩
def AC.isReg:AC->Bool
 |.reg _|.dreg _|.dtl _ _|.greg _|.grx _ _|.gry _ _=>true
 |_=>false
theorem R7{ops:Array Oper}{draw:Bool}{l:List AOp}{c:AC}(h:Hb P ops draw l=some c):c.isReg=true:=by
 rcases Fc h with⟨_,rfl⟩|⟨_,_,_,rfl⟩|⟨_,_,_,_,rfl⟩|⟨_,_,_,_,rfl⟩|⟨_,_,_,_,rfl⟩|⟨_,_,_,_,rfl⟩<;>rfl
theorem Dj{ops:Array Oper}{draw:Bool}{o:Option (List AOp)}{c:AC}(hc:c.isReg=false:=by rfl):¬(match o with|some l=>Hb P ops draw l|none=>none)=some c:=by
 intro h;split at h
 ·rw[R7 h] at hc;cases hc
 ·cases h
theorem zkr(h:Q .normal env H):T P n b .skip env H Q:=T_of λrd mm hrd code hc hs S a hb hS hF=>by
 have hA:After S n b Q .normal a S.w:=⟨S,env,H,.normal,rfl,.refl hb,hS,hF,rfl,h⟩;cases code<;>simp only[E0,reduceCtorEq,Aq] at hc
 case skip=>exact wpIn_skip hA
 case label=>exact wpIn_label hA
 case region=>exact absurd hc Dj
 case seq=>split at hc<;>cases hc
 case cond=>split at hc<;>cases hc
 case block=>obtain⟨_,_,h⟩:=Ag.1 hc;cases h
 case loop=>obtain⟨_,_,h⟩:=Ag.1 hc;cases h
 case rangeFunc=>split at hc<;>cases hc
 case scope d=>exact absurd rfl (hs d)
theorem T_reg{ops:List AOp}(h:runK P ops env H λenv' H'=>Q .normal env' H'):T P n b (.reg ops) env H Q:=T_of λrd mm hrd code hc hs S a hb hS hF=>by
 cases code<;>simp only[E0,reduceCtorEq,Aq] at hc
 case region id l draw =>
  split at hc
  ·rename_i r hr
   obtain⟨hd',rfl⟩:=Ke hc
   ·subst hd'
    refine wpIn_region ?_;have:=KA l.toList ops 0 (by simp) hr hS hF h (Q:=After S n b Q) (λS' H' env' a' e hS' hF' hK=>⟨S',env',H',.normal,rfl,e.down hb,hS',hF',rfl,hK⟩) rd mm;rw[EO];simpa using this
  ·cases hc
 case seq=>split at hc<;>cases hc
 case cond=>split at hc<;>cases hc
 case block=>obtain⟨_,_,h⟩:=Ag.1 hc;cases h
 case loop=>obtain⟨_,_,h⟩:=Ag.1 hc;cases h
 case rangeFunc=>split at hc<;>cases hc
 case scope d=>exact absurd rfl (hs d)
theorem zks{ops:List AOp}(h:runQ P H ops env λenv'=>Q .normal env' H):T P n b (.dreg ops) env H Q:=T_of λrd mm hrd code hc hs S a hb hS hF=>by
 cases code<;>simp only[E0,reduceCtorEq,Aq] at hc
 case region id l draw =>
  split at hc
  ·rename_i r hr
   obtain⟨hd',h1,h2,rfl⟩:=T3 hc;subst hd';exact Zl h1 h2 hr hS hF h λS' env' a' e hS' hF' hK=>⟨S',env',H,.normal,rfl,e.down hb,hS',hF',rfl,hK⟩
  ·cases hc
 case seq=>split at hc<;>cases hc
 case cond=>split at hc<;>cases hc
 case block=>obtain⟨_,_,h⟩:=Ag.1 hc;cases h
 case loop=>obtain⟨_,_,h⟩:=Ag.1 hc;cases h
 case rangeFunc=>split at hc<;>cases hc
 case scope d=>exact absurd rfl (hs d)
theorem T_dtl{pre post:List AOp}(h:runQ P H pre env λenv'=>runK P post env' H λenv' H'=>Q .normal env' H'):T P n b (.dtl pre post) env H Q:=T_of λrd mm hrd code hc hs S a hb hS hF=>by
 cases code<;>simp only[E0,reduceCtorEq,Aq] at hc
 case region id l draw =>
  split at hc
  ·rename_i r hr
   obtain⟨hd',m,h1,h2,rfl,rfl⟩:=V2 hc;subst hd';exact z1p h1 h2 hr hS hF h λS' H' env' a' e hS' hF' hK=>⟨S',env',H',.normal,rfl,e.down hb,hS',hF',rfl,hK⟩
  ·cases hc
 case seq=>split at hc<;>cases hc
 case cond=>split at hc<;>cases hc
 case block=>obtain⟨_,_,h⟩:=Ag.1 hc;cases h
 case loop=>obtain⟨_,_,h⟩:=Ag.1 hc;cases h
 case rangeFunc=>split at hc<;>cases hc
 case scope d=>exact absurd rfl (hs d)
theorem zkt{L:List AOp}{l:List Grp}(h:runG P L env l λenv' l'=>Q .normal env' (hl l')):T P n b (.greg L) env (hl l) Q:=T_of λrd mm hrd code hc hs S a hb hS hF=>by
 cases code<;>simp only[E0,reduceCtorEq,Aq] at hc
 case region id ops draw =>
  split at hc
  ·rename_i r hr
   obtain⟨hd',h1,h2,h3,rfl⟩:=T4 hc;subst hd';exact z94 h1 h2 h3 hr hS hF h λS' env' l' a' e hS' hF' hK=>⟨S',env',hl l',.normal,rfl,e.down hb,hS',hF',rfl,hK⟩
  ·cases hc
 case seq=>split at hc<;>cases hc
 case cond=>split at hc<;>cases hc
 case block=>obtain⟨_,_,h⟩:=Ag.1 hc;cases h
 case loop=>obtain⟨_,_,h⟩:=Ag.1 hc;cases h
 case rangeFunc=>split at hc<;>cases hc
 case scope d=>exact absurd rfl (hs d)
theorem T_grx{fl:List Bool}{L:List AOp}{l:List Grp}(ks:List Nat)(h:runX P ks fl L env l λenv' l'=>Q .normal env' (hl l')):T P n b (.grx fl L) env (hl l) Q:=T_of λrd mm hrd code hc hs S a hb hS hF=>by
 cases code<;>simp only[E0,reduceCtorEq,Aq] at hc
 case region id ops draw =>
  split at hc
  ·rename_i r hr
   obtain⟨hd',h1,h2,h3,rfl,rfl⟩:=V3 hc;subst hd';exact zkn h1 h2 h3 hr hS hF h λS' env' l' a' e hS' hF' hK=>⟨S',env',hl l',.normal,rfl,e.down hb,hS',hF',rfl,hK⟩
  ·cases hc
 case seq=>split at hc<;>cases hc
 case cond=>split at hc<;>cases hc
 case block=>obtain⟨_,_,h⟩:=Ag.1 hc;cases h
 case loop=>obtain⟨_,_,h⟩:=Ag.1 hc;cases h
 case rangeFunc=>split at hc<;>cases hc
 case scope d=>exact absurd rfl (hs d)
theorem zku{fl:List Bool}{L:List AOp}{l:List Grp}(ks:List Nat)(h:runY P ks fl L env l λenv' l'=>Q .normal env' (hl l')):T P n b (.gry fl L) env (hl l) Q:=T_of λrd mm hrd code hc hs S a hb hS hF=>by
 cases code<;>simp only[E0,reduceCtorEq,Aq] at hc
 case region id ops draw =>
  split at hc
  ·rename_i r hr
   obtain⟨hd',h1,h2,h3,rfl,rfl⟩:=V4 hc;subst hd';exact zkq h1 h2 h3 hr hS hF h λS' env' l' a' e hS' hF' hK=>⟨S',env',hl l',.normal,rfl,e.down hb,hS',hF',rfl,hK⟩
  ·cases hc
 case seq=>split at hc<;>cases hc
 case cond=>split at hc<;>cases hc
 case block=>obtain⟨_,_,h⟩:=Ag.1 hc;cases h
 case loop=>obtain⟨_,_,h⟩:=Ag.1 hc;cases h
 case rangeFunc=>split at hc<;>cases hc
 case scope d=>exact absurd rfl (hs d)
def Ex.then(K:Env->A5->Prop)(Q:Ex->Env->A5->Prop):Ex->Env->A5->Prop
 |.normal,env,H=>K env H
 |x,env,H=>Q x env H
theorem BG{x y:AC}(h:T P n b x env H (Ex.then (λenv' H'=>T P n b y env' H' Q) Q)):T P n b (.seq x y) env H Q:=T_of λrd mm hrd code hc hs S a hb hS hF=>by
 cases code<;>simp only[E0,reduceCtorEq,Aq] at hc
 case seq c d =>
  split at hc
  ·rename_i x' y' hx hy
   cases hc;refine wpIn_seq (wpIn_mono (h rd mm (z97 hrd).1 c hx S a hb hS hF) λe a' w' hh=>?_);obtain⟨S2,env2,H2,z,rfl,e2,hS2,hF2,rfl,hq⟩:=hh;cases z with
   |normal=>exact wpIn_mono (hq rd mm (z97 hrd).2 d hy S2 a' e2.n hS2 hF2) λ_ _ _ hh=>hh.trans e2
   |exit id=>exact⟨S2,env2,H2,.exit id,rfl,e2,hS2,hF2,rfl,hq⟩
   |ret=>exact⟨S2,env2,H2,.ret,rfl,e2,hS2,hF2,rfl,hq⟩
  ·cases hc
 case region=>exact absurd hc Dj
 case cond=>split at hc<;>cases hc
 case block=>obtain⟨_,_,h⟩:=Ag.1 hc;cases h
 case loop=>obtain⟨_,_,h⟩:=Ag.1 hc;cases h
 case rangeFunc=>split at hc<;>cases hc
 case scope d=>exact absurd rfl (hs d)
theorem zkv{c:AArg}{x y:AC}{q:Bool}(hc:c.eval env=.bool q)(ht:q=true->T P n b x env H Q)(hf:q=false->T P n b y env H Q):T P n b (.cond c x y) env H Q:=T_of λrd mm hrd code hcc hs S a hb hS hF=>by
 cases code<;>simp only[E0,reduceCtorEq,Aq] at hcc
 case cond z p q' =>
  split at hcc
  ·rename_i z' p2 q2 hz hp hq
   cases hcc;have hv:=R4 hF hz;rw[hc] at hv;exact wpIn_cond_split (t:=q) hv (λhbb=>ht hbb rd mm (z97 hrd).1 p hp S a hb hS hF) (λhbb=>hf hbb rd mm (z97 hrd).2 q' hq S a hb hS hF)
  ·cases hcc
 case region=>exact absurd hcc Dj
 case seq=>split at hcc<;>cases hcc
 case block=>obtain⟨_,_,h⟩:=Ag.1 hcc;cases h
 case loop=>obtain⟨_,_,h⟩:=Ag.1 hcc;cases h
 case rangeFunc=>split at hcc<;>cases hcc
 case scope d=>exact absurd rfl (hs d)
def Ex.inBlock(id:Nat)(Q:Ex->Env->A5->Prop):Ex->Env->A5->Prop
 |.exit k,env,H=>if k=id then Q .normal env H else Q (.exit k) env H
 |x,env,H=>Q x env H
theorem Es{id:Nat}{c:AC}(h:T P n b c env H (Ex.inBlock id Q)):T P n b (.block id c) env H Q:=T_of λrd mm hrd code hc hs S a hb hS hF=>by
 cases code<;>simp only[E0,reduceCtorEq,Aq] at hc
 case block k d =>
  obtain⟨x,hx,hh⟩:=Ag.1 hc;cases hh;refine wpIn_block (wpIn_mono (h rd mm hrd d hx S a hb hS hF) λe a' w' hh=>?_);obtain⟨S2,env2,H2,z,h1,e2,hS2,hF2,rfl,hq⟩:=hh;cases z with
  |normal=>exact⟨S2,env2,H2,.normal,h1,e2,hS2,hF2,rfl,hq⟩
  |exit j =>
   simp only[Ex.up,Exit.inBlock];simp only[Ex.inBlock] at hq;split
   ·rename_i hj;rw[Ae hj] at hq;exact⟨S2,env2,H2,.normal,h1,e2,hS2,hF2,rfl,hq⟩
   ·rename_i hj;rw[Ab hj] at hq;exact⟨S2,env2,H2,.exit j,h1,e2,hS2,hF2,rfl,hq⟩
  |ret=>exact⟨S2,env2,H2,.ret,h1,e2,hS2,hF2,rfl,hq⟩
 case region=>exact absurd hc Dj
 case seq=>split at hc<;>cases hc
 case cond=>split at hc<;>cases hc
 case loop=>obtain⟨_,_,h⟩:=Ag.1 hc;cases h
 case rangeFunc=>split at hc<;>cases hc
 case scope d=>exact absurd rfl (hs d)
theorem zkw{id:Nat}(h:Q (.exit id) env H):T P n b (.exit id) env H Q:=T_of λrd mm hrd code hc hs S a hb hS hF=>by
 cases code<;>simp only[E0,reduceCtorEq,Aq] at hc
 case exit k=>cases hc;exact wpIn_exit ⟨S,env,H,.exit id,rfl,.refl hb,hS,hF,rfl,h⟩
 case region=>exact absurd hc Dj
 case seq=>split at hc<;>cases hc
 case cond=>split at hc<;>cases hc
 case block=>obtain⟨_,_,h⟩:=Ag.1 hc;cases h
 case loop=>obtain⟨_,_,h⟩:=Ag.1 hc;cases h
 case rangeFunc=>split at hc<;>cases hc
 case scope d=>exact absurd rfl (hs d)
theorem T_ret(h:Q .ret env H):T P n b .ret env H Q:=T_of λrd mm hrd code hc hs S a hb hS hF=>by
 cases code<;>simp only[E0,reduceCtorEq,Aq] at hc
 case ret=>exact wpIn_ret ⟨S,env,H,.ret,rfl,.refl hb,hS,hF,rfl,h⟩
 case region=>exact absurd hc Dj
 case seq=>split at hc<;>cases hc
 case cond=>split at hc<;>cases hc
 case block=>obtain⟨_,_,h⟩:=Ag.1 hc;cases h
 case loop=>obtain⟨_,_,h⟩:=Ag.1 hc;cases h
 case rangeFunc=>split at hc<;>cases hc
 case scope d=>exact absurd rfl (hs d)
theorem zec{σ:Type}(Inv:σ->Env->A5->Prop)(μ:σ->Nat){c:AC}(s0:σ)(h0:Inv s0 env H)
 (round:∀s env H,Inv s env H->T P n b c env H (Ex.then (λenv' H'=>∃s',Inv s' env' H'/\μ s'<μ s) Q)):T P n b (.loop c) env H Q:=T_of λrd mm hrd code hc hs S a hb hS hF=>by
 cases code<;>simp only[E0,reduceCtorEq,Aq] at hc
 case loop d =>
  obtain⟨x,hx,hh⟩:=Ag.1 hc;cases hh;refine wpIn_loop_ghost (λk a w=>∃S' s env H,S'.w=w/\BEvo b S S'/\SRel S' H/\FRel S' n env a/\Inv s env H/\μ s=k) (μ s0) ⟨S,s0,env,H,rfl,.refl hb,hS,hF,h0,rfl⟩ ?_;rintro k a w ⟨S1,s,env1,H1,rfl,e1,hS1,hF1,hI,rfl⟩;refine wpIn_mono (round s env1 H1 hI rd mm hrd d hx S1 a e1.n hS1 hF1) λe a' w' hh=>?_;obtain⟨S2,env2,H2,z,rfl,e2,hS2,hF2,rfl,hq⟩:=hh;cases z with
  |normal =>
   obtain⟨s',h1,h2⟩:=hq;exact⟨μ s',h2,S2,s',env2,H2,rfl,e1.trans e2,hS2,hF2,h1,rfl⟩
  |exit id=>exact⟨S2,env2,H2,.exit id,rfl,e1.trans e2,hS2,hF2,rfl,hq⟩
  |ret=>exact⟨S2,env2,H2,.ret,rfl,e1.trans e2,hS2,hF2,rfl,hq⟩
 case region=>exact absurd hc Dj
 case seq=>split at hc<;>cases hc
 case cond=>split at hc<;>cases hc
 case block=>obtain⟨_,_,h⟩:=Ag.1 hc;cases h
 case rangeFunc=>split at hc<;>cases hc
 case scope d=>exact absurd rfl (hs d)
def resK(P:Program):List ARes->Env->A5->(List AV->Prop)->Prop
 |[],_,_,K=>K []
 |.slot t::l,env,H,K=>resK P l env H λxs=>K (env t::xs)
 |.cell t a s::l,env,H,K=>AF P (.load a s) H [env t] λx _=>resK P l env H λxs=>K (x::xs)
def resV:List AV->AV
 |[x]=>x
 |xs=>.tup xs
def Ret(P:Program)(res:List ARes)(K:AV->A5->Prop)(x:Ex)(env:Env)(H:A5):Prop :=
 (match x with|.exit _=>False|_=>True)/\resK P res env H λxs=>K (resV xs) H
def entry(xs:List AV):Env:=λi=>xs.getD i .any
theorem T5{r:ResultVar}{t:Nat}(h:Kb P n r=some (.slot t)):r=.tmp t/\t<n:=by
 cases r<;>simp only[Kb] at h
 ·split at h
  ·rename_i hlt;cases h;exact⟨rfl,hlt⟩
  ·cases h
 ·split at h
  ·obtain⟨_,_,h⟩:=Ag.1 h;cases h
  ·cases h
theorem T6{r:ResultVar}{t:Nat}{a:Bool}{s:Nat}(h:Kb P n r=some (.cell t a s)):∃ty,r=.cell t ty/\t<n/\EY P ty=some (a,s):=by
 cases r<;>simp only[Kb] at h
 ·split at h<;>cases h
 ·split at h
  ·rename_i hlt
   obtain⟨⟨a',s'⟩,h1,h2⟩:=Ag.1 h;cases h2;exact⟨_,rfl,hlt,h1⟩
  ·cases h
def Qf(tmps:Array Value):ResultVar->Sem Value
 |.tmp t=>pure (tmps.getD t undef)
 |.cell ad t=>do loadVar t (<-asAddr (tmps.getD ad undef))
theorem Jv{S:MS}{a:Act}(hS:SRel S H)(hF:FRel S n env a):∀{rs:List ResultVar}{l:List ARes}{K:List AV->Prop},rs.mapM (Kb P n)=some l->resK P l env H K ->
 ∃vs xs,(rs.mapM (Qf a.tmps)).run P S.w=.ok vs S.w/\AB S xs vs/\K xs
 |[],l,K,hm,h=>by
  simp at hm;subst hm;exact⟨[],[],rfl,rfl,h⟩
 |r::rs,l,K,hm,h=>by
  rw[BL] at hm;simp only[Option.bind_eq_bind,B0,Option.pure_def,Aq] at hm;obtain⟨q,hq,l',hl',rfl⟩:=hm;cases q with
  |slot t =>
   obtain⟨rfl,ht⟩:=T5 hq;obtain⟨vs,xs,h1,h2,h3⟩:=Jv hS hF hl' h;refine⟨_::vs,env t::xs,?_,⟨_,vs,rfl,hF.val t ht,h2⟩,h3⟩;have h0:(Qf a.tmps (.tmp t)).run P S.w=.ok (a.tmps.getD t undef) S.w:=rfl;rw[BL];simp only[Sem.run_bind,Sem.run_pure,Result.andThen_ok,h0,h1]
  |cell t ag s =>
   obtain⟨ty,rfl,ht,hs⟩:=T6 hq;have hv:=hF.val t ht;obtain⟨ad,u,z,hvv,hrun,hz,hK⟩:=Xi hS ty hs hv h;obtain⟨vs,xs,h1,h2,h3⟩:=Jv hS hF hl' hK;refine⟨u::vs,z::xs,?_,⟨u,vs,rfl,hz,h2⟩,h3⟩;have h0:(Qf a.tmps (.cell t ty)).run P S.w=.ok u S.w:=by simp only[Qf,hvv,asAddr,Sem.run_bind,Sem.run_pure,Result.andThen_ok,hrun]
   rw[BL];simp only[Sem.run_bind,Sem.run_pure,Result.andThen_ok,h0,h1]
theorem z98{S:MS}{xs:List AV}{vs:List Value}(h:AB S xs vs):VRel S (resV xs) (if h:vs.toArray.size=1 then vs.toArray[0] else .tuple vs.toArray):=by
 match xs,vs,h with
 |[],[],_=>exact⟨[],rfl,rfl⟩
 |[x],[v],h=>exact h.inv1
 |x::y::xs,u::v::vs,h =>
  have hne:¬(u::v::vs).toArray.size=1:=by simp
  rw[dif_neg hne];exact⟨_,rfl,h⟩
 |[],_::_,h=>have:=h.length;simp at this
 |[_],[],h=>have:=h.length;simp at this
 |[_],_::_::_,h=>have:=h.length;simp at this
 |_::_::_,[],h=>have:=h.length;simp at this
 |_::_::_,[_],h=>have:=h.length;simp at this
theorem Kf {f np : Nat} {fn : AFn} (h : Bj P f np = some fn) : ∃ F c, P.funcs[f]? = some F ∧ F.body = some c ∧ F.ntmps = fn.n ∧ E0 P fn.n c = some fn.body ∧ F.results.toList.mapM (Kb P fn.n) = some fn.res ∧ np ≤ fn.n ∧ F.name ≠ "runtime.NumGoroutine" := by
 unfold Bj at h;split at h
 ·rename_i F hF
  split at h
  ·rename_i c hc
   split at h
   ·rename_i b r hb hr
    split at h
    ·rename_i hcond
     cases h;simp only[Ac,Ah,bne_iff_ne] at hcond;exact⟨F,c,hF,hc,rfl,hb,hr,hcond.1,hcond.2⟩
    ·cases h
   ·cases h
  ·cases h
 ·cases h
theorem enters_of{f np:Nat}{fn:AFn}(h:Bj P f np=some fn):Enters P f:=by
 obtain ⟨F,c,hF,hc,_,_,_,_,hn⟩:=Kf h;intro cargs w;have h1 : (F.name == "runtime.NumGoroutine") = false := by simpa using hn
 simp[callFunc,Sem.run_bind,run_program,hF,hn,hc]
theorem Evi.of{S S':MS}(hw:∀b,S.im b->S'.w.heap[b]? = S.w.heap[b]?)(hi:S'.im=S.im)(hn:S'.n=S.n)(hc:S'.cur=S.cur)(hp:S'.place=S.place)(hcap:S'.cap=S.cap)(hwid:S'.wid=S.wid):Evi S S' :=
 ⟨hw,λb h=>by rw[hi];exact h,by rw[hn];exact Ad _,λg _=>by rw[hc];exact Ad _,λg _ _=>by rw[hp,hcap,hwid];exact⟨rfl,rfl,rfl⟩⟩
theorem SRel.turn{S S':MS}{H:A5}(h:SRel S H)(hw:∀b,S.im b->S'.w.heap[b]? = S.w.heap[b]?)(hi:S'.im=S.im)(hn:S'.n=S.n)(hc:S'.cur=S.cur)(hp:S'.place=S.place)(hcap:S'.cap=S.cap)(hwid:S'.wid=S.wid)
 (hk:∀b,S'.keep b->S.keep b) (hg:∀b,¬(S.im b\/S.keep b)->b<S.w.heap.size->S'.w.heap[b]? = S.w.heap[b]?) (hsz:S.w.heap.size<=S'.w.heap.size):SRel S' H:=by
 have ev:=Evi.of hw hi hn hc hp hcap hwid;refine⟨hn.trans h.n,λg hgn=>?_,λg g' h1 h2 h3 h4 h5=>?_,λb hb=>?_⟩
 ·have hG:=h.grp g hgn
  have hni:¬(S.im (S.place g)\/S.keep (S.place g))->¬(S'.im (S'.place g)\/S'.keep (S'.place g)):=λhn hh=>by
   rw[hi,hp] at hh;exact hn (hh.imp id (hk _))
  refine⟨by rw[hc];exact hG.ver,by rw[hwid];exact hG.wid,λhw0 hc0=>?_,λhw0=>by rw[hcap];exact hG.len hw0,λhw0 he=>by rw[hcap];exact hG.full hw0 he,λhw0 he=>?_⟩
  ·rw[hcap] at hc0 ⊢
   obtain⟨⟨cells,T,vs,a1,a2,a3,a4⟩,a5⟩:=hG.live hw0 hc0;exact⟨⟨cells,T,vs,by rw[hp,hg _ a5 (hG.lt hw0 hc0)];exact a1,a2,AB.moni ev _ a3,a4⟩,hni a5⟩
  ·obtain⟨⟨es,clock,a1,a2⟩,a5⟩:=hG.mlive hw0 he
   exact⟨⟨es,clock,by rw[hp,hg _ a5 (hG.mlt hw0 he)];exact a1,AB.moni ev _ a2⟩,hni a5⟩
 ·rw[hp]
  rw[hcap] at h4 h5;exact h.apart g g' h1 h2 h3 h4 h5
 ·rw[hi] at hb
  exact AX (h.im b (hb.imp id (hk b))) hsz
def IQ(w:World)(Ds:List Nat):World:=Ds.foldl (λw D=>w.putObj D (.deferred none)) w
theorem Xx:∀(Ds:List Nat)(w:World),(IQ w Ds).os=w.os/\JW (IQ w Ds) w/\(IQ w Ds).output=w.output/\(IQ w Ds).heap.size=w.heap.size/\∀b,b∉Ds->(IQ w Ds).heap[b]? = w.heap[b]?
 |[],w=>⟨rfl,⟨rfl,Ad _⟩,rfl,rfl,λ_ _=>rfl⟩
 |D::Ds,w=>by
  obtain⟨h1,h2,h3,h4,h5⟩:=Xx Ds (w.putObj D (.deferred none));refine⟨h1,h2,h3,by rw[show IQ w (D::Ds)=IQ (w.putObj D (.deferred none)) Ds from rfl,h4];simp[World.putObj],λb hb=>?_⟩;simp only[Af,CR] at hb;rw[show IQ w (D::Ds)=IQ (w.putObj D (.deferred none)) Ds from rfl,h5 b hb.2];exact World.putObj_heap_other hb.1
theorem IR{F:Fence}{mm:Nat}{fn:Func}{tmps:Array Value}{R:Ending->World->Prop}:∀(Ds:List Nat)(w:World),Ds.Nodup->(∀D∈Ds,w.heap[D]? = some (.deferred (some []))) ->
 (∃v,(results fn tmps).run P (IQ w Ds)=.ok v (IQ w Ds)/\R (.returned v) (IQ w Ds))->LeavesInM F mm P fn tmps R (Ds.map mark) .returning w
 |[],w,_,_,h=>h
 |D::Ds,w,hn,hd,h=>by
  obtain⟨h1,h2⟩:=BN.1 hn;refine⟨by simp,.inl ⟨D,w.putObj D (.deferred none),rfl,run_takeDeferred (hd D (by simp)),?_⟩⟩;exact IR Ds _ h2 (λD' hD'=>by rw[World.putObj_heap_other (by rintro rfl;exact h1 hD')];exact hd D' (by simp[hD'])) h
theorem GD{f:Nat}{xs:List AV}{fn:AFn}(hf:Bj P f xs.length=some fn){K:AV->A5->Prop}(h:T P fn.n H.n fn.body (entry xs) H (Ret P fn.res K)):B3 P f xs H K:=by
 refine⟨enters_of hf,λS0 cargs hS0 hx0=>?_⟩;obtain⟨F,c,hF,hb,hn,hc,hr,hnp,_⟩:=Kf hf;obtain⟨S,hSd⟩:∃S:MS,S={ S0 with base:=S0.w.heap.size }:=⟨_,rfl⟩;have hS:SRel S H:=by subst hSd;exact hS0.turn (λ_ _=>rfl) rfl rfl rfl rfl rfl rfl (λ_ h=>h) (λ_ _ _=>rfl) (Ad _)
 have ev0:Evi S0 S:=by subst hSd;exact Evi.of (λ_ _=>rfl) rfl rfl rfl rfl rfl rfl
 have hx:AB S xs cargs:=AB.moni ev0 _ hx0;have hw0:S.w=S0.w:=by rw[hSd]
 have hbase:S.base=S0.w.heap.size:=by rw[hSd]
 have hlen:=hx.length;refine callsIn_wide.1 (callsIn_of_wp_marks (F:=Fence.wide) (n:=0) hF hb trivial ?_)
 have hfr:FRel S fn.n (entry xs) { tmps:=cargs.toArray++Array.replicate (F.ntmps-cargs.toArray.size) undef,defers:=[] }:=by
  refine⟨by simp;omega,Marks.nil (by rw[hbase,hw0];exact Ad _),λi hi=>?_⟩;by_cases hlt:i<xs.length
  ·obtain⟨v,hv,hr⟩:=hx.get (Al hlt)
   have e1:entry xs i=xs[i]:=by simp[entry,List.getD,Al hlt]
   have e2:(cargs.toArray++Array.replicate (F.ntmps-cargs.toArray.size) undef).getD i undef=v:=by
    rw[Dn,BH (by simp;omega)];simp[hv]
   rw[e1,e2];exact hr
  ·have e1:entry xs i=.any:=by simp[entry,List.getD,B9 (FL hlt)]
   rw[e1];trivial
 rw[<-hw0];refine wpIn_mono (h none 0 (.inr rfl) c hc S _ (by rw[hS.n];exact Ad _) hS hfr) λe a w' hh=>?_;obtain⟨S2,env2,H2,z,rfl,e2,hS2,hF2,rfl,hq,hres⟩:=hh
 have fin:LeavesInM Fence.wide 0 P F a.tmps (λe w'=>∃v S' x H',e=.returned v/\S'.w=w'/\Evo S0 S'/\SRel S' H'/\VRel S' x v/\K x H') a.defers .returning S2.w:=by
  obtain⟨_,Ds,hds,hnd,hD⟩:=hF2.defers;rw[hds];obtain⟨t1,t2,t3,t4,t5⟩:=Xx Ds S2.w;refine IR Ds S2.w hnd (λD hd=>(hD D hd).2.2.2) ?_;have hki:∀b,S2.im b->b∉Ds:=λb hb hd=>(hD b hd).2.2.1 hb
  have hold:∀b,b<S0.w.heap.size->b∉Ds:=λb hb hd=>by
   have:=(hD b hd).1;rw[e2.base,hbase] at this;omega
  obtain⟨S',hS'd⟩:∃S':MS,S'={ S2 with w:=IQ S2.w Ds,keep:=S0.keep,base:=S0.base }:=⟨_,rfl⟩;have hkk:∀b,S0.keep b->S2.keep b:=λb hb=>e2.keep b (by rw[hSd];exact hb);have ev:Evi S2 S':=by subst hS'd;exact Evi.of (λb hb=>t5 b (hki b hb)) rfl rfl rfl rfl rfl rfl
  have hS':SRel S' H2:=by
   subst hS'd;exact hS2.turn (λb hb=>t5 b (hki b hb)) rfl rfl rfl rfl rfl rfl hkk (λb hb _=>t5 b λhd=>hb (.inr (hD b hd).2.1)) (DL t4.symm)
  obtain⟨S9,hS9d⟩:∃S9:MS,S9={ S' with base:=0 }:=⟨_,rfl⟩;have ev9:Evi S' S9:=by subst hS9d;exact Evi.of (λ_ _=>rfl) rfl rfl rfl rfl rfl rfl
  have ev9':Evi S9 S':=by subst hS9d;exact Evi.of (λ_ _=>rfl) rfl rfl rfl rfl rfl rfl
  have hS9:SRel S9 H2:=by subst hS9d;exact hS'.turn (λ_ _=>rfl) rfl rfl rfl rfl rfl rfl (λ_ h=>h) (λ_ _ _=>rfl) (Ad _)
  have hw9:S9.w=S'.w:=by rw[hS9d]
  have hF':FRel S9 fn.n env2 { tmps:=a.tmps,defers:=[] }:=⟨hF2.size,Marks.nil (by rw[hS9d];exact Au _),λi hi=>VRel.moni ev9 _ (VRel.moni ev _ (hF2.val i hi))⟩
  have hevo:Evo S0 S':=by
   have hk0:∀b,S0.im b\/S0.keep b->S2.w.heap[b]? = S0.w.heap[b]? := λb hb=>by
    have:=e2.kept b (by rw[hSd];exact hb);rw[hw0] at this;exact this
   have hu:=e2.size;have hcur:=λg (hg:g<H.n)=>e2.cur g hg;have hsame:=λg (hg:g<H.n)=>e2.same g hg;have q1:=e2.os;have q2:=e2.tape;have q3:=e2.output;have q4:=e2.n;have q5:=e2.im;have q6:=e2.fresh;subst hS'd hSd;refine⟨rfl,t1.trans q1,t2.trans q2,t3.trans q3,by show _<=(IQ S2.w Ds).heap.size;rw[t4];exact hu,λb hb=>?_,λb hb=>q5 b hb,λb hb=>hb,λb hb=>q6 b hb,by show S0.n<=S2.n;rw[hS0.n];exact q4,λg hg=>hcur g (by rw[<-hS0.n];exact hg),λg hg hh=>hsame g (by rw[<-hS0.n];exact hg) hh⟩;show (IQ S2.w Ds).heap[b]? = _;rw[t5 b (hold b (hS0.im b hb))];exact hk0 b hb
  obtain⟨vs,ys,h1,h2,h3⟩:=Jv hS9 hF' hr hres;rw[hw9] at h1;replace h2:=AB.moni ev9' _ h2;have hw':S'.w=IQ S2.w Ds:=by rw[hS'd]
  rw[<-hw'];refine⟨_,?_,_,S',_,H2,rfl,rfl,hevo,hS',z98 h2,h3⟩
  have e:results F a.tmps=(do let vs <-F.results.mapM (Qf a.tmps);pure (if h:vs.size=1 then vs[0] else .tuple vs)):=by
   unfold results;congr
  rw[e,DJ];simp only[Sem.run_bind,Sem.run_map,h1,Result.andThen_ok,Sem.run_pure]
 cases z with
 |normal=>exact fin
 |exit id=>exact hq.elim
 |ret=>exact fin
end
mutual
def AV.flat:AV->Bool
 |.ref ..|.ptr ..|.map ..|.lst ..|.full ..|.cptr _=>false
 |.agg cs|.tup cs|.fn _ cs=>z1s cs
 |.any|.bool _|.int ..|.str _|.nilS|.nul|.emp|.nilP|.nilF|.yld _=>true
def z1s:List AV->Bool
 |[]=>true
 |x::xs=>x.flat&&z1s xs
end
mutual
theorem VRel.of_flat{S S':MS}:∀{x:AV}{v:Value},x.flat=true->VRel S x v->VRel S' x v
 |.any,_,_,_=>trivial
 |.bool _,_,_,h=>h
 |.int _ _,_,_,h=>h
 |.str _,_,_,h=>h
 |.nilS,_,_,h=>h
 |.nul,_,_,h=>h
 |.emp,_,_,h=>h
 |.nilP,_,_,h=>h
 |.nilF,_,_,h=>h
 |.yld _,_,_,h=>h
 |.agg _,_,hf,h=>let ⟨vs,hv,hr⟩:=h;⟨vs,hv,AB.of_flat (by simpa [AV.flat] using hf) hr⟩
 |.tup _,_,hf,h=>let ⟨vs,hv,hr⟩:=h;⟨vs,hv,AB.of_flat (by simpa [AV.flat] using hf) hr⟩
 |.fn _ _,_,hf,h=>let ⟨vs,hv,hr⟩:=h;⟨vs,hv,AB.of_flat (by simpa [AV.flat] using hf) hr⟩
 |.ref ..,_,hf,_=>by simp[AV.flat] at hf
 |.ptr ..,_,hf,_=>by simp[AV.flat] at hf
 |.lst ..,_,hf,_=>by simp[AV.flat] at hf
 |.full ..,_,hf,_=>by simp[AV.flat] at hf
 |.map ..,_,hf,_=>by simp[AV.flat] at hf
 |.cptr _,_,hf,_=>by simp[AV.flat] at hf
theorem AB.of_flat{S S':MS}:∀{xs:List AV}{vs:List Value},z1s xs=true->AB S xs vs->AB S' xs vs
 |[],_,_,h=>h
 |x::xs,vs,hf,h=>by
  obtain⟨v,r,hv,h1,h2⟩:=h;simp only[z1s,Ac] at hf;exact⟨v,r,hv,VRel.of_flat hf.1 h1,AB.of_flat hf.2 h2⟩
end
mutual
theorem VRel.of_pure{S S':MS}(hw:S'.w=S.w)(hi:∀b,S.im b->S'.im b):∀{x:AV}{v:Value},x.pure=true->VRel S x v->VRel S' x v
 |.any,_,_,_=>trivial
 |.bool _,_,_,h=>h
 |.int _ _,_,_,h=>h
 |.str _,_,_,h=>h
 |.nilS,_,_,h=>h
 |.nul,_,_,h=>h
 |.emp,_,_,h=>h
 |.nilP,_,_,h=>h
 |.nilF,_,_,h=>h
 |.yld _,_,_,h=>h
 |.agg _,_,hf,h=>let ⟨vs,hv,hr⟩:=h;⟨vs,hv,AB.of_pure hw hi (by simpa [AV.pure] using hf) hr⟩
 |.tup _,_,hf,h=>let ⟨vs,hv,hr⟩:=h;⟨vs,hv,AB.of_pure hw hi (by simpa [AV.pure] using hf) hr⟩
 |.fn _ _,_,hf,h=>let ⟨vs,hv,hr⟩:=h;⟨vs,hv,AB.of_pure hw hi (by simpa [AV.pure] using hf) hr⟩
 |.ref ..,_,hf,_=>by simp[AV.pure] at hf
 |.ptr ..,_,hf,_=>by simp[AV.pure] at hf
 |.map ..,_,hf,_=>by simp[AV.pure] at hf
 |.lst wd xs,v,_,h=>by
  obtain⟨hp,h0,a,cap,vs,hv,hc,hl,hr⟩:=h;exact⟨hp,h0,a,cap,vs,hv,hc,AB.of_pure hw hi hp hl,λhne=>let ⟨b,o,ha,him,hrow⟩:=hr hne;⟨b,o,ha,hi b him,by rw[hw];exact hrow⟩⟩
 |.full wd xs,v,_,h=>by
  obtain⟨hp,h0,a,vs,hv,hc,hl,hr⟩:=h;exact⟨hp,h0,a,vs,hv,hc,AB.of_pure hw hi hp hl,λhne=>let ⟨b,o,ha,him,hrow⟩:=hr hne;⟨b,o,ha,hi b him,by rw[hw];exact hrow⟩⟩
 |.cptr x,v,_,h=>by
  obtain⟨hp,b,o,u,hv,him,hx,hl⟩:=h;exact⟨hp,b,o,u,hv,hi b him,VRel.of_pure hw hi hp hx,by rw[hw];exact hl⟩
theorem AB.of_pure{S S':MS}(hw:S'.w=S.w)(hi:∀b,S.im b->S'.im b):∀{xs:List AV}{vs:List Value},Bh xs=true->AB S xs vs->AB S' xs vs
 |[],_,_,h=>h
 |x::xs,vs,hf,h=>by
  obtain⟨v,r,hv,h1,h2⟩:=h;simp only[Bh,Ac] at hf;exact⟨v,r,hv,VRel.of_pure hw hi hf.1 h1,AB.of_pure hw hi hf.2 h2⟩
end
mutual
theorem VRel.lift{S S':MS}(h0:S.n=0)(hw:S'.w=S.w)(hi:∀b,S.im b->S'.im b):∀{x:AV}{v:Value},VRel S x v->VRel S' x v
 |.any,_,_=>trivial
 |.bool _,_,h=>h
 |.int _ _,_,h=>h
 |.str _,_,h=>h
 |.nilS,_,h=>h
 |.nul,_,h=>h
 |.emp,_,h=>h
 |.nilP,_,h=>h
 |.nilF,_,h=>h
 |.yld _,_,h=>h
 |.agg _,_,h=>let ⟨vs,hv,hr⟩:=h;⟨vs,hv,AB.lift h0 hw hi hr⟩
 |.tup _,_,h=>let ⟨vs,hv,hr⟩:=h;⟨vs,hv,AB.lift h0 hw hi hr⟩
 |.fn _ _,_,h=>let ⟨vs,hv,hr⟩:=h;⟨vs,hv,AB.lift h0 hw hi hr⟩
 |.ref ..,_,h=>by obtain⟨_,hg,_⟩:=h;omega
 |.ptr ..,_,h=>by obtain⟨_,hg,_⟩:=h;omega
 |.map ..,_,h=>by obtain⟨_,hg,_⟩:=h;omega
 |.lst wd xs,v,h=>by
  obtain⟨hp,hz,a,cap,vs,hv,hc,hl,hr⟩:=h;exact⟨hp,hz,a,cap,vs,hv,hc,AB.lift h0 hw hi hl,λhne=>let ⟨b,o,ha,him,hrow⟩:=hr hne;⟨b,o,ha,hi b him,by rw[hw];exact hrow⟩⟩
 |.full wd xs,v,h=>by
  obtain⟨hp,hz,a,vs,hv,hc,hl,hr⟩:=h;exact⟨hp,hz,a,vs,hv,hc,AB.lift h0 hw hi hl,λhne=>let ⟨b,o,ha,him,hrow⟩:=hr hne;⟨b,o,ha,hi b him,by rw[hw];exact hrow⟩⟩
 |.cptr x,v,h=>by
  obtain⟨hp,b,o,u,hv,him,hx,hl⟩:=h;exact⟨hp,b,o,u,hv,hi b him,VRel.lift h0 hw hi hx,by rw[hw];exact hl⟩
theorem AB.lift{S S':MS}(h0:S.n=0)(hw:S'.w=S.w)(hi:∀b,S.im b->S'.im b):∀{xs:List AV}{vs:List Value},AB S xs vs->AB S' xs vs
 |[],_,h=>h
 |x::xs,vs,h=>by
  obtain⟨v,r,hv,h1,h2⟩:=h;exact⟨v,r,hv,VRel.lift h0 hw hi h1,AB.lift h0 hw hi h2⟩
end
def frzV:Nat->A5->AV->AV
 |d+1,H,.ref g _ off len=>.lst (H.at_ g).w ((((H.at_ g).xs.drop off).take len).map (frzV d H))
 |d+1,H,.ptr g _ i o=>if o=0 then .cptr (frzV d H ((H.at_ g).xs.getD i .any)) else .any
 |d+1,H,.agg cs=>.agg (cs.map (frzV d H))
 |d+1,H,.tup cs=>.tup (cs.map (frzV d H))
 |d+1,H,.fn f cs=>.fn f (cs.map (frzV d H))
 |_,_,x=>x
def CJ:Nat->A5->AV->Prop
 |d+1,H,.ref g v off len=>(H.at_ g).ver=v/\0<(H.at_ g).w/\off+len<=(H.at_ g).xs.length/\∀y∈((H.at_ g).xs.drop off).take len,CJ d H y
 |d+1,H,.ptr g v i o=>(H.at_ g).ver=v/\i<(H.at_ g).xs.length/\0<(H.at_ g).w/\o=0/\CJ d H ((H.at_ g).xs.getD i .any)
 |d+1,H,.agg cs=>∀y∈cs,CJ d H y
 |d+1,H,.tup cs=>∀y∈cs,CJ d H y
 |d+1,H,.fn _ cs=>∀y∈cs,CJ d H y
 |_,_,x=>x.pure=true
theorem BZ:∀{xs:List AV},Bh xs=true↔∀x∈xs,x.pure=true
 |[]=>by simp[Bh]
 |x::xs=>by simp[Bh,BZ]
theorem Nr(H:A5):∀(d:Nat){x:AV},x.pure=true->CJ d H x/\frzV d H x=x
 |0,x,h=>by cases x<;>exact⟨h,rfl⟩
 |d+1,x,h=>by
  have key:∀cs:List AV,Bh cs=true->(∀y∈cs,CJ d H y)/\cs.map (frzV d H)=cs:=λcs hc=>by
   refine⟨λy hy=>(Nr H d (BZ.1 hc y hy)).1,?_⟩;have:cs.map (frzV d H)=cs.map id:=AT λy hy=>(Nr H d (BZ.1 hc y hy)).2;simpa using this
  cases x with
  |ref=>simp[AV.pure] at h
  |ptr=>simp[AV.pure] at h
  |map=>simp[AV.pure] at h
  |agg cs=>obtain⟨k1,k2⟩:=key cs (by simpa [AV.pure] using h);exact⟨k1,by simp only[frzV,k2]⟩
  |tup cs=>obtain⟨k1,k2⟩:=key cs (by simpa [AV.pure] using h);exact⟨k1,by simp only[frzV,k2]⟩
  |fn f cs=>obtain⟨k1,k2⟩:=key cs (by simpa [AV.pure] using h);exact⟨k1,by simp only[frzV,k2]⟩
  |_=>exact⟨h,rfl⟩
theorem FN(H:A5)(d:Nat){xs:List AV}(h:Bh xs=true):(∀y∈xs,CJ d H y)/\xs.map (frzV d H)=xs:=by
 refine⟨λy hy=>(Nr H d (BZ.1 h y hy)).1,?_⟩;have:xs.map (frzV d H)=xs.map id:=AT λy hy=>(Nr H d (BZ.1 h y hy)).2;simpa using this
def MS.shut(S:MS)(H:A5):MS:={ S with n:=0,im:=λb=>S.im b\/∃g,g<H.n/\0<(H.at_ g).w/\0<S.cap g/\b=S.place g,keep:=λb=>S.keep b\/∃g,g<H.n/\(H.at_ g).w=0/\(H.at_ g).exact=true/\b=S.place g }
theorem Xy{S:MS}{H:A5}(h:SRel S H):SRel (S.shut H) A5.nil where
 n:=rfl
 grp g hg:=absurd hg (Ba _)
 apart g _ hg:=absurd hg (Ba _)
 im b hb:=by
  rcases hb with (hb|⟨g,hg,hw,hc,rfl⟩)|(hb|⟨g,hg,hw,he,rfl⟩)
  ·exact h.im b (.inl hb)
  ·exact (h.grp g hg).lt hw hc
  ·exact h.im b (.inr hb)
  ·exact (h.grp g hg).mlt hw he
theorem z99{S0 S:MS}{H:A5}(e:Evo S0 S)(h0:S0.n=0)(h:SRel S H):Evo S0 (S.shut H) where
 base:=e.base
 os:=e.os
 tape:=e.tape
 output:=e.output
 size:=e.size
 kept:=e.kept
 im b hb:=.inl (e.im b hb)
 keep b hb:=.inl (e.keep b hb)
 fresh b hb:=by
  rcases hb with hb|⟨g,hg,hw,hc,rfl⟩
  ·exact e.fresh b hb
  ·exact .inr λhk=>((h.grp g hg).live hw hc).2 (.inr (e.keep _ hk))
 n:=by rw[h0];exact Ad _
 cur g hg:=by omega
 same g hg:=by omega
theorem T7{S:MS}{H:A5}(h:SRel S H):∀(d:Nat){x:AV}{v:Value},CJ d H x->VRel S x v->VRel (S.shut H) (frzV d H x) v/\(frzV d H x).pure=true
 |0,x,v,hf,hv=>by
  have hp:x.pure=true:=by cases x<;>exact hf
  have he:frzV 0 H x=x:=by cases x<;>rfl
  rw[he];exact⟨VRel.of_pure (S:=S) (S':=S.shut H) rfl (λ_ hb=>.inl hb) hp hv,hp⟩
 |d+1,x,v,hf,hv=>by
  have keyL:∀{cs:List AV}{vs:List Value},(∀y∈cs,CJ d H y)->AB S cs vs->AB (S.shut H) (cs.map (frzV d H)) vs/\Bh (cs.map (frzV d H))=true:=by
   intro cs
   induction cs with
   |nil=>intro vs _ hh;exact⟨hh,rfl⟩
   |cons c cs ih =>
    intro vs hc hh;obtain⟨u,r,rfl,h1,h2⟩:=hh;obtain⟨k1,k2⟩:=T7 h d (hc c (by simp)) h1;obtain⟨k3,k4⟩:=ih (λy hy=>hc y (by simp[hy])) h2;exact⟨⟨u,r,rfl,k1,k3⟩,by simp[Bh,k2,k4]⟩
  cases x with
  |ref g vn off len =>
   obtain⟨h1,h2,h3,h4⟩:=hf;obtain⟨_,hg,hc,hp⟩:=hv;have hG:=h.live_of hg;obtain⟨a,cap',rfl,hcase⟩:=hp (by rw[hG.ver,h1]);have hl:((((H.at_ g).xs.drop off).take len).map (frzV d H)).length=len:=by simp;omega
   have hnone:a=none->cap'=0:=λhn=>by
    rcases hcase with⟨rfl,_⟩|⟨_,hh,_⟩
    ·cases hn
    ·exact hh
   by_cases hc0:S.cap g=0
   ·have hlen:=hG.len h2
    have hnil:((H.at_ g).xs.drop off).take len=[]:=Ay (by simp;omega);simp only[frzV,hnil,AZ] at hl ⊢;exact⟨⟨rfl,h2,a,cap',[],by rw[<-hl],⟨Au _,hnone⟩,rfl,λhne=>absurd rfl hne⟩,rfl⟩
   obtain⟨⟨cells,TT,us,hb,hcs,hus,hfl⟩,_⟩:=hG.live h2 (by omega);obtain⟨k1,k2⟩:=keyL h4 ((hus.drop off).take len);refine⟨⟨k2,h2,a,cap',_,by rw[hl],⟨?_,hnone⟩,k1,λhne=>?_⟩,k2⟩
   ·rw[hl];rcases hcase with⟨_,c2,c3⟩|⟨c1,c2,_⟩<;>omega
   ·rcases hcase with⟨rfl,_,_⟩|⟨c1,_,_⟩
    ·refine⟨_,_,rfl,.inr ⟨g,by rw[<-h.n];exact hg,h2,by omega,rfl⟩,λj u hu=>?_⟩
     rw[BU] at hu;split at hu
     ·rw[BS] at hu
      have:=hfl.row hb (off+j) u hu;rw[Bb,AG] at this;rw[hG.wid];exact this
     ·cases hu
    ·exact absurd (Ay (by rw[hl];exact c1)) hne
  |ptr g vn i o =>
   obtain⟨h1,h2,h3,h4,h5⟩:=hf;subst h4;obtain⟨_,hg,hc,hp⟩:=hv;have hG:=h.live_of hg;obtain rfl:v=_:=hp (by rw[hG.ver,h1]);obtain⟨u,hu,hl⟩:=hG.elem h3 h2;obtain⟨k1,k2⟩:=T7 h d h5 hu;refine⟨?_,?_⟩
   ·simp only[frzV,Bi]
    refine⟨k2,S.place g,i * (H.at_ g).w,u,?_,.inr ⟨g,by rw[<-h.n];exact hg,h3,by have:=hG.len h3;omega,rfl⟩,k1,?_⟩
    ·rw[hG.wid];rfl
    ·rw[hl.1];exact hl
   ·simp only[frzV,Bi,AV.pure];exact k2
  |agg cs=>obtain⟨vs,rfl,hr⟩:=hv;obtain⟨k1,k2⟩:=keyL hf hr;exact⟨⟨vs,rfl,k1⟩,by simpa [frzV,AV.pure] using k2⟩
  |tup cs=>obtain⟨vs,rfl,hr⟩:=hv;obtain⟨k1,k2⟩:=keyL hf hr;exact⟨⟨vs,rfl,k1⟩,by simpa [frzV,AV.pure] using k2⟩
  |fn f cs=>obtain⟨vs,rfl,hr⟩:=hv;obtain⟨k1,k2⟩:=keyL hf hr;exact⟨⟨vs,rfl,k1⟩,by simpa [frzV,AV.pure] using k2⟩
  |any=>exact⟨trivial,rfl⟩
  |bool b=>exact⟨hv,rfl⟩
  |int k n=>exact⟨hv,rfl⟩
  |str s=>exact⟨hv,rfl⟩
  |nilS=>exact⟨hv,rfl⟩
  |nul=>exact⟨hv,rfl⟩
  |emp=>exact⟨hv,rfl⟩
  |nilP=>exact⟨hv,rfl⟩
  |nilF=>exact⟨hv,rfl⟩
  |yld l=>exact⟨hv,rfl⟩
  |full w xs=>exact⟨VRel.of_pure (S:=S) (S':=S.shut H) rfl (λ_ hb=>.inl hb) hf hv,hf⟩
  |map g v=>simp[CJ,AV.pure] at hf
  |lst w xs=>exact⟨VRel.of_pure (S:=S) (S':=S.shut H) rfl (λ_ hb=>.inl hb) hf hv,hf⟩
  |cptr x=>exact⟨VRel.of_pure (S:=S) (S':=S.shut H) rfl (λ_ hb=>.inl hb) hf hv,hf⟩
theorem z1t{S:MS}{H:A5}(h:SRel S H)(d:Nat):∀{xs:List AV}{vs:List Value},(∀y∈xs,CJ d H y)->AB S xs vs->AB (S.shut H) (xs.map (frzV d H)) vs
 |[],_,_,hh=>hh
 |x::xs,vs,hc,hh=>by
  obtain⟨u,r,rfl,h1,h2⟩:=hh;exact⟨u,r,rfl,(T7 h d (hc x (by simp)) h1).1,z1t h d (λy hy=>hc y (by simp[hy])) h2⟩
def PC(P:Program)(f:Nat)(xs:List AV)(y:AV):Prop:=B3 P f xs A5.nil λz H=>z=y/\H=A5.nil
section
variable {P:Program}{H:A5}
def AV.le(x y:AV):Prop:=∀(S:MS)(v:Value),VRel S x v->VRel S y v
def leL(xs ys:List AV):Prop:=∀(S:MS)(vs:List Value),AB S xs vs->AB S ys vs
theorem AV.le_refl(x:AV):AV.le x x:=λ_ _ h=>h
theorem AV.le_of_eq{x y:AV}(h:x=y):AV.le x y:=h ▸ AV.le_refl x
theorem AV.le_trans{x y z:AV}(h:AV.le x y)(k:AV.le y z):AV.le x z:=λS v hv=>k S v (h S v hv)
theorem D2:leL [] []:=λ_ _ h=>h
theorem AW{x y:AV}{xs ys:List AV}(h:AV.le x y)(k:leL xs ys):leL (x::xs) (y::ys):=λS _ ⟨v,r,hv,h1,h2⟩=>⟨v,r,hv,h S v h1,k S r h2⟩
theorem AV.le_nilS{w:Nat}(hw:0<w):AV.le .nilS (.lst w []):=λ_ v h=>⟨rfl,hw,none,0,[],h,⟨Ad 0,λ_=>rfl⟩,rfl,λhn=>absurd rfl hn⟩
theorem AV.le_nul{w:Nat}(hw:0<w):AV.le .nul (.lst w []):=λ_ v ⟨a,h⟩=>⟨rfl,hw,a,0,[],h,⟨Ad 0,λ_=>rfl⟩,rfl,λhn=>absurd rfl hn⟩
theorem AV.le_emp{w:Nat}(hw:0<w):AV.le .emp (.lst w []):=λ_ v ⟨a,cap,h⟩=>⟨rfl,hw,some a,cap,[],h,⟨Au _,λhn=>by cases hn⟩,rfl,λhn=>absurd rfl hn⟩
theorem AV.le_agg{xs ys:List AV}(h:leL xs ys):AV.le (.agg xs) (.agg ys):=λS _ ⟨vs,hv,k⟩=>⟨vs,hv,h S vs k⟩
theorem AV.le_tup{xs ys:List AV}(h:leL xs ys):AV.le (.tup xs) (.tup ys):=λS _ ⟨vs,hv,k⟩=>⟨vs,hv,h S vs k⟩
theorem AV.le_lst{w:Nat}{xs ys:List AV}(hl:xs.length=ys.length)(hp:Bh ys=true)(h:leL xs ys):AV.le (.lst w xs) (.lst w ys):=λS v ⟨_,hw,a,cap,vs,hv,hc,hx,hr⟩ =>
 ⟨hp,hw,a,cap,vs,by rw[<-hl];exact hv,by rw[<-hl];exact hc,h S vs hx,λhn=>hr (λhh=>hn (Ay (by rw[<-hl,hh];rfl)))⟩
theorem Gm{f:Nat}{xs ys:List AV}{K:AV->A5->Prop}(h:leL xs ys)(k:B3 P f ys H K):B3 P f xs H K:=⟨k.1,λS cargs hS hx=>k.2 S cargs hS (h S cargs hx)⟩
theorem pc_le{f:Nat}{xs:List AV}{y:AV}(d:Nat)(h:B3 P f xs A5.nil λz H=>CJ d H z/\AV.le (frzV d H z) y):PC P f xs y:=by
 refine⟨h.1,λS cargs hS hx=>(h.2 S cargs hS hx).mono λe w' hh=>?_⟩;obtain⟨v,S',x,H',rfl,rfl,ev,hS',hv,h1,h2⟩:=hh;obtain⟨k1,_⟩:=T7 hS' d h1 hv;exact⟨v,S'.shut H',y,A5.nil,rfl,rfl,z99 ev hS.n hS',Xy hS',h2 _ _ k1,rfl,rfl⟩
theorem z1u{f:Nat}{xs ys:List AV}{y:AV}(h:PC P f ys y)(d:Nat)(hok:∀x∈xs,CJ d H x)(hys:xs.map (frzV d H)=ys)(hy:y.flat=true\/Bh xs=true):B3 P f xs H λz H'=>z=y/\H'=H:=by
 refine⟨h.1,λS cargs hS hx=>?_⟩;by_cases hp:Bh xs=true
 ·have hys':ys=xs:=by rw[<-hys];exact (FN H d hp).2
  subst hys'
  let S1:MS:={ S with n:=0,keep:=λb=>S.keep b\/∃g,g<H.n/\(H.at_ g).has (S.cap g)/\b=S.place g }
  have hS1:SRel S1 A5.nil:=by
   refine⟨rfl,λg hg=>absurd hg (Ba _),λg _ hg=>absurd hg (Ba _),λb hb=>?_⟩;rcases hb with hb|hb|⟨g,hg,hh,rfl⟩
   ·exact hS.im b (.inl hb)
   ·exact hS.im b (.inr hb)
   ·exact (hS.grp g hg).has_lt hh
  refine (h.2 S1 cargs hS1 (AB.of_pure (S:=S) (S':=S1) rfl (λ_ hb=>hb) hp hx)).mono λe w' hh=>?_;obtain⟨v,S2,x,H',rfl,rfl,ev,hS2,hv,rfl,rfl⟩:=hh
  let S':MS:={ S with w:=S2.w,im:=S2.im }
  have ev':Evo S S':=by
   refine⟨rfl,ev.os,ev.tape,ev.output,ev.size,λb hb=>ev.kept b (hb.imp id .inl),ev.im,λ_ hb=>hb,λb hb=>?_,Ad _,λ_ _=>Ad _,λ_ _ _=>⟨rfl,rfl,rfl⟩⟩;exact (ev.fresh b hb).imp id (λhn hk=>hn (.inl hk))
  refine⟨v,S',x,H,rfl,rfl,ev',?_,VRel.lift (S:=S2) (S':=S') hS2.n rfl (λ_ hb=>hb) hv,rfl,rfl⟩;refine⟨hS.n,λg hg=>?_,hS.apart,λb hb=>?_⟩
  ·refine (hS.grp g hg).mono' ev' (by rw[hS.n];exact hg) rfl (λhq=>ev.kept _ (.inr (.inr ⟨g,hg,hq,rfl⟩))) (λhq hh=>?_)
   have hni:=(hS.grp g hg).has_ni hq;rcases hh with hh|hh
   ·rcases ev.fresh _ hh with h1|h1
    ·exact hni (.inl h1)
    ·exact h1 (.inr ⟨g,hg,hq,rfl⟩)
   ·exact hni (.inr hh)
  ·rcases hb with hb|hb
   ·exact hS2.im b (.inl hb)
   ·have h1:=hS.im b (.inr hb)
    have h2:S.w.heap.size<=S2.w.heap.size:=ev.size;exact AX h1 h2
 ·have hfl:y.flat=true:=hy.resolve_right hp
  have hx1:=z1t hS d hok hx;rw[hys] at hx1;refine (h.2 (S.shut H) cargs (Xy hS) hx1).mono λe w' hh=>?_;obtain⟨v,S2,x,H',rfl,rfl,ev,hS2,hv,rfl,rfl⟩:=hh
  let S':MS:={ S with w:=S2.w }
  have ev':Evo S S':=⟨rfl,ev.os,ev.tape,ev.output,ev.size,λb hb=>ev.kept b (hb.imp .inl .inl),λ_ hb=>hb,λ_ hb=>hb,λ_ hb=>.inl hb,Ad _,λ_ _=>Ad _,λ_ _ _=>⟨rfl,rfl,rfl⟩⟩;refine⟨v,S',x,H,rfl,rfl,ev',?_,VRel.of_flat hfl hv,rfl,rfl⟩;refine⟨hS.n,λg hg=>?_,hS.apart,λb hb=>?_⟩
  ·refine (hS.grp g hg).mono' ev' (by rw[hS.n];exact hg) rfl (λhq=>?_) (λhq=>(hS.grp g hg).has_ni hq)
   rcases hq with⟨hw,hc⟩|⟨hw,he⟩
   ·exact ev.kept _ (.inl (.inr ⟨g,hg,hw,hc,rfl⟩))
   ·exact ev.kept _ (.inr (.inr ⟨g,hg,hw,he,rfl⟩))
  ·have h1:=hS.im b hb
   have h2:S.w.heap.size<=S2.w.heap.size:=ev.size;exact AX h1 h2
theorem Io{f:Nat}{xs:List AV}{y:AV}(h:PC P f xs y)(hp:Bh xs=true){K:AV->A5->Prop}(hK:K y H):B3 P f xs H K :=
 (z1u h 0 (FN H 0 hp).1 (FN H 0 hp).2 (.inr hp)).mono λ_ _ ⟨h1,h2⟩=>by rw[h1,h2];exact hK
theorem z1v{f:Nat}{xs ys:List AV}{y:AV}(h:PC P f ys y)(d:Nat)(hok:∀x∈xs,CJ d H x)(hys:xs.map (frzV d H)=ys)(hy:y.flat=true){K:AV->A5->Prop}(hK:K y H):B3 P f xs H K :=
 (z1u h d hok hys (.inl hy)).mono λ_ _ ⟨h1,h2⟩=>by rw[h1,h2];exact hK
theorem pc{f:Nat}{xs:List AV}{y:AV}{fn:AFn}(hf:Bj P f xs.length=some fn)(d:Nat)(h:T P fn.n 0 fn.body (entry xs) A5.nil (Ret P fn.res λz H=>CJ d H z/\AV.le (frzV d H z) y)):PC P f xs y :=
 pc_le d (GD hf h)
end
abbrev o0(d:Nat)(k:AK):AOp:=⟨some d,[],none,k⟩
abbrev o1(d a:Nat)(k:AK):AOp:=⟨some d,[.slot a],none,k⟩
abbrev o2(d a b:Nat)(k:AK):AOp:=⟨some d,[.slot a,.slot b],none,k⟩
abbrev o3(d a b c:Nat)(k:AK):AOp:=⟨some d,[.slot a,.slot b,.slot c],none,k⟩
abbrev c1(d:Nat)(x:AV)(k:AK):AOp:=⟨some d,[.const x],none,k⟩
abbrev c2(d a:Nat)(x:AV)(k:AK):AOp:=⟨some d,[.slot a,.const x],none,k⟩
abbrev k0(d f:Nat):AOp:=⟨some d,[.const (.fn f [])],none,.call⟩
abbrev k1(d f a:Nat):AOp:=⟨some d,[.const (.fn f []),.slot a],none,.call⟩
abbrev k2(d f a b:Nat):AOp:=⟨some d,[.const (.fn f []),.slot a,.slot b],none,.call⟩
abbrev k3(d f a b c:Nat):AOp:=⟨some d,[.const (.fn f []),.slot a,.slot b,.slot c],none,.call⟩
abbrev g1(d g a:Nat)(k:AK):AOp:=⟨some d,[.slot a],some (g,true),k⟩
abbrev g2(d g a b:Nat)(k:AK):AOp:=⟨some d,[.slot a,.slot b],some (g,true),k⟩
abbrev n2(a b:Nat)(k:AK):AOp:=⟨none,[.slot a,.slot b],none,k⟩
theorem z1w{α:Type}(f:Nat->α)(i:Nat)(y:α)(j:Nat):fput f i y j=if j=i then y else f j:=(rfl)
theorem z1x(f:Nat->Grp)(i:Nat)(y:Grp)(j:Nat):hput f i y j=if j=i then y else f j:=(rfl)
theorem z9a(env:Env)(d:Nat)(x:AV)(j:Nat):Env.put env (some d) x j=if j=d then x else env j:=(rfl)
theorem z9b(env:Env)(x:AV):Env.put env none x=env:=(rfl)
theorem Zt(x:AV)(xs:List AV):entry (x::xs) 0=x:=(rfl)
theorem Zu(x:AV)(xs:List AV)(n:Nat):entry (x::xs) (n+1)=entry xs n:=by simp[entry]
theorem z1y(env:Env)(t:Nat):(AArg.slot t).eval env=env t:=(rfl)
theorem Zv(env:Env)(x:AV):(AArg.const x).eval env=x:=(rfl)
theorem Zw(b w:Bool)(p q r:Prop):Hd (.bool b) w p q r=((b=w->p)/\(b=(!w)->q)):=by
 cases b<;>cases w<;>simp[Hd]
theorem Zx(w:Bool)(p q r:Prop):Hd (.tup []) w p q r=r:=by cases w<;>rfl
theorem z1z{α:Type}(x:α)(f:α->Prop):optK (some x) f=f x:=(rfl)
def V5(x:AV)(p q:Prop):Prop:=match x with
 |.bool b=>(b=true->p)/\(b=false->q)
 |_=>False
section
variable {P:Program}{n b:Nat}{env:Env}{H:A5}{Q:Ex->Env->A5->Prop}{K:Env->A5->Prop}
theorem zfz{f m np:Nat}{xs:List AV}{y:AV}{res:List ARes}{B:AC}(hf:Bj P f xs.length=some ⟨m,np,res,B⟩)(d:Nat)(h:T P m 0 B (entry xs) A5.nil (Ret P res λz H=>CJ d H z/\AV.le (frzV d H z) y)):PC P f xs y:=pc hf d h
theorem z28{K:Env->A5->Prop}:Ex.then K Q .normal env H=K env H:=(rfl)
theorem z29{K:Env->A5->Prop}:Ex.then K Q .ret env H=Q .ret env H:=(rfl)
theorem z30{K:Env->A5->Prop}{id:Nat}:Ex.then K Q (.exit id) env H=Q (.exit id) env H:=(rfl)
theorem z31{id:Nat}:Ex.inBlock id Q .normal env H=Q .normal env H:=(rfl)
theorem z32{id:Nat}:Ex.inBlock id Q .ret env H=Q .ret env H:=(rfl)
theorem z33{id k:Nat}:Ex.inBlock id Q (.exit k) env H=if k=id then Q .normal env H else Q (.exit k) env H:=(rfl)
end
theorem z2a(a b:Int)(h:0<=b):a.fdiv b=a / b:=Int.fdiv_eq_ediv_of_nonneg a h
theorem Xz{n:Int}{k:IntKind}(h:0<=n/\n<2 ^ k.bits):(BitVec.ofInt k.bits n).toNat=n.toNat:=by
 obtain⟨m,rfl⟩:=DY h.1
 have h2:m<2 ^ k.bits:=by
  have:=h.2
  exact_mod_cast this
 rw[BitVec.ofInt_natCast,BitVec.toNat_ofNat,EK h2,Int.toNat_natCast]
theorem z2b{x:Int}{k:IntKind}(i:Nat)(h:0<=x/\x<2 ^ k.bits)(hi:i<=k.bits)(hw:k.wrap (x % 2 ^ i)=x % 2 ^ i):JE .and k x (2 ^ i-1)=x % 2 ^ i:=by
 obtain⟨m,rfl⟩:=DY h.1;have hp:(0:Int)<2 ^ i:=by exact_mod_cast Nat.two_pow_pos i
 have hq:(2:Int) ^ i<=2 ^ k.bits:=by exact_mod_cast C1 (by decide) hi
 show k.wrap (BitVec.ofInt k.bits (m:Int) &&& BitVec.ofInt k.bits (2 ^ i-1)).toNat=_
 have h2:((2:Int) ^ i-1).toNat=2 ^ i-1:=by
  have:(2:Int) ^ i-1=((2 ^ i-1:Nat):Int):=by rw[Int.ofNat_sub (Nat.two_pow_pos i)];simp
  rw[this,Int.toNat_natCast]
 rw[BitVec.toNat_and,Xz h,Xz ⟨by omega,by omega⟩,h2,Int.toNat_natCast,Nat.and_two_pow_sub_one_eq_mod];have:((m % 2 ^ i:Nat):Int)=(m:Int) % 2 ^ i:=by simp
 rw[this,hw]
open IntWalk
def Grp.dead(G:Grp):Grp:=⟨0,G.ver+1,false,[]⟩
def A5.kill(H:A5)(ks:List Nat):A5:=⟨H.n,λg=>if g∈ks then (H.at_ g).dead else H.at_ g⟩
def A5.only(H:A5)(ks:List Nat):A5:=⟨H.n,λg=>if g∈ks then H.at_ g else (H.at_ g).dead⟩
def MS.only(S:MS)(ks:List Nat):MS:={ S with cur:=λg=>if g∈ks then S.cur g else S.cur g+1,wid:=λg=>if g∈ks then S.wid g else 0 }
def MS.kill(S:MS)(H:A5)(ks:List Nat):MS:={ S with
 im:=λb=>S.im b\/∃g,g<H.n/\g∈ks/\0<(H.at_ g).w/\0<S.cap g/\b=S.place g
 cur:=λg=>if g∈ks then S.cur g+1 else S.cur g
 wid:=λg=>if g∈ks then 0 else S.wid g }
section
variable {S:MS}{H:A5}(ks:List Nat)
theorem R8:Evo S (S.only ks):=by
 refine⟨rfl,rfl,⟨rfl,Ad _⟩,rfl,Ad _,λ_ _=>rfl,λ_ h=>h,λ_ h=>h,λ_ h=>.inl h,Ad _,λg _=>?_,λg _ hc=>?_⟩
 ·show S.cur g<=if g∈ks then S.cur g else S.cur g+1
  split<;>omega
 ·have hc':(if g∈ks then S.cur g else S.cur g+1)=S.cur g:=hc
  refine⟨rfl,rfl,?_⟩;show (if g∈ks then S.wid g else 0)=S.wid g;by_cases h:g∈ks
  ·rw[Ae h]
  ·rw[Ab h] at hc';omega
theorem X0{S':MS}{G:Grp}{g:Nat}(h1:S'.cur g=G.ver+1)(h2:S'.wid g=0):GRel S' G.dead g:=⟨h1,h2,λh=>absurd h (Cj _),λh=>absurd h (Cj _),λh=>absurd h (Cj _),λ_ h=>by cases h⟩
theorem X3{G:Grp}{c:Nat}:¬G.dead.has c:=by
 rintro (⟨h,_⟩|⟨_,h⟩)
 ·exact absurd h (Cj _)
 ·cases h
theorem z9c(h:SRel S H):SRel (S.only ks) (H.only ks) where
 n:=h.n
 grp g hg:=by
  have hG:=h.grp g hg;by_cases hk:g∈ks
  ·have e1:(H.only ks).at_ g=H.at_ g:=by show (if g∈ks then _ else _)=_;rw[Ae hk]
   have e2:(S.only ks).cur g=S.cur g:=by show (if g∈ks then _ else _)=_;rw[Ae hk]
   have e3:(S.only ks).wid g=S.wid g:=by show (if g∈ks then _ else _)=_;rw[Ae hk]
   rw[e1];refine⟨e2.trans hG.ver,e3.trans hG.wid,λhw hc=>?_,hG.len,hG.full,λhw he=>?_⟩
   ·obtain⟨⟨cells,T,vs,a1,a2,a3,a4⟩,b⟩:=hG.live hw hc
    exact⟨⟨cells,T,vs,a1,a2,AB.mono (R8 ks) _ a3,a4⟩,b⟩
   ·obtain⟨⟨es,clock,a1,a2⟩,b⟩:=hG.mlive hw he
    exact⟨⟨es,clock,a1,AB.mono (R8 ks) _ a2⟩,b⟩
  ·have e1:(H.only ks).at_ g=(H.at_ g).dead:=by show (if g∈ks then _ else _)=_;rw[Ab hk]
   have e2:(S.only ks).cur g=S.cur g+1:=by show (if g∈ks then _ else _)=_;rw[Ab hk]
   have e3:(S.only ks).wid g=0:=by show (if g∈ks then _ else _)=_;rw[Ab hk]
   rw[e1];exact X0 (by rw[e2,hG.ver]) e3
 apart g g' hg hg' hne hw hw':=by
  have key:∀g,((H.only ks).at_ g).has (S.cap g)->(H.at_ g).has (S.cap g):=λg hw=>by
   have:(if g∈ks then H.at_ g else (H.at_ g).dead).has (S.cap g):=hw;split at this
   ·exact this
   ·exact absurd this X3
  exact h.apart g g' hg hg' hne (key g hw) (key g' hw')
 im:=h.im
theorem FV(h:SRel S H):Evo S (S.kill H ks):=by
 refine⟨rfl,rfl,⟨rfl,Ad _⟩,rfl,Ad _,λ_ _=>rfl,λ_ h=>.inl h,λ_ h=>h,λb hb=>?_,Ad _,λg _=>?_,λg _ hc=>?_⟩
 ·rcases hb with hb|⟨g,hg,_,hw,hc,rfl⟩
  ·exact .inl hb
  ·exact .inr λhk=>((h.grp g hg).live hw hc).2 (.inr hk)
 ·show S.cur g<=if g∈ks then S.cur g+1 else S.cur g
  split<;>omega
 ·have hc':(if g∈ks then S.cur g+1 else S.cur g)=S.cur g:=hc
  refine⟨rfl,rfl,?_⟩;show (if g∈ks then 0 else S.wid g)=S.wid g;by_cases h:g∈ks
  ·rw[Ae h] at hc';omega
  ·rw[Ab h]
theorem Jw(h:SRel S H):SRel (S.kill H ks) (H.kill ks) where
 n:=h.n
 grp g hg:=by
  have hG:=h.grp g hg;by_cases hk:g∈ks
  ·have e1:(H.kill ks).at_ g=(H.at_ g).dead:=by show (if g∈ks then _ else _)=_;rw[Ae hk]
   have e2:(S.kill H ks).cur g=S.cur g+1:=by show (if g∈ks then _ else _)=_;rw[Ae hk]
   have e3:(S.kill H ks).wid g=0:=by show (if g∈ks then _ else _)=_;rw[Ae hk]
   rw[e1];exact X0 (by rw[e2,hG.ver]) e3
  ·have e1:(H.kill ks).at_ g=H.at_ g:=by show (if g∈ks then _ else _)=_;rw[Ab hk]
   have e2:(S.kill H ks).cur g=S.cur g:=by show (if g∈ks then _ else _)=_;rw[Ab hk]
   have e3:(S.kill H ks).wid g=S.wid g:=by show (if g∈ks then _ else _)=_;rw[Ab hk]
   rw[e1]
   have hni:(H.at_ g).has (S.cap g)->¬((S.kill H ks).im (S.place g)\/(S.kill H ks).keep (S.place g)):=λhq=>by
    have b3:=hG.has_ni hq;rintro ((hi|⟨g',hg',hk',hw',hc',he⟩)|hi)
    ·exact b3 (.inl hi)
    ·exact h.apart g g' hg hg' (λhgg=>hk (hgg ▸ hk')) hq (.inl ⟨hw',hc'⟩) he
    ·exact b3 (.inr hi)
   refine⟨e2.trans hG.ver,e3.trans hG.wid,λhw hc=>?_,hG.len,hG.full,λhw he=>?_⟩
   ·obtain⟨⟨cells,T,vs,a1,a2,a3,a4⟩,b3⟩:=hG.live hw hc
    exact⟨⟨cells,T,vs,a1,a2,AB.mono (FV ks h) _ a3,a4⟩,hni (.inl ⟨hw,hc⟩)⟩
   ·obtain⟨⟨es,clock,a1,a2⟩,b3⟩:=hG.mlive hw he
    exact⟨⟨es,clock,a1,AB.mono (FV ks h) _ a2⟩,hni (.inr ⟨hw,he⟩)⟩
 apart g g' hg hg' hne hw hw':=by
  have key:∀g,((H.kill ks).at_ g).has (S.cap g)->(H.at_ g).has (S.cap g):=λg hw=>by
   have:(if g∈ks then (H.at_ g).dead else H.at_ g).has (S.cap g):=hw;split at this
   ·exact absurd this X3
   ·exact this
  exact h.apart g g' hg hg' hne (key g hw) (key g' hw')
 im b hb:=by
  rcases hb with (hb|⟨g,hg,_,hw,hc,rfl⟩)|hb
  ·exact h.im b (.inl hb)
  ·exact (h.grp g hg).lt hw hc
  ·exact h.im b (.inr hb)
theorem Jy(h:SRel S H)(d:Nat){x:AV}{v:Value}(hok:CJ d (H.only ks) x)(hv:VRel S x v):VRel (S.kill H ks) (frzV d (H.only ks) x) v:=by
 obtain⟨k1,k2⟩:=T7 (z9c ks h) d hok (VRel.mono (R8 ks) _ hv);refine VRel.of_pure (S:=(S.only ks).shut (H.only ks)) (S':=S.kill H ks) rfl (λb hb=>?_) k2 k1;rcases hb with hb|⟨g,hg,hw,hc,rfl⟩
 ·exact .inl hb
 ·have hw':0<(if g∈ks then H.at_ g else (H.at_ g).dead).w:=hw
  split at hw'
  ·rename_i hk;exact .inr ⟨g,hg,hk,hw',hc,rfl⟩
  ·exact absurd hw' (Cj _)
theorem T8(h:SRel S H)(d:Nat):∀{xs:List AV}{vs:List Value},(∀y∈xs,CJ d (H.only ks) y)->AB S xs vs->AB (S.kill H ks) (xs.map (frzV d (H.only ks))) vs
 |[],_,_,hh=>hh
 |x::xs,vs,hc,hh=>by
  obtain⟨u,r,rfl,h1,h2⟩:=hh;exact⟨u,r,rfl,Jy ks h d (hc x (by simp)) h1,T8 h d (λy hy=>hc y (by simp[hy])) h2⟩
end
theorem R9{P:Program}{f:Nat}{xs:List AV}{H:A5}{K:AV->A5->Prop}(d:Nat)(ks:List Nat)(hok:∀x∈xs,CJ d (H.only ks) x)(h:B3 P f (xs.map (frzV d (H.only ks))) (H.kill ks) K):B3 P f xs H K:=by
 refine⟨h.1,λS cargs hS hx=>(h.2 (S.kill H ks) cargs (Jw ks hS) (T8 ks hS d hok hx)).mono λe w' hh=>?_⟩;obtain⟨v,S',x,H',rfl,rfl,ev,hS',hv,hK⟩:=hh;exact⟨v,S',x,H',rfl,rfl,(FV ks hS).trans ev,hS',hv,hK⟩
theorem zg0(G:Grp):G.dead=⟨0,G.ver+1,false,[]⟩:=(rfl)
theorem zkx(H:A5)(ks:List Nat):(H.kill ks).n=H.n:=(rfl)
theorem zky(H:A5)(ks:List Nat):(H.only ks).n=H.n:=(rfl)
attribute [push_cast] z1y Zv z9b z1w z1x Zt Zu Zw Zx z1z z28 z29 z30 z31 z32 z33 zkx zky zg0
attribute [push_cast] List.map_cons List.map_nil List.drop_zero List.drop_succ_cons List.take_succ_cons List.take_zero List.drop_nil List.take_nil List.length_cons List.length_nil List.getD_cons_zero List.getD_cons_succ List.set_cons_zero List.set_cons_succ Option.getD_some Option.getD_none List.length_set List.append_assoc List.nil_append List.append_nil List.cons_append List.getElem?_cons_zero List.getElem?_cons_succ List.forall_mem_cons List.not_mem_nil List.length_map Bool.false_eq_true Bool.true_eq_false false_implies true_implies forall_const true_and and_true false_and and_false cond_true cond_false Bool.not_true Bool.not_false decide_eq_true_eq decide_eq_false_iff_not not_false_eq_true not_true_eq_false imp_false Nat.lt_irrefl Nat.le_refl Nat.zero_add Nat.add_zero Nat.zero_lt_succ Nat.lt_add_one implies_true decide_true decide_false Bool.not_eq_true Bool.not_eq_false Bool.not_eq_true' Bool.not_eq_false' eq_self Bool.and_self Bool.and_true Bool.true_and Bool.and_false Bool.false_and Bool.or_true Bool.true_or Bool.or_false Bool.false_or ne_eq Int.natCast_nonneg Int.toNat_natCast or_self true_or or_true false_or or_false and_self Int.cast_ofNat_Int if_true if_false
open Go.RowKit
def MS.start(w:World):MS:=⟨w,λb=>b<w.heap.size,λ_=>False,0,λ_=>0,λ_=>0,λ_=>0,λ_=>0,0⟩
theorem z2c(w:World):SRel (MS.start w) A5.nil :=
 ⟨rfl,λg hg=>absurd hg (Ba _),λg _ hg=>absurd hg (Ba _),λb hb=>hb.elim id False.elim⟩
theorem PC.below{P:Program}{f:Nat}{xs:List AV}{b:Bool}(h:PC P f xs (.bool b)){w:World}{cargs:List Value}(hx:AB (MS.start w) xs cargs):
 Calls P f cargs.toArray w λe w'=>e=.returned (.bool b)/\Below w.heap.size w w':=by
 refine (h.2 (MS.start w) cargs (z2c w) hx).mono λe w' hh=>?_;obtain⟨v,S',x,H',rfl,rfl,ev,_,hv,rfl,_⟩:=hh;have hv':v=.bool b:=hv;subst hv';exact⟨rfl,ev.os,ev.tape.1,ev.output,ev.size,λk hk=>ev.kept k (.inl hk)⟩
theorem Zy{w:World}{a:Addr}{v:Value}(h:w.cell? a=some v):a.block<w.heap.size:=by
 unfold World.cell? at h;split at h
 ·rename_i hb;exact (Bl.1 hb).1
 ·cases h
class HK where
 f:AV->A5->Prop
class HQ where
 f:AV->Prop
class HP where
 p:Prop
class HY where
 y:AV
def KD(P:Program)(f:Nat)(xs:List AV)(H:A5)[K:HK]:Prop:=B3 P f xs H K.f
def z9d(P:Program)(f:Nat)(xs:List AV)(H:A5)[K:HQ]:Prop:=∃y,B3 P f xs H (λz H'=>z=y/\H'=H)/\K.f y
def Kg[L:HP]:Prop:=L.p
def opK(P:Program):AK->A5->List AV->[HK]->Prop
 |.call,H,.fn f caps::xs,K=>KD P f (xs++caps) H
 |k,H,xs,K=>AF P k H xs K.f
def opQ(P:Program):AK->A5->List AV->[HQ]->Prop
 |.call,H,.fn f caps::xs,K=>z9d P f (xs++caps) H
 |.bslice w len z idx,H,xs,K=>HH w len idx xs/\0<w/\Bh (F2 idx xs (List.replicate len z))=true/\K.f (.full w (F2 idx xs (List.replicate len z)))
 |k,H,xs,K=>k.still=true/\AF P k H xs λx _=>K.f x
def FG(x:AV)(w:Bool)[p:HP][q:HP][r:HP]:Prop:=Hd x w p.p q.p r.p
def wk(P:Program):List AOp->Env->A5->(Env->A5->Prop)->Prop
 |[],env,H,K=>K env H
 |⟨dst,args,none,k⟩::l,env,H,K=>@opK P k H (args.map (·.eval env)) ⟨λx H'=>wk P l (env.put dst x) H' K⟩
 |⟨dst,args,some (d,want),k⟩::l,env,H,K=>@FG (env d) want
  ⟨@opK P k H (args.map (·.eval (env.put (some d) (.bool want)))) ⟨λx H'=>wk P l ((env.put (some d) (.bool want)).put dst x) H' K⟩⟩
  ⟨wk P l ((env.put (some d) (.bool (!want))).put dst (.tup [])) H K⟩ ⟨wk P l (env.put dst (.tup [])) H K⟩
def qk(P:Program)(H:A5):List AOp->Env->(Env->Prop)->Prop
 |[],env,K=>K env
 |⟨dst,args,none,k⟩::l,env,K=>@opQ P k H (args.map (·.eval env)) ⟨λx=>qk P H l (env.put dst x) K⟩
 |⟨dst,args,some (d,want),k⟩::l,env,K=>@FG (env d) want
  ⟨@opQ P k H (args.map (·.eval (env.put (some d) (.bool want)))) ⟨λx=>qk P H l ((env.put (some d) (.bool want)).put dst x) K⟩⟩
  ⟨qk P H l ((env.put (some d) (.bool (!want))).put dst (.tup [])) K⟩ ⟨qk P H l (env.put dst (.tup [])) K⟩
class HG where
 f:AV->List Grp->Prop
def z9e(P:Program)(f:Nat)(xs:List AV)(l:List Grp)[K:HG]:Prop:=∃y,(∀H,B3 P f xs H λz H'=>z=y/\H'=H)/\K.f y l
def opG(P:Program):AK->List Grp->List AV->[HG]->Prop
 |.call,l,.fn f caps::xs,K=>z9e P f (xs++caps) l
 |.bslice w len z idx,l,xs,K=>HH w len idx xs/\0<w/\Bh (F2 idx xs (List.replicate len z))=true/\K.f (.full w (F2 idx xs (List.replicate len z))) l
 |k,l,xs,K=>(k.still=true/\BX (·<l.length) xs/\AF P k (hl l) xs λx _=>K.f x l)\/(k.still=false/\k.eff.isSome=true/\k.appOk=true/\Rs k xs/\AF P k (hl l) xs λx H'=>∀l',H'=hl l'->K.f x l')
def gk(P:Program):List AOp->Env->List Grp->(Env->List Grp->Prop)->Prop
 |[],env,l,K=>K env l
 |⟨dst,args,none,k⟩::r,env,l,K=>@opG P k l (args.map (·.eval env)) ⟨λx l'=>gk P r (env.put dst x) l' K⟩
 |⟨dst,args,some (d,want),k⟩::r,env,l,K=>@FG (env d) want
  ⟨@opG P k l (args.map (·.eval (env.put (some d) (.bool want)))) ⟨λx l'=>gk P r ((env.put (some d) (.bool want)).put dst x) l' K⟩⟩
  ⟨gk P r ((env.put (some d) (.bool (!want))).put dst (.tup [])) l K⟩ ⟨gk P r (env.put dst (.tup [])) l K⟩
def V6(x:AV)[p:HP][q:HP]:Prop:=V5 x p.p q.p
def W(P:Program)(n b:Nat):AC->Env->A5->(Ex->Env->A5->Prop)->Prop
 |.skip,env,H,Q=>Q .normal env H
 |.reg ops,env,H,Q=>wk P ops env H λenv' H'=>Q .normal env' H'
 |.dreg ops,env,H,Q=>qk P H ops env λenv'=>Q .normal env' H
 |.dtl pre post,env,H,Q=>qk P H pre env λenv'=>wk P post env' H λenv' H'=>Q .normal env' H'
 |.greg ops,env,H,Q=>∃l,H=hl l/\gk P ops env l λenv' l'=>Q .normal env' (hl l')
 |.grx fl ops,env,H,Q=>@Kg ⟨T P n b (.grx fl ops) env H Q⟩
 |.gry fl ops,env,H,Q=>@Kg ⟨T P n b (.gry fl ops) env H Q⟩
 |.seq x y,env,H,Q=>W P n b x env H (Ex.then (λenv' H'=>W P n b y env' H' Q) Q)
 |.cond c x y,env,H,Q=>@V6 (c.eval env) ⟨W P n b x env H Q⟩ ⟨W P n b y env H Q⟩
 |.block id c,env,H,Q=>W P n b c env H (Ex.inBlock id Q)
 |.loop c,env,H,Q=>@Kg ⟨T P n b (.loop c) env H Q⟩
 |.rng f ps a c,env,H,Q=>@Kg ⟨T P n b (.rng f ps a c) env H Q⟩
 |.exit id,env,H,Q=>Q (.exit id) env H
 |.ret,env,H,Q=>Q .ret env H
section
variable {P:Program}{n b:Nat}{env:Env}{H:A5}{Q:Ex->Env->A5->Prop}{K:Env->A5->Prop}
theorem X4(P:Program)(k:AK)(H:A5)(xs:List AV)(K:AV->A5->Prop):@opK P k H xs ⟨K⟩=AF P k H xs K:=by
 unfold opK;split<;>rfl
theorem zed(P:Program)(k:AK)(H:A5)(xs:List AV)(K:AV->Prop):@opQ P k H xs ⟨K⟩=Tp P k H xs K:=by
 unfold opQ Tp;split
 ·rfl
 ·rfl
 ·rename_i h1 h2
  split
  ·rename_i f caps ys;exact absurd rfl (h2 f caps ys rfl)
  ·rename_i w len z idx;exact absurd rfl (h1 w len z idx)
  ·rfl
theorem LC(P:Program):∀(l:List AOp)(env:Env)(H:A5)(K:Env->A5->Prop),wk P l env H K=runK P l env H K
 |[],_,_,_=>rfl
 |⟨dst,args,none,k⟩::l,env,H,K=>by
  have h:(λx H'=>wk P l (env.put dst x) H' K)=λx H'=>runK P l (env.put dst x) H' K:=funext λx=>funext λH'=>LC P l _ H' K;show @opK P k H (args.map (·.eval env)) ⟨_⟩=_
  rw[h,X4];rfl
 |⟨dst,args,some (d,want),k⟩::l,env,H,K=>by
  have h:∀env:Env,(λx H'=>wk P l (env.put dst x) H' K)=λx H'=>runK P l (env.put dst x) H' K:=λenv=>funext λx=>funext λH'=>LC P l _ H' K;show @FG (env d) want ⟨@opK P k H _ ⟨_⟩⟩ ⟨_⟩ ⟨_⟩=_;rw[h,X4,LC,LC];rfl
theorem Zz(P:Program)(H:A5):∀(l:List AOp)(env:Env)(K:Env->Prop),qk P H l env K=runQ P H l env K
 |[],_,_=>rfl
 |⟨dst,args,none,k⟩::l,env,K=>by
  have h:(λx=>qk P H l (env.put dst x) K)=λx=>runQ P H l (env.put dst x) K:=funext λx=>Zz P H l _ K;show @opQ P k H (args.map (·.eval env)) ⟨_⟩=_
  rw[h,zed];rfl
 |⟨dst,args,some (d,want),k⟩::l,env,K=>by
  have h:∀env:Env,(λx=>qk P H l (env.put dst x) K)=λx=>runQ P H l (env.put dst x) K:=λenv=>funext λx=>Zz P H l _ K;show @FG (env d) want ⟨@opQ P k H _ ⟨_⟩⟩ ⟨_⟩ ⟨_⟩=_;rw[h,zed,Zz,Zz];rfl
theorem z2d{k:AK}(h:k.still=true):k.eff=none:=by
 cases k<;>first|rfl|(simp[AK.still] at h)
theorem LD{k:AK}{l:List Grp}{xs:List AV}{K:AV->List Grp->Prop}(h:@opG P k l xs ⟨K⟩):if k.eff.isNone then ∃x,QG P k l xs x/\K x l else ∃x l',AF P k (hl l) xs (λy H'=>y=x/\H'=hl l')/\Comm P k l l'/\K x l':=by
 unfold opG at h;split at h
 ·obtain⟨y,h1,h2⟩:=h
  exact⟨y,.inl ⟨_,_,_,rfl,rfl,h1⟩,h2⟩
 ·exact⟨_,.inr (.inl ⟨_,_,_,_,rfl,h.1,h.2.1,h.2.2.1,rfl⟩),h.2.2.2⟩
 ·rcases h with⟨h1,h2,h3⟩|⟨_,h2,ha,ho,h3⟩
  ·rw[z2d h1]
   obtain⟨x,h4,h5⟩:=NI h1 h3;refine⟨x,.inr (.inr ⟨h1,h2,?_⟩),h5⟩;exact still_mono h1 (λ_ _ hh=>hh.1) h4
  ·obtain⟨e,he⟩:=Option.isSome_iff_exists.1 h2
   rw[Ab (by rw[he];simp)];obtain⟨x,l',b1,b2,b3⟩:=zfx he ha ho h3;exact⟨x,l',b1,b3,b2 l' rfl⟩
theorem Kh{x:AV}{w:Bool}{p q r p' q' r':Prop}(hp:p->p')(hq:q->q')(hr:r->r')(h:Hd x w p q r):Hd x w p' q' r':=by
 unfold Hd at h ⊢;split at h<;>first|exact hp h|exact hq h|exact hr h|exact h.elim
theorem NL(P:Program):∀(L:List AOp)(env:Env)(l:List Grp){K:Env->List Grp->Prop},gk P L env l K->runG P L env l K
 |[],_,_,_,h=>h
 |⟨dst,args,none,k⟩::r,env,l,K,h=>by
  have h':@opG P k l (args.map (·.eval env)) ⟨λx l'=>gk P r (env.put dst x) l' K⟩:=h
  have:=LD h';simp only[runG,He,AOp.vals,Bi];split at this
  ·rename_i he
   rw[Ae he];obtain⟨x,h1,h2⟩:=this;exact⟨x,h1,NL P r _ _ h2⟩
  ·rename_i he
   rw[Ab he];obtain⟨x,l',b1,b2,b3⟩:=this;exact⟨x,l',b1,b2,NL P r _ _ b3⟩
 |⟨dst,args,some (d,want),k⟩::r,env,l,K,h=>by
  have h':Hd (env d) want (@opG P k l (args.map (·.eval (env.put (some d) (.bool want)))) ⟨λx l'=>gk P r ((env.put (some d) (.bool want)).put dst x) l' K⟩)
   (gk P r ((env.put (some d) (.bool (!want))).put dst (.tup [])) l K) (gk P r (env.put dst (.tup [])) l K):=h
  simp only[runG,He,AOp.vals,Bi,A8,Bt];refine Kh (λh1=>?_) (λh1=>NL P r _ _ h1) (λh1=>NL P r _ _ h1) h';have:=LD h1;split at this
  ·rename_i he
   obtain⟨x,h1,h2⟩:=this;rw[Ae he];exact⟨x,h1,NL P r _ _ h2⟩
  ·rename_i he
   rw[Ab he];obtain⟨x,l',b1,b2,b3⟩:=this;exact⟨x,l',b1,b2,NL P r _ _ b3⟩
theorem zee{l l':List Grp}(h:hl l=hl l'):l=l':=by
 have h1:l.length=l'.length:=Dl A5.n h;refine Cm h1 λi hi hi'=>?_;have h2:(hl l).at_ i=(hl l').at_ i:=by rw[h]
 rw[Dr,Dr] at h2;simpa [List.getD,hi,hi'] using h2
theorem W_T:∀{c:AC}{env:Env}{H:A5}{Q:Ex->Env->A5->Prop},W P n b c env H Q->T P n b c env H Q
 |.skip,_,_,_,h=>zkr h
 |.reg ops,env,H,Q,h=>T_reg (by have h':wk P ops env H _:=h;rwa [LC] at h')
 |.dreg ops,env,H,Q,h=>zks (by have h':qk P H ops env _:=h;rwa [Zz] at h')
 |.dtl pre post,env,H,Q,h=>T_dtl (by
  have h':qk P H pre env _:=h;rw[Zz] at h';have e:(λenv'=>wk P post env' H λenv' H'=>Q .normal env' H')=λenv'=>runK P post env' H λenv' H'=>Q .normal env' H':=funext λenv'=>LC P post env' H _
  rwa [e] at h')
 |.greg ops,env,H,Q,h=>by
  obtain⟨l,rfl,h'⟩:=h;exact zkt (NL P ops env l h')
 |.grx ..,_,_,_,h=>h
 |.gry ..,_,_,_,h=>h
 |.seq x y,_,_,_,h=>BG (T.mono (W_T (c:=x) h) λz env H hh=>by cases z<;>first|exact W_T (c:=y) hh|exact hh)
 |.cond c x y,env,H,Q,h=>by
  have h':V5 (c.eval env) (W P n b x env H Q) (W P n b y env H Q):=h;unfold V5 at h';split at h'
  ·rename_i q hq;exact zkv hq (λhb=>W_T (h'.1 hb)) (λhb=>W_T (h'.2 hb))
  ·exact h'.elim
 |.block id c,_,_,_,h=>Es (W_T (c:=c) h)
 |.loop c,_,_,_,h=>h
 |.rng ..,_,_,_,h=>h
 |.exit id,_,_,_,h=>zkw h
 |.ret,_,_,_,h=>T_ret h
end
section
variable {P:Program}{n b:Nat}{env:Env}{H:A5}{Q:Ex->Env->A5->Prop}{K:Env->A5->Prop}
theorem z1:W P n b .skip env H Q=Q .normal env H:=(rfl)
theorem z2{ops:List AOp}:W P n b (.reg ops) env H Q=wk P ops env H λenv' H'=>Q .normal env' H':=(rfl)
theorem z3{ops:List AOp}:W P n b (.dreg ops) env H Q=qk P H ops env λenv'=>Q .normal env' H:=(rfl)
theorem z4{pre post:List AOp}:W P n b (.dtl pre post) env H Q=qk P H pre env λenv'=>wk P post env' H λenv' H'=>Q .normal env' H':=(rfl)
theorem z5{ops:List AOp}{l:List Grp}:W P n b (.greg ops) env (hl l) Q=gk P ops env l λenv' l'=>Q .normal env' (hl l') :=
 propext ⟨λ⟨l',h1,h2⟩=>by rw[<-zee h1] at h2;exact h2,λh=>⟨l,rfl,h⟩⟩
theorem z18{l:List Grp}{K:Env->List Grp->Prop}:gk P [] env l K=K env l:=(rfl)
theorem z19{l:List Grp}{K:Env->List Grp->Prop}{dst:Option Nat}{args:List AArg}{k:AK}{r:List AOp}:gk P (⟨dst,args,none,k⟩::r) env l K=@opG P k l (args.map (·.eval env)) ⟨λx l'=>gk P r (env.put dst x) l' K⟩:=(rfl)
theorem z20{l:List Grp}{K:Env->List Grp->Prop}{dst:Option Nat}{args:List AArg}{k:AK}{r:List AOp}{d:Nat}{want:Bool}:gk P (⟨dst,args,some (d,want),k⟩::r) env l K=@FG (env d) want
 ⟨@opG P k l (args.map (·.eval (env.put (some d) (.bool want)))) ⟨λx l'=>gk P r ((env.put (some d) (.bool want)).put dst x) l' K⟩⟩
 ⟨gk P r ((env.put (some d) (.bool (!want))).put dst (.tup [])) l K⟩ ⟨gk P r (env.put dst (.tup [])) l K⟩:=(rfl)
theorem z6{x y:AC}:W P n b (.seq x y) env H Q=W P n b x env H (Ex.then (λenv' H'=>W P n b y env' H' Q) Q):=(rfl)
theorem z7{c:AArg}{x y:AC}:W P n b (.cond c x y) env H Q=@V6 (c.eval env) ⟨W P n b x env H Q⟩ ⟨W P n b y env H Q⟩:=(rfl)
theorem z8{id:Nat}{c:AC}:W P n b (.block id c) env H Q=W P n b c env H (Ex.inBlock id Q):=(rfl)
theorem z9{c:AC}:W P n b (.loop c) env H Q=@Kg ⟨T P n b (.loop c) env H Q⟩:=(rfl)
theorem z34{f:AArg}{ps:List Nat}{a c:AC}:W P n b (.rng f ps a c) env H Q=@Kg ⟨T P n b (.rng f ps a c) env H Q⟩:=(rfl)
theorem z35{fl:List Bool}{ops:List AOp}:W P n b (.grx fl ops) env H Q=@Kg ⟨T P n b (.grx fl ops) env H Q⟩:=(rfl)
theorem z36{fl:List Bool}{ops:List AOp}:W P n b (.gry fl ops) env H Q=@Kg ⟨T P n b (.gry fl ops) env H Q⟩:=(rfl)
theorem z10{id:Nat}:W P n b (.exit id) env H Q=Q (.exit id) env H:=(rfl)
theorem z11:W P n b .ret env H Q=Q .ret env H:=(rfl)
theorem z12:wk P [] env H K=K env H:=(rfl)
theorem z13{dst:Option Nat}{args:List AArg}{k:AK}{l:List AOp}:wk P (⟨dst,args,none,k⟩::l) env H K=@opK P k H (args.map (·.eval env)) ⟨λx H'=>wk P l (env.put dst x) H' K⟩:=(rfl)
theorem z14{dst:Option Nat}{args:List AArg}{k:AK}{l:List AOp}{d:Nat}{want:Bool}:wk P (⟨dst,args,some (d,want),k⟩::l) env H K=@FG (env d) want
 ⟨@opK P k H (args.map (·.eval (env.put (some d) (.bool want)))) ⟨λx H'=>wk P l ((env.put (some d) (.bool want)).put dst x) H' K⟩⟩
 ⟨wk P l ((env.put (some d) (.bool (!want))).put dst (.tup [])) H K⟩ ⟨wk P l (env.put dst (.tup [])) H K⟩:=(rfl)
theorem z15{K:Env->Prop}:qk P H [] env K=K env:=(rfl)
theorem z16{K:Env->Prop}{dst:Option Nat}{args:List AArg}{k:AK}{l:List AOp}:qk P H (⟨dst,args,none,k⟩::l) env K=@opQ P k H (args.map (·.eval env)) ⟨λx=>qk P H l (env.put dst x) K⟩:=(rfl)
theorem z17{K:Env->Prop}{dst:Option Nat}{args:List AArg}{k:AK}{l:List AOp}{d:Nat}{want:Bool}:qk P H (⟨dst,args,some (d,want),k⟩::l) env K=@FG (env d) want
 ⟨@opQ P k H (args.map (·.eval (env.put (some d) (.bool want)))) ⟨λx=>qk P H l ((env.put (some d) (.bool want)).put dst x) K⟩⟩
 ⟨qk P H l ((env.put (some d) (.bool (!want))).put dst (.tup [])) K⟩ ⟨qk P H l (env.put dst (.tup [])) K⟩:=(rfl)
theorem z21{p q r:Prop}:@FG (.bool true) true ⟨p⟩ ⟨q⟩ ⟨r⟩=p:=(rfl)
theorem z22{p q r:Prop}:@FG (.bool false) false ⟨p⟩ ⟨q⟩ ⟨r⟩=p:=(rfl)
theorem z23{p q r:Prop}:@FG (.bool true) false ⟨p⟩ ⟨q⟩ ⟨r⟩=q:=(rfl)
theorem z24{p q r:Prop}:@FG (.bool false) true ⟨p⟩ ⟨q⟩ ⟨r⟩=q:=(rfl)
theorem z25{w:Bool}{p q r:Prop}:@FG (.tup []) w ⟨p⟩ ⟨q⟩ ⟨r⟩=r:=by cases w<;>rfl
theorem Ms{b w:Bool}{p q r:Prop}(hp:b=w->p)(hq:b=(!w)->q):@FG (.bool b) w ⟨p⟩ ⟨q⟩ ⟨r⟩:=To hp hq
theorem z26{p q:Prop}:@V6 (.bool true) ⟨p⟩ ⟨q⟩=p:=by simp[V6,V5]
theorem z27{p q:Prop}:@V6 (.bool false) ⟨p⟩ ⟨q⟩=q:=by simp[V6,V5]
theorem NM{b:Bool}{p q:Prop}(hp:b=true->p)(hq:b=false->q):@V6 (.bool b) ⟨p⟩ ⟨q⟩:=⟨hp,hq⟩
end
theorem NN{P:Program}{env:Env}{H:A5}:∀{res:List ARes}{K K':List AV->Prop},(∀xs,K xs->K' xs)->resK P res env H K->resK P res env H K'
 |[],_,_,hk,h=>hk _ h
 |.slot t::l,_,_,hk,h=>NN (res:=l) (λxs hh=>hk _ hh) h
 |.cell t a s::l,_,_,hk,h=>still_mono (k:=.load a s) rfl (λx _ hh=>NN (res:=l) (λxs hh=>hk _ hh) hh) h
theorem RA{P:Program}{res:List ARes}{K K':AV->A5->Prop}(hk:∀z H,K z H->K' z H){x:Ex}{env:Env}{H:A5}(h:Ret P res K x env H):Ret P res K' x env H:=⟨h.1,NN (λxs hh=>hk _ _ hh) h.2⟩
end Go.Proofs.YtflibbceibjddaaGreat.Abs
