/-
  Parts of the proof that the law holds whatever the input; without conditions.
-/
import Derived.LoopNIn
import Derived.Test.YtbcjoeadpjfcfaaGreatEK3
import Derived.Test.YtbcjoeadpjfcfaaGreatEK2
set_option linter.unusedSimpArgs false
set_option linter.unusedVariables false
namespace Go.Proofs.YtbcjoeadpjfcfaaGreat
open Abs
def memL(l:List Span)(x:Int):Prop:=∃s∈l,s.lo<=x/\x<=s.hi
theorem Cw(x:Int):¬memL [] x:=λ⟨s,hs,_⟩=>by cases hs
theorem B3{s:Span}{l:List Span}{x:Int}:memL (s::l) x↔(s.lo<=x/\x<=s.hi)\/memL l x:=by
 constructor
 ·rintro⟨t,ht,hx⟩
  rcases Ag.1 ht with rfl|ht
  ·exact .inl hx
  ·exact .inr ⟨t,ht,hx⟩
 ·rintro (hx|⟨t,ht,hx⟩)
  ·exact⟨s,by simp,hx⟩
  ·exact⟨t,by simp[ht],hx⟩
theorem FG{l m:List Span}{x:Int}:memL (l++m) x↔memL l x\/memL m x:=by
 constructor
 ·rintro⟨t,ht,hx⟩
  rcases Au.1 ht with ht|ht
  ·exact .inl ⟨t,ht,hx⟩
  ·exact .inr ⟨t,ht,hx⟩
 ·rintro (⟨t,ht,hx⟩|⟨t,ht,hx⟩)
  ·exact⟨t,by simp[ht],hx⟩
  ·exact⟨t,by simp[ht],hx⟩
def Plain(l:List Span):Prop:=(∀s∈l,s.lo<=s.hi)/\l.Pairwise λs t=>s.hi+1<t.lo
theorem Plain.tail{s:Span}{l:List Span}(h:Plain (s::l)):Plain l:=⟨λt ht=>h.1 t (by simp[ht]),(AW.1 h.2).2⟩
theorem Plain.head{s:Span}{l:List Span}(h:Plain (s::l)):s.lo<=s.hi:=h.1 s (by simp)
theorem Plain.after{s:Span}{l:List Span}(h:Plain (s::l)){x:Int}(hx:memL l x):s.hi+1<x:=by
 obtain⟨t,ht,h1,h2⟩:=hx;have:=(AW.1 h.2).1 t ht;omega
theorem Jn:∀{a b:List Span},Plain a->Plain b->(∀x,memL a x↔memL b x)->a=b
 |[],[],_,_,_=>rfl
 |[],t::b,_,hb,h=>absurd ((h t.lo).2 (B3.2 (.inl ⟨BY _,hb.head⟩))) (Cw _)
 |s::a,[],ha,_,h=>absurd ((h s.lo).1 (B3.2 (.inl ⟨BY _,ha.head⟩))) (Cw _)
 |s::a,t::b,ha,hb,h=>by
  have hs:=ha.head;have ht:=hb.head
  have key:∀{s t:Span}{a b:List Span},Plain (s::a)->Plain (t::b)->(∀x,memL (s::a) x↔memL (t::b) x)->t.lo<=s.lo:=λ{s t a b} ha hb h=>by
   rcases B3.1 ((h s.lo).1 (B3.2 (.inl ⟨BY _,ha.head⟩))) with hh|hh
   ·exact hh.1
   ·have:=hb.after hh;have:=hb.head;omega
  have hlo:s.lo=t.lo:=Int.le_antisymm (key hb ha λx=>(h x).symm) (key ha hb h)
  have key2:∀{s t:Span}{a b:List Span},Plain (s::a)->Plain (t::b)->(∀x,memL (s::a) x↔memL (t::b) x)->s.lo=t.lo->t.hi<=s.hi:=λ{s t a b} ha hb h e=>by
   have:=ha.head;rcases Em s.hi t.hi with hlt|hle
   ·rcases B3.1 ((h (s.hi+1)).2 (B3.2 (.inl ⟨by omega,by omega⟩))) with hh|hh
    ·omega
    ·have:=ha.after hh;omega
   ·exact hle
  have hhi:s.hi=t.hi:=Int.le_antisymm (key2 hb ha (λx=>(h x).symm) hlo.symm) (key2 ha hb h hlo);have hst:s=t:=by cases s;cases t;simp_all
  subst hst;refine EL _ (Jn ha.tail hb.tail λx=>⟨λhx=>?_,λhx=>?_⟩)
  ·rcases B3.1 ((h x).1 (B3.2 (.inr hx))) with hh|hh
   ·have:=ha.after hx;omega
   ·exact hh
  ·rcases B3.1 ((h x).2 (B3.2 (.inr hx))) with hh|hh
   ·have:=hb.after hx;omega
   ·exact hh
def ES(out:List Span)(x:Span):List Span :=
 match out.getLast? with
 |some y=>if x.lo<=y.hi+1 then out.dropLast++[⟨y.lo,max y.hi x.hi⟩] else out++[x]
 |none=>[x]
theorem GL(x:Span):ES [] x=[x]:=rfl
theorem Kt(out:List Span)(y x:Span):ES (out++[y]) x=if x.lo<=y.hi+1 then out++[⟨y.lo,max y.hi x.hi⟩] else out++[y]++[x]:=by
 simp[ES]
theorem GM(l:List Span):l=[]\/∃m y,l=m++[y]:=by
 rcases List.eq_nil_or_concat l with h|⟨m,y,h⟩
 ·exact .inl h
 ·exact .inr ⟨m,y,by simpa using h⟩
theorem Ht{m:List Span}{y:Span}:Plain (m++[y])↔Plain m/\y.lo<=y.hi/\∀s∈m,s.hi+1<y.lo:=by
 simp only[Plain,Dt,Au,As,D4,EN,or_imp,forall_and,EM];constructor
 ·rintro⟨⟨h1,h2⟩,h3,h4⟩;exact⟨⟨h1,h3⟩,h2,h4⟩
 ·rintro⟨⟨h1,h3⟩,h2,h4⟩;exact⟨⟨h1,h2⟩,h3,h4⟩
def Before(l:List Span)(x:Int):Prop:=∀s∈l,s.lo<=x
theorem UD{out:List Span}{x:Span}(h:Plain out)(hx:x.lo<=x.hi)(hb:Before out x.lo):Plain (ES out x)/\Before (ES out x) x.lo/\∀v,memL (ES out x) v↔memL out v\/(x.lo<=v/\v<=x.hi):=by
 rcases GM out with rfl|⟨m,y,rfl⟩
 ·refine⟨⟨by simp[GL,hx],by simp[GL]⟩,by simp[GL,Before],λv=>?_⟩
  rw[GL,B3];constructor
  ·rintro (h|h)
   ·exact .inr h
   ·exact absurd h (Cw _)
  ·rintro (h|h)
   ·exact absurd h (Cw _)
   ·exact .inl h
 ·rw[Kt]
  obtain⟨h1,h2,h3⟩:=Ht.1 h;have hy:y.lo<=x.lo:=hb y (by simp);split
  ·rename_i hle
   refine⟨Ht.2 ⟨h1,by simp only;omega,λs hs=>h3 s hs⟩,?_,λv=>?_⟩
   ·intro s hs
    rcases Au.1 hs with hs|hs
    ·exact hb s (by simp[hs])
    ·simp only[As] at hs;subst hs;exact hy
   ·rw[FG,FG,B3,B3]
    simp only[Cw,A5];constructor
    ·rintro (h|h)
     ·exact .inl (.inl h)
     ·by_cases hv:v<=y.hi
      ·exact .inl (.inr ⟨h.1,hv⟩)
      ·exact .inr ⟨by omega,by omega⟩
    ·rintro ((h|h)|h)
     ·exact .inl h
     ·exact .inr ⟨h.1,by omega⟩
     ·exact .inr ⟨by omega,by omega⟩
  ·rename_i hle
   refine⟨Ht.2 ⟨h,hx,λs hs=>?_⟩,?_,λv=>?_⟩
   ·rcases Au.1 hs with hs|hs
    ·have:=h3 s hs;omega
    ·simp only[As] at hs;subst hs;omega
   ·intro s hs
    rcases Au.1 hs with hs|hs
    ·exact hb s hs
    ·simp only[As] at hs;subst hs;exact BY _
   ·rw[FG,B3]
    simp only[Cw,A5]
theorem Iw:∀(l out:List Span),Plain out->(∀s∈l,s.lo<=s.hi)->l.Pairwise (λa b=>a.lo<=b.lo)->(∀s∈l,Before out s.lo)->Plain (l.foldl ES out)/\∀v,memL (l.foldl ES out) v↔memL out v\/memL l v
 |[],out,h,_,_,_=>⟨h,λv=>by simp only[List.foldl_nil,Cw,A5]⟩
 |x::l,out,h,h1,h2,h3=>by
  obtain⟨p1,p2,p3⟩:=UD h (h1 x (by simp)) (h3 x (by simp));rw[AW] at h2;obtain⟨q1,q2⟩:=Iw l (ES out x) p1 (λs hs=>h1 s (by simp[hs])) h2.2 (λs hs t ht=>Int.le_trans (p2 t ht) (h2.1 s hs));refine⟨q1,λv=>?_⟩;rw[List.foldl_cons,q2 v,p3 v,B3,or_assoc]
theorem YF(out:List Span)(x:Span):(ES out x).length<=out.length+1:=by
 rcases GM out with rfl|⟨m,y,rfl⟩
 ·simp[GL]
 ·rw[Kt];split<;>simp
theorem QP:∀(l out:List Span),(l.foldl ES out).length<=out.length+l.length
 |[],out=>by simp
 |x::l,out=>by
  have h1:=QP l (ES out x);have h2:=YF out x;simp only[List.foldl_cons,List.length_cons];omega
def Ku(s:Span):Span:=⟨max s.lo (-1073741824),min s.hi 1073741824⟩
def inN(l:List Span):List Span:=(l.map Ku).filter λs=>decide (s.lo<=s.hi)
theorem z2c{l:List Span}{x:Int}:memL (inN l) x↔memL l x/\-1073741824<=x/\x<=1073741824:=by
 constructor
 ·rintro⟨s,hs,h1,h2⟩
  simp only[inN,AX,Aq] at hs;obtain⟨⟨t,ht,rfl⟩,_⟩:=hs;simp only[Ku] at h1 h2;exact⟨⟨t,ht,by omega,by omega⟩,by omega,by omega⟩
 ·rintro⟨⟨t,ht,h1,h2⟩,h3,h4⟩
  refine⟨Ku t,?_,by simp only[Ku];omega,by simp only[Ku];omega⟩;simp only[inN,AX,Aq,Aj];exact⟨⟨t,ht,rfl⟩,by simp only[Ku];omega⟩
theorem Wo{l:List Span}:∀s∈inN l,s.lo<=s.hi:=λs hs=>by
 simp only[inN,AX,Aj] at hs;exact hs.2
theorem ND{l m:List Span}(h:l.Perm m)(x:Int):memL l x↔memL m x :=
 ⟨λ⟨s,hs,hx⟩=>⟨s,h.mem_iff.1 hs,hx⟩,λ⟨s,hs,hx⟩=>⟨s,h.mem_iff.2 hs,hx⟩⟩
def BI(l:List Span):List Span:=((inN l).mergeSort λa b=>decide (a.lo<=b.lo)).foldl ES []
theorem z8v{l m:List Span}(hp:m.Perm (inN l))(hs:m.Pairwise λa b=>a.lo<=b.lo):m.foldl ES []=BI l:=by
 have hq:((inN l).mergeSort λa b=>decide (a.lo<=b.lo)).Perm (inN l):=List.mergeSort_perm _ _
 have hs':((inN l).mergeSort λa b=>decide (a.lo<=b.lo)).Pairwise λa b=>a.lo<=b.lo:=by
  have:=List.pairwise_mergeSort (le:=λa b:Span=>decide (a.lo<=b.lo)) (λa b c h1 h2=>by simp at *;omega) (λa b=>by simp;omega) (inN l);simpa using this
 obtain⟨a1,a2⟩:=Iw m [] ⟨by simp,by simp⟩ (λs h=>Wo s (hp.mem_iff.1 h)) hs (λs _ t ht=>by cases ht);obtain⟨b1,b2⟩:=Iw _ [] ⟨by simp,by simp⟩ (λs h=>Wo s (hq.mem_iff.1 h)) hs' (λs _ t ht=>by cases ht);refine Jn a1 b1 λx=>?_;rw[BI,a2 x,b2 x,ND hp x,ND hq x]
theorem BD(l:List Span):Plain (BI l)/\∀x,memL (BI l) x↔memL l x/\-1073741824<=x/\x<=1073741824:=by
 have hq:((inN l).mergeSort λa b=>decide (a.lo<=b.lo)).Perm (inN l):=List.mergeSort_perm _ _
 have hs':((inN l).mergeSort λa b=>decide (a.lo<=b.lo)).Pairwise λa b=>a.lo<=b.lo:=by
  have:=List.pairwise_mergeSort (le:=λa b:Span=>decide (a.lo<=b.lo)) (λa b c h1 h2=>by simp at *;omega) (λa b=>by simp;omega) (inN l);simpa using this
 obtain⟨b1,b2⟩:=Iw _ [] ⟨by simp,by simp⟩ (λs h=>Wo s (hq.mem_iff.1 h)) hs' (λs _ t ht=>by cases ht);refine⟨b1,λx=>?_⟩;rw[BI,b2 x,ND hq x,z2c];simp only[Cw,Bg]
theorem UE(l:List Span):(inN l).length<=l.length:=by
 have:=B7 (λs:Span=>decide (s.lo<=s.hi)) (l.map Ku);simpa [inN] using this
theorem FV(l:List Span):(BI l).length<=l.length:=by
 have h1:=QP ((inN l).mergeSort λa b=>decide (a.lo<=b.lo)) [];have h2:=UE l;rw[List.length_mergeSort] at h1;simp only[List.length_nil] at h1;rw[BI];omega
end Go.Proofs.YtbcjoeadpjfcfaaGreat
namespace Go.Proofs.YtbcjoeadpjfcfaaGreat.Abs
mutual
def valOf:AV->Value
 |.int k a=>.int k a
 |.bool b=>.bool b
 |.agg xs=>.agg (zc3 xs).toArray
 |_=>undef
def zc3:List AV->List Value
 |[]=>[]
 |x::xs=>valOf x::zc3 xs
end
def Flat(x:AV):Prop:=∀S:MS,VRel S x (valOf x)
abbrev encI(r:List AV):Array Value:=(r.map valOf).toArray
def Clo(J:Nat->(Nat->Prop)->World->Prop):Prop :=
 ∀k O W W',J k O W->W'.os=W.os->Kh W' W->W'.output=W.output->W.heap.size<=W'.heap.size ->
  (∀b,b<W.heap.size->¬O b->W'.heap[b]? = W.heap[b]?)->J k (λb=>O b\/(W.heap.size<=b/\b<W'.heap.size)) W'
def SO(P:Program)(gf:Nat)(caps:List AV)(rows:List (List AV)):Prop :=
 Enters P gf/\∀(m l:Nat)(S:MS)(lb:List Value)(J Jx:Nat->(Nat->Prop)->World->Prop),
  SRel S A7.nil->AI S caps lb->Clo J->Clo Jx->J 0 (λ_=>False) S.w ->
  (∀k O W,J k O W\/Jx k O W->(∀b,S.im b->¬O b/\W.heap[b]? = S.w.heap[b]?)/\(W.os=S.w.os/\Kh W S.w/\W.output=S.w.output)/\S.w.heap.size<=W.heap.size/\∀b,O b->S.w.heap.size<=b/\b<W.heap.size) ->
  (∀k row O W,rows[k]? = some row->J k O W->YieldAt Fence.wide m P l (encI row) W λe W'=>W.heap.size<=W'.heap.size/\(∀b,O b->W'.heap[b]? = W.heap[b]?)/\(e=.returned (.bool true)/\J (k+1) O W'\/e=.returned (.bool false)/\Jx (k+1) O W')) ->
  CallsIn Fence.wide (m+1) P gf (#[.func (.yield l) #[] #[]]++lb.toArray) S.w λe W'=>(∃v,e=.returned v)/\((∃O,J rows.length O W')\/∃k O,Jx k O W')
def setL:Env->List Nat->List AV->Env
 |env,p::ps,x::r=>setL (env.put (some p) x) ps r
 |env,_,_=>env
section
variable {P:Program}{n b:Nat}{env:Env}{H:A7}{Q:Ex->Env->A7->Prop}
theorem SRel.turn2{S S':MS}{H:A7}(h:SRel S H)(hw:∀b,S.im b->S'.w.heap[b]? = S.w.heap[b]?)(hi:S'.im=S.im)(hn:S'.n=S.n)(hc:S'.cur=S.cur)(hp:S'.place=S.place)(hcap:S'.cap=S.cap)(hwid:S'.wid=S.wid)
 (hk:∀b,S'.keep b->S.keep b\/S.w.heap.size<=b) (hkb:∀b,S'.keep b->b<S'.w.heap.size) (hg:∀b,¬(S.im b\/S.keep b)->b<S.w.heap.size->S'.w.heap[b]? = S.w.heap[b]?) (hsz:S.w.heap.size<=S'.w.heap.size):SRel S' H:=by
 have ev:=Evi.of hw hi hn hc hp hcap hwid;refine⟨hn.trans h.n,λg hgn=>?_,λg g' h1 h2 h3 h4 h5=>?_,λb hb=>?_⟩
 ·have hG:=h.grp g hgn
  have hni:¬(S.im (S.place g)\/S.keep (S.place g))->S.place g<S.w.heap.size->¬(S'.im (S'.place g)\/S'.keep (S'.place g)):=λhn hlt hh=>by
   rw[hi,hp] at hh;rcases hh with hh|hh
   ·exact hn (.inl hh)
   ·rcases hk _ hh with hh|hh
    ·exact hn (.inr hh)
    ·omega
  refine⟨by rw[hc];exact hG.ver,by rw[hwid];exact hG.wid,λhw0 hc0=>?_,λhw0=>by rw[hcap];exact hG.len hw0,λhw0 he=>by rw[hcap];exact hG.full hw0 he,λhw0 he=>?_⟩
  ·rw[hcap] at hc0 ⊢
   obtain⟨⟨cells,T,vs,a1,a2,a3,a4⟩,a5⟩:=hG.live hw0 hc0;exact⟨⟨cells,T,vs,by rw[hp,hg _ a5 (hG.lt hw0 hc0)];exact a1,a2,AI.moni ev _ a3,a4⟩,hni a5 (hG.lt hw0 hc0)⟩
  ·obtain⟨⟨es,clock,a1,a2⟩,a5⟩:=hG.mlive hw0 he
   exact⟨⟨es,clock,by rw[hp,hg _ a5 (hG.mlt hw0 he)];exact a1,AI.moni ev _ a2⟩,hni a5 (hG.mlt hw0 he)⟩
 ·rw[hp]
  rw[hcap] at h4 h5;exact h.apart g g' h1 h2 h3 h4 h5
 ·rcases hb with hb|hb
  ·rw[hi] at hb;exact Bb (h.im b (.inl hb)) hsz
  ·exact hkb b hb
theorem Wp{S:MS}{ds:List Deferred}(hd:Marks S ds):∀{ps:List Nat}{row:List AV}{env:Env}{tmps:Array Value}{ds':List Deferred},FRel S n env { tmps:=tmps,defers:=ds' }->(∀p∈ps,p<n)->(∀x∈row,Flat x) ->
 FRel S n (setL env ps row) { tmps:=(ps.zip (row.map valOf)).foldl (λt (p,v)=>t.setIfInBounds p v) tmps,defers:=ds }
 |[],row,env,tmps,_,hF,_,_=>by
  rw[show setL env [] row=env from by cases row<;>rfl];exact⟨hF.size,hd,hF.val⟩
 |p::ps,[],env,tmps,_,hF,_,_=>⟨hF.size,hd,hF.val⟩
 |p::ps,x::row,env,tmps,ds',hF,hp,hx=>by
  have:=hF.put (dst:=some p) (by simpa using hp p (by simp)) (x:=x) (v:=valOf x) (hx x (by simp) S);exact Wp hd (ps:=ps) (row:=row) this (λq hq=>hp q (by simp[hq])) (λy hy=>hx y (by simp[hy]))
def codeOf:Ex->Code
 |.normal=>.skip
 |.exit id=>.exit id
 |.ret=>.ret
structure Lo(S:MS)(rec:LoopState->Option Code->Loop)(W1:Nat)(st:LoopState)(pe:Option Code)(O:Nat->Prop)(S':MS)(H':A7):Prop where
 evo:Evo S S'
 rel:SRel S' H'
 own:∀b,O b->S'.keep b/\¬S'.im b/\W1<=b/\b<S'.w.heap.size
 size:W1<=S'.w.heap.size
 loop:S'.w.heap[S.w.heap.size+1]? = some (.loop (rec st pe))
 defd:S'.w.heap[S.w.heap.size]? = some (.deferred (some []))
 k1:S'.keep S.w.heap.size/\¬S'.im S.w.heap.size
 k2:S'.keep (S.w.heap.size+1)/\¬S'.im (S.w.heap.size+1)
theorem Lo.clo{S S':MS}{rec:LoopState->Option Code->Loop}{st:LoopState}{pe:Option Code}{O:Nat->Prop}{H':A7}(hS:∀b,S.im b\/S.keep b->b<S.w.heap.size)(h:Lo S rec (S.w.heap.size+2) st pe O S' H'){W':World}
 (h1:W'.os=S'.w.os) (h2:Kh W' S'.w) (h3:W'.output=S'.w.output) (h4:S'.w.heap.size<=W'.heap.size) (h5:∀b,b<S'.w.heap.size->¬O b->W'.heap[b]? = S'.w.heap[b]?) :
 ∃S'':MS,S''.w=W'/\Lo S rec (S.w.heap.size+2) st pe (λb=>O b\/(S'.w.heap.size<=b/\b<W'.heap.size)) S'' H':=by
 obtain⟨S'',hd⟩:∃S'':MS,S''={ S' with w:=W',keep:=λb=>S'.keep b\/(S'.w.heap.size<=b/\b<W'.heap.size) }:=⟨_,rfl⟩;have him:∀b,S'.im b->b<S'.w.heap.size:=λb hb=>h.rel.im b (.inl hb);have hio:∀b,S'.im b->¬O b:=λb hb ho=>(h.own b ho).2.1 hb;have hlt:∀b,S.im b\/S.keep b->¬O b:=λb hb ho=>by have:=(h.own b ho).2.2.1;have:=hS b hb;omega
 have hsz:=h.size;refine⟨S'',by rw[hd],?_⟩
 have hrel:SRel S'' H':=by
  subst hd
  exact h.rel.turn2 (λb hb=>h5 b (him b hb) (hio b hb)) rfl rfl rfl rfl rfl rfl (λb hb=>hb.imp id And.left) (λb hb=>hb.elim (λhh=>Bb (h.rel.im b (.inr hh)) h4) And.right)
   (λb hb hl=>h5 b hl (λho=>hb (.inr (h.own b ho).1))) h4
 have hevo:Evo S S'':=by
  have e:=h.evo;subst hd;refine⟨e.base,h1.trans e.os,h2.trans e.tape,h3.trans e.output,Bm e.size h4,λb hb=>?_,e.im,λb hb=>.inl (e.keep b hb),e.fresh,e.n,e.cur,e.same⟩;exact (h5 b (Bb (hS b hb) e.size) (hlt b hb)).trans (e.kept b hb)
 have hw:S''.w=W':=by rw[hd]
 have hkeep:S''.keep=λb=>S'.keep b\/(S'.w.heap.size<=b/\b<W'.heap.size):=by rw[hd]
 have himm:S''.im=S'.im:=by rw[hd]
 have hnO:∀b,b<S.w.heap.size+2->¬O b:=λb hb ho=>by have:=(h.own b ho).2.2.1;omega
 refine⟨hevo,hrel,λb hb=>?_,by rw[hw];omega,?_,?_,?_,?_⟩
 ·rw[hkeep,himm,hw]
  rcases hb with hb|⟨hb1,hb2⟩
  ·obtain⟨q1,q2,q3,q4⟩:=h.own b hb
   exact⟨.inl q1,q2,q3,by omega⟩
  ·exact⟨.inr ⟨hb1,hb2⟩,λhi=>by have:=him b hi;omega,by omega,hb2⟩
 ·rw[hw,h5 _ (by omega) (hnO _ (by omega))];exact h.loop
 ·rw[hw,h5 _ (by omega) (hnO _ (by omega))];exact h.defd
 ·rw[hkeep,himm];exact⟨.inl h.k1.1,h.k1.2⟩
 ·rw[hkeep,himm];exact⟨.inl h.k2.1,h.k2.2⟩
theorem Lo.turn{S S':MS}{rec:LoopState->Option Code->Loop}{st:LoopState}{pe:Option Code}{O:Nat->Prop}{H':A7}(hS:∀b,S.im b\/S.keep b->b<S.w.heap.size)(h:Lo S rec (S.w.heap.size+2) st pe O S' H')(st':LoopState)(pe':Option Code):
 ∃S'':MS,S''.w=S'.w.putObj (S.w.heap.size+1) (.loop (rec st' pe'))/\Lo S rec (S.w.heap.size+2) st' pe' O S'' H'/\Evi S' S''/\S''.n=S'.n/\S''.base=S'.base/\S''.keep=S'.keep/\S''.im=S'.im:=by
 obtain⟨S'',hd⟩:∃S'':MS,S''={ S' with w:=S'.w.putObj (S.w.heap.size+1) (.loop (rec st' pe')) }:=⟨_,rfl⟩;have hne:∀b,S'.im b->b≠S.w.heap.size+1:=λb hb hh=>h.k2.2 (hh ▸ hb);have hsz:=h.size;have hw:S''.w=S'.w.putObj (S.w.heap.size+1) (.loop (rec st' pe')):=by rw[hd]
 refine⟨S'',hw,⟨?_,?_,λb hb=>?_,by rw[hw,World.putObj_size];exact hsz,?_,?_,?_,?_⟩,?_,by rw[hd],by rw[hd],by rw[hd],by rw[hd]⟩
 ·have e:=h.evo
  subst hd;refine⟨e.base,e.os,e.tape,e.output,by show _<=(World.putObj _ _ _).heap.size;rw[World.putObj_size];exact e.size,λb hb=>?_,e.im,e.keep,e.fresh,e.n,e.cur,e.same⟩;show (World.putObj _ _ _).heap[b]? = _;rw[World.putObj_heap_other (by have:=hS b hb;omega)];exact e.kept b hb
 ·subst hd
  refine h.rel.turn (λb hb=>World.putObj_heap_other (hne b hb)) rfl rfl rfl rfl rfl rfl (λ_ h=>h) (λb hb _=>World.putObj_heap_other λhh=>hb (.inr (hh ▸ h.k2.1))) (by show _<=(World.putObj _ _ _).heap.size;rw[World.putObj_size];exact Ae _)
 ·obtain⟨q1,q2,q3,q4⟩:=h.own b hb
  rw[hd];exact⟨q1,q2,q3,by show _<(World.putObj _ _ _).heap.size;rw[World.putObj_size];exact q4⟩
 ·rw[hw];exact World.putObj_heap_same (by omega)
 ·rw[hw,World.putObj_heap_other (by omega)];exact h.defd
 ·rw[hd];exact h.k1
 ·rw[hd];exact h.k2
 ·subst hd
  exact Evi.of (λb hb=>World.putObj_heap_other (hne b hb)) rfl rfl rfl rfl rfl rfl
theorem Lo.on{S S' S2:MS}{rec:LoopState->Option Code->Loop}{W1:Nat}{st:LoopState}{pe:Option Code}{O:Nat->Prop}{H' H2:A7}(h:Lo S rec W1 st pe O S' H')(e:BEvo S.n S' S2)(hr:SRel S2 H2):Lo S rec W1 st pe O S2 H2/\∀b,O b->S2.w.heap[b]? = S'.w.heap[b]? := by
 have hk:∀b,S'.keep b->¬S'.im b->S2.keep b/\¬S2.im b/\S2.w.heap[b]? = S'.w.heap[b]? := λb h1 h2=>⟨e.keep b h1,λhi=>(e.fresh b hi).elim h2 (λhh=>hh h1),e.kept b (.inr h1)⟩;refine⟨⟨((h.evo.down (Ae _)).trans e).up,hr,λb hb=>?_,Bm h.size e.size,?_,?_,?_,?_⟩,λb hb=>?_⟩
 ·obtain⟨q1,q2,q3,q4⟩:=h.own b hb
  obtain⟨r1,r2,_⟩:=hk b q1 q2;exact⟨r1,r2,q3,Bb q4 e.size⟩
 ·rw[(hk _ h.k2.1 h.k2.2).2.2];exact h.loop
 ·rw[(hk _ h.k1.1 h.k1.2).2.2];exact h.defd
 ·obtain⟨r1,r2,_⟩:=hk _ h.k1.1 h.k1.2;exact⟨r1,r2⟩
 ·obtain⟨r1,r2,_⟩:=hk _ h.k2.1 h.k2.2;exact⟨r1,r2⟩
 ·obtain⟨q1,q2,_,_⟩:=h.own b hb
  exact (hk b q1 q2).2.2
theorem T_rng{f:AArg}{ps:List Nat}{asg body:AC}{gf:Nat}{caps:List AV}(hf:f.eval env=.fn gf caps)(hpure:AT caps=true)(hfr1:asg.free=true)(hfr2:body.free=true){rows:List (List AV)}(hit:SO P gf caps rows)(hfl:∀r∈rows,∀x∈r,Flat x)
 (hps:∀r∈rows,r.length=ps.length) (hpn:∀p∈ps,p<n) (Inv:Nat->A7->Prop) (Qx:Ex->A7->Prop) (h0:Inv 0 H) (hn:∀k H',Inv k H'->H'.n=H.n) (hnx:∀x H',Qx x H'->H'.n=H.n)
 (round:∀k row H1,rows[k]? = some row->Inv k H1->T P n H.n asg (setL env ps row) H1 (λx env1 H2=>x=.normal/\T P n H.n body env1 H2 (λx _ H3=>(x=.normal/\Inv (k+1) H3)\/(x≠.normal/\Qx x H3))))
 (done:∀H1,Inv rows.length H1->Q .normal env H1) (out:∀x H1,Qx x H1->Q x env H1):T P n b (.rng f ps asg body) env H Q:=T_of λrd mm hrd code hc hs S a hb hS hF=>by
 obtain rfl:rd=none:=by
  rcases hrd with h|h
  ·cases h
  ·exact h
 cases code<;>simp only[EO,reduceCtorEq,Ap] at hc
 case rangeFunc g pps asgc bodyc =>
  split at hc
  ·rename_i z x y hz hx hy
   cases hc;have hSim:=hS.im;have hv:=Q5 hF hz;rw[hf] at hv;obtain⟨lb,hgv,hlb⟩:=hv;obtain⟨hent,hit⟩:=hit;have hFn:S.n=H.n:=hS.n;refine wpIn_rangeFunc (F:=fen none) λfn _=>?_;obtain⟨rec,hrec⟩:∃rec:LoopState->Option Code->Loop,rec=λst pe=>{ state:=st,pending:=pe,fn,tmps:=a.tmps,params:=pps,assign:=asgc,body:=bodyc,defers:=S.w.heap.size }:=⟨_,rfl⟩;obtain⟨W1,hW1⟩:∃W1,(S.w.alloc (.deferred (some []))).alloc (.loop (rec .ready none))=W1:=⟨_,rfl⟩;have hW1s:W1.heap.size=S.w.heap.size+2:=by rw[<-hW1,size_alloc,size_alloc]
   have hW1o:∀b,b<S.w.heap.size->W1.heap[b]? = S.w.heap[b]? := λb hb=>by
    rw[<-hW1,heap_alloc_lt _ _ _ (by rw[size_alloc];omega),heap_alloc_lt _ _ _ hb]
   have hL1:W1.heap[S.w.heap.size+1]? = some (.loop (rec .ready none)):=by
    rw[<-hW1];have:=heap_alloc_new (S.w.alloc (.deferred (some []))) (.loop (rec .ready none));rwa [size_alloc] at this
   have hK1:W1.heap[S.w.heap.size]? = some (.deferred (some [])):=by
    rw[<-hW1,heap_alloc_lt _ _ _ (by rw[size_alloc];omega)];exact heap_alloc_new _ _
   -- the state at the loop's beginning
   obtain⟨S1,hS1d⟩:∃S1:MS,S1={ S with w:=W1,keep:=λb=>S.keep b\/b=S.w.heap.size\/b=S.w.heap.size+1 }:=⟨_,rfl⟩;have hw1:S1.w=W1:=by rw[hS1d]
   have hlo:Lo S rec (S.w.heap.size+2) .ready none (λ_=>False) S1 H:=by
    refine⟨?_,?_,λb hb=>hb.elim,by rw[hw1,hW1s];exact Ae _,by rw[hw1];exact hL1,by rw[hw1];exact hK1,?_,?_⟩
    ·subst hS1d hW1
     exact⟨rfl,rfl,⟨rfl,Ae _⟩,rfl,by rw[hW1s];omega,λb hb=>hW1o b (hSim b hb),λ_ h=>h,λ_ h=>.inl h,λ_ h=>.inl h,Ae _,λ_ _=>Ae _,λ_ _ _=>⟨rfl,rfl,rfl⟩⟩
    ·subst hS1d
     exact hS.turn2 (λb hb=>hW1o b (hSim b (.inl hb))) rfl rfl rfl rfl rfl rfl (λb hb=>hb.imp id (λh=>by omega)) (λb hb=>by
      show b<W1.heap.size;rw[hW1s];rcases hb with hb|hb
      ·have:=hSim b (.inr hb);omega
      ·omega) (λb _ hl=>hW1o b hl) (by show _<=W1.heap.size;rw[hW1s];omega)
    ·rw[hS1d];exact⟨.inr (.inl rfl),λhi=>by have:=hSim _ (.inl hi);omega⟩
    ·rw[hS1d];exact⟨.inr (.inr rfl),λhi=>by have:=hSim _ (.inl hi);omega⟩
   obtain⟨Sit,hSid⟩:∃Sit:MS,Sit={ S1 with n:=0,keep:=λ_=>False }:=⟨_,rfl⟩
   have hSit:SRel Sit A7.nil:=by
    subst hSid;exact⟨rfl,λg hg=>absurd hg (Bh _),λg _ hg=>absurd hg (Bh _),λb hb=>hlo.rel.im b (hb.imp id False.elim)⟩
   have hlb':AI Sit caps lb:=by
    have:=AI.mono hlo.evo _ hlb;subst hSid;exact AI.of_pure (S:=S1) (S':={ S1 with n:=0,keep:=λ_=>False }) rfl (λ_ h=>h) hpure this
   have hwit:Sit.w=W1:=by rw[hSid];exact hw1
   have himit:Sit.im=S.im:=by rw[hSid,hS1d]
   refine⟨S.w.heap.size+1,[mark S.w.heap.size],W1,{ target:=.fn (.func gf) lb.toArray,args:=#[.func (.yield (S.w.heap.size+1)) #[] #[]] },W1,gf,#[.func (.yield (S.w.heap.size+1)) #[] #[]]++lb.toArray,W1,?_,?_,λ_ _=>trivial,?_,λh=>(by cases h),?_⟩
   ·rw[<-hW1,hrec];exact run_enterLoop_outer _ _ _ _ _
   ·simp only[rangeCall,resolve,hgv]
    simp[go_sem,Act.eval]
   ·simpa [invoke,go_sem] using hent (Value.func (.yield (S.w.heap.size+1)) #[] #[]::lb).toArray W1
   -- the iterator
   have hcall:=hit (mm+1) (S.w.heap.size+1) Sit lb
    (λk O W=>∃S' H',S'.w=W/\Lo S rec (S.w.heap.size+2) .ready none O S' H'/\Inv k H')
    (λk O W=>∃x S' H',S'.w=W/\Lo S rec (S.w.heap.size+2) .done (some (codeOf x)) O S' H'/\x≠.normal/\Qx x H')
    hSit hlb'
    (λk O W W' ⟨S',H',hw,hl,hi⟩ h1 h2 h3 h4 h5=>by
     subst hw;obtain⟨S'',hw',hl'⟩:=hl.clo hSim h1 h2 h3 h4 h5
     exact⟨S'',H',hw',hl',hi⟩)
    (λk O W W' ⟨x,S',H',hw,hl,hi⟩ h1 h2 h3 h4 h5=>by
     subst hw;obtain⟨S'',hw',hl'⟩:=hl.clo hSim h1 h2 h3 h4 h5
     exact⟨x,S'',H',hw',hl',hi⟩)
    ⟨S1,H,by rw[hwit,hw1],hlo,h0⟩
    (λk O W hJ=>by
     have hW1e:W1.os=S.w.os/\(W1.tape=S.w.tape/\W1.drawn=S.w.drawn)/\W1.output=S.w.output:=by rw[<-hW1];exact⟨rfl,⟨rfl,rfl⟩,rfl⟩
     have key:∀{st:LoopState}{pe:Option Code}{S':MS}{H':A7},Lo S rec (S.w.heap.size+2) st pe O S' H'->(∀b,Sit.im b->¬O b/\S'.w.heap[b]? = Sit.w.heap[b]?)/\(S'.w.os=Sit.w.os/\Kh S'.w Sit.w/\S'.w.output=Sit.w.output)/\Sit.w.heap.size<=S'.w.heap.size/\∀b,O b->Sit.w.heap.size<=b/\b<S'.w.heap.size:=λhl=>by
      refine⟨λb hb=>?_,⟨by rw[hwit,hW1e.1];exact hl.evo.os,⟨by rw[hwit,hW1e.2.1.1];exact hl.evo.tape.1,by rw[hwit,hW1e.2.1.2];exact hl.evo.tape.2⟩,by rw[hwit,hW1e.2.2];exact hl.evo.output⟩,by rw[hwit,hW1s];exact hl.size,λb hb=>?_⟩
      ·rw[himit] at hb
       refine⟨λho=>by have:=(hl.own b ho).2.2.1;have:=hSim b (.inl hb);omega,?_⟩;rw[hwit,hW1o b (hSim b (.inl hb))];exact hl.evo.kept b (.inl hb)
      ·obtain⟨_,_,q3,q4⟩:=hl.own b hb
       rw[hwit,hW1s];exact⟨q3,q4⟩
     rcases hJ with⟨S',H',hw,hl,_⟩|⟨x,S',H',hw,hl,_,_⟩
     ·subst hw;exact key hl
     ·subst hw;exact key hl)
    (λk row O W hrow ⟨S',H',hw,hl,hi⟩=>by
     subst hw
     have hlen:(encI row).size=(rec .ready none).params.size:=by
      rw[hrec];have:=hps row (Eh hrow);simp[this]
     refine⟨_,_,_,_,run_yield hl.loop hlen,?_⟩;have hrf:rec .ready none={ state:=.ready,pending:=none,fn,tmps:=a.tmps,params:=pps,assign:=asgc,body:=bodyc,defers:=S.w.heap.size }:=by rw[hrec]
     rw[hrf];refine roundIn_of_wpIn (F:=Fence.wide) trivial ?_;have hF':FRel S' n env a:=hF.mono hl.evo;have hFr:=Wp (n:=n) (Marks.nil hF'.defers.1) (ps:=pps.toList) (row:=row) (env:=env) (tmps:=a.tmps) (ds':=a.defers) hF' hpn (hfl row (Eh hrow));have hTa':=(round k row H' hrow hi) (some (S.w.heap.size+1)) (mm+1) (.inl hfr1) asgc hx S' _ (by rw[hl.rel.n,hn k H' hi];exact Ae _) hl.rel hFr
     have hzip:(pps.zip (encI row)).foldl (λt (p,v)=>t.setIfInBounds p v) a.tmps=(pps.toList.zip (row.map valOf)).foldl (λt (p,v)=>t.setIfInBounds p v) a.tmps:=by
      rw[<-Array.foldl_toList];simp
     rw[hzip];refine wpIn_mono hTa' λe a1 w1 hh=>?_;obtain⟨S2,env1,H2,x1,rfl,e2,hS2,hF2,rfl,rfl,hbody⟩:=hh;have hn':H'.n=H.n:=hn k H' hi;have hsz2:=hl.size;obtain⟨hl2,ho2⟩:=hl.on (by rw[hFn];exact e2) hS2;obtain⟨S3,hw3,hl3,ev3,hn3,hb3,hk3,hi3⟩:=hl2.turn hSim .busy none;have hbr:=run_beginRound (P:=P) hl2.loop (by rw[hrec]);have hrb:({ rec .ready none with state:=.busy }:Loop)=rec .busy none:=by rw[hrec]
     rw[hrb] at hbr;refine⟨_,hbr,?_⟩;rw[<-hw3]
     have hMs:Marks S3 a1.defers:=by
      obtain⟨q0,Ds,q1,q2,q3⟩:=hF2.defers;refine⟨by rw[hb3,hw3,World.putObj_size];exact q0,Ds,q1,q2,λD hD=>?_⟩;obtain⟨r1,r2,r3,r4⟩:=q3 D hD;refine⟨by rw[hb3];exact r1,by rw[hk3];exact r2,by rw[hi3];exact r3,?_⟩;rw[hw3,World.putObj_heap_other,r4];intro hDl;rw[hDl,hl2.loop] at r4;cases r4
     have hF3:FRel S3 n env1 a1:=⟨hF2.size,hMs,λi hi=>VRel.moni ev3 _ (hF2.val i hi)⟩;have hTb:=hbody (some (S.w.heap.size+1)) (mm+1) (.inl hfr2) bodyc hy S3 a1 (by rw[<-hFn];exact hl3.evo.n) hl3.rel hF3;refine wpIn_mono hTb λe a4 w4 hh=>?_;obtain⟨S4,env4,H4,x4,rfl,e4,hS4,hF4,rfl,hx4⟩:=hh;obtain⟨hl4,ho4⟩:=hl3.on (by rw[hFn];exact e4) hS4
     have hob:∀b,O b->S4.w.heap[b]? = S'.w.heap[b]? := λb hb=>by
      have hne:b≠S.w.heap.size+1:=by have:=(hl.own b hb).2.2.1;omega
      rw[ho4 b hb,hw3,World.putObj_heap_other hne,ho2 b hb]
     have hput:∀(o:Obj) b,O b->(S4.w.putObj (S.w.heap.size+1) o).heap[b]? = S'.w.heap[b]? := λo b hb=>by
      have hne:b≠S.w.heap.size+1:=by have:=(hl.own b hb).2.2.1;omega
      rw[World.putObj_heap_other hne,hob b hb]
     have hend:=λj=>run_endRound (P:=P) j hl4.loop
     have hgrow:∀o:Obj,S'.w.heap.size<=(S4.w.putObj (S.w.heap.size+1) o).heap.size:=λo=>by
      have g1:=e2.size;have g2:=e4.size;rw[hw3,World.putObj_size] at g2;rw[World.putObj_size];omega
     have hr1:({ rec .busy none with state:=.ready,pending:=none }:Loop)=rec .ready none:=by rw[hrec]
     have hr2:∀c,({ rec .busy none with state:=.done,pending:=some c }:Loop)=rec .done (some c):=λc=>by rw[hrec]
     rcases hx4 with⟨rfl,hinv⟩|⟨hxn,hqx⟩
     ·obtain⟨S5,hw5,hl5,_⟩:=hl4.turn hSim .ready none
      have:=hend none;simp only[Option.isNone_none,Br,hr1] at this;exact⟨_,_,this,hgrow _,hput _,.inl ⟨rfl,S5,H4,hw5,hl5,hinv⟩⟩
     ·obtain⟨S5,hw5,hl5,_⟩:=hl4.turn hSim .done (some (codeOf x4))
      have:=hend (some (codeOf x4));simp only[Option.isNone_some,AB,Bt,hr2] at this;cases x4 with
      |normal=>exact absurd rfl hxn
      |exit id=>exact⟨_,_,this,hgrow _,hput _,.inr ⟨rfl,.exit id,S5,H4,hw5,hl5,hxn,hqx⟩⟩
      |ret=>exact⟨_,_,this,hgrow _,hput _,.inr ⟨rfl,.ret,S5,H4,hw5,hl5,hxn,hqx⟩⟩)
   rw[hwit] at hcall
   have hmk:∀(S':MS)(H':A7),Evo S S'->SRel S' H'->S'.keep S.w.heap.size/\¬S'.im S.w.heap.size->S'.w.heap[S.w.heap.size]? = some (.deferred (some []))->FRel S' n env { a with defers:=[mark S.w.heap.size]++a.defers }:=λS' H' ev _ hk hd=>by
    have hF':=hF.mono ev;refine⟨hF'.size,?_,hF'.val⟩;obtain⟨q0,Ds,q1,q2,q3⟩:=hF'.defers;obtain⟨_,Ds',p1,_,p3⟩:=hF.defers
    have hDs:Ds'=Ds:=by
     rw[q1] at p1
     have hinj:∀{l l':List Nat},l.map mark=l'.map mark->l=l':=by
      intro l
      induction l with
      |nil=>intro l' h;cases l' with
       |nil=>rfl
       |cons=>simp at h
      |cons x l ih=>intro l' h;cases l' with
       |nil=>simp at h
       |cons y l' =>
        simp only[BB,F1,mark,Deferred.mk.injEq,and_true,Target.collected.injEq] at h;rw[h.1,ih h.2]
     exact (hinj p1).symm
    subst hDs;refine⟨q0,S.w.heap.size::Ds',by rw[q1];rfl,Cd.2 ⟨λhm=>by have:=hSim _ (.inr (p3 _ hm).2.1);omega,q2⟩,λD hD=>?_⟩;rcases Ag.1 hD with rfl|hD
    ·exact⟨by rw[ev.base];exact hF.defers.1,hk.1,hk.2,hd⟩
    ·exact q3 D hD
   refine CallsIn.mono (callsIn_wide.2 (callsIn_wide.1 hcall)) λe w3 hh=>?_;obtain⟨⟨v,rfl⟩,hh⟩:=hh;rcases hh with⟨O,S',H',rfl,hl,hinv⟩|⟨k,O,x,S',H',rfl,hl,hxn,hqx⟩
   ·obtain⟨S5,hw5,hl5,_⟩:=hl.turn hSim .exhausted none
    have:=run_endLoop (P:=P) hl.loop (by rw[hrec];intro hh;cases hh);have hr1:({ rec .ready none with state:=.exhausted }:Loop)=rec .exhausted none:=by rw[hrec]
    rw[hr1] at this;have hpn':(rec .ready none).pending=none:=by rw[hrec]
    rw[hpn'] at this;exact⟨_,_,this,S5,env,H',.normal,hw5,hl5.evo.down hb,hl5.rel,hmk S5 H' hl5.evo hl5.rel hl5.k1 hl5.defd,rfl,done H' hinv⟩
   ·obtain⟨S5,hw5,hl5,_⟩:=hl.turn hSim .exhausted (some (codeOf x))
    have:=run_endLoop (P:=P) hl.loop (by rw[hrec];intro hh;cases hh);have hr1:({ rec .done (some (codeOf x)) with state:=.exhausted }:Loop)=rec .exhausted (some (codeOf x)):=by rw[hrec]
    rw[hr1] at this;have hpn':(rec .done (some (codeOf x))).pending=some (codeOf x):=by rw[hrec]
    rw[hpn'] at this;refine⟨_,_,this,?_⟩
    have hAft:After S n b Q (Ex.up x) { a with defers:=[mark S.w.heap.size]++a.defers } (S'.w.putObj (S.w.heap.size+1) (.loop (rec .exhausted (some (codeOf x))))) :=
     ⟨S5,env,H',x,hw5,hl5.evo.down hb,hl5.rel,hmk S5 H' hl5.evo hl5.rel hl5.k1 hl5.defd,rfl,out x H' hqx⟩
    cases x with
    |normal=>exact absurd rfl hxn
    |exit id=>exact wpIn_exit hAft
    |ret=>exact wpIn_ret hAft
  ·cases hc
 case region=>exact absurd hc DD
 case seq=>split at hc<;>cases hc
 case cond=>split at hc<;>cases hc
 case block=>obtain⟨_,_,h⟩:=Af.1 hc;cases h
 case loop=>obtain⟨_,_,h⟩:=Af.1 hc;cases h
 case scope d=>exact absurd rfl (hs d)
end
section
variable {P:Program}{n b:Nat}{env:Env}{H:A7}{Q:Ex->Env->A7->Prop}
theorem Wq{a:Act}:∀(ws:List Nat){S:MS}{l:List Grp},(∀w∈ws,0<w)->SRel S (hl l)->FRel S n env a->∃S',S'.w=S.w/\Evo S S'/\SRel S' (hl (l++ws.map IX))/\FRel S' n env a
 |[],S,l,_,hS,hF=>⟨S,rfl,.refl S,by simpa using hS,hF⟩
 |w::ws,S,l,hw,hS,hF=>by
  have h1:=hS.virt w (hw w (by simp));rw[FR] at h1;obtain⟨S',e1,e2,e3,e4⟩:=Wq ws (S:=S.virt w) (l:=l++[IX w]) (λw' h'=>hw w' (by simp[h'])) h1 ⟨hF.size,hF.defers.mono (Evo.virt _),λj hj=>VRel.mono (Evo.virt _) _ (hF.val j hj)⟩;exact⟨S',e1,(Evo.virt _).trans e2,by simpa using e3,e4⟩
theorem z8w{srcs:List Src}{live:List (Nat × AV)}{heap:List Grp}{S:MS}{a:Act}(hh:Head b env H srcs live heap)(hbS:b<=S.n)(hS:SRel S H)(hF:FRel S n env a):
 ∃S',S'.w=S.w/\BEvo b S S'/\SRel S' (hl heap)/\FRel S' n (E4 live) a:=by
 obtain⟨hb,hh⟩:=hh;have hgn:H.groups.length=H.n:=by simp[A7.groups]
 have hS1:SRel S (hl H.groups):=hS.congr hgn (λg hg=>by
  show H.groups.getD g default=_
  simp[A7.groups,List.getD,hg])
 obtain⟨S2,e1,e2,e3,e4⟩:=Wq (Gw H.n srcs).2 (JH hh.1) hS1 hF;replace hh:=hh.2;generalize hl1:H.groups++(Gw H.n srcs).2.map IX=l1 at *;obtain⟨h1,h2,h3,h4⟩:=hh;have hb1:b<=l1.length:=by rw[<-hl1,Ak];omega
 have hbS2:b<=S2.n:=Bm hbS e2.n;obtain⟨k1,k2⟩:=Nn (ks:=(Gw H.n srcs).1) hb1;have hev:=JF (ks:=(Gw H.n srcs).1) e3 hbS2;have hrel:=(Lw (ks:=(Gw H.n srcs).1) 6 e3 hb1 (λk hk=>MI h1 k hk) (IB h2)).congr k1 k2;have hF3:FRel (S2.repack b (hl l1) (Gw H.n srcs).1) n (λi=>rnV b (hl l1) (Gw H.n srcs).1 6 (env i)) a:=⟨e4.size,e4.defers.of hev.base hev.size hev.keep hev.fresh (λb hb=>hev.kept b (.inr hb)),λj hj=>Y1 e3 6 (e4.val j hj)⟩;exact⟨S2.repack b (hl l1) (Gw H.n srcs).1,e1,(e2.down hbS).trans hev,Im hrel h4,⟨hF3.size,hF3.defers,No hrel hF3 h3⟩⟩
theorem zk2{c:AC}{Q':Ex->Env->A7->Prop}(h:T P n b c env H Q')(hq:∀x env' H',Q' x env' H'->∃srcs live heap,Head b env' H' srcs live heap/\Q x (E4 live) (hl heap)):T P n b c env H Q :=
 λrd mm hrd code hc S a hb hS hF=>wpIn_mono (h rd mm hrd code hc S a hb hS hF) λe a w hh=>by
  obtain⟨S',env',H',x,e1,e2,e3,e4,e5,e6⟩:=hh;obtain⟨srcs,live,heap,k1,k2⟩:=hq _ _ _ e6;obtain⟨S2,q1,q2,q3,q4⟩:=z8w k1 e2.n e3 e4;exact⟨S2,_,_,x,q1.trans e1,e2.trans q2,q3,q4,e5,k2⟩
theorem Wr{σ:Type}(Fact:Nat->σ->Prop)(live:List (Nat × AV))(heap:σ->List Grp)(srcs:List Src)(N:Nat){f:AArg}{ps:List Nat}{asg body:AC}{gf:Nat}{caps:List AV}{rows:List (List AV)}(s0:σ)
 (hit:SO P gf caps rows) (he:Head b env H srcs live (heap s0)) (hN:∀s,(heap s).length=N) (hf:f.eval (E4 live)=.fn gf caps) (hpure:AT caps=true) (hfr1:asg.free=true) (hfr2:body.free=true)
 (hfl:∀r∈rows,∀x∈r,Flat x) (hps:∀r∈rows,r.length=ps.length) (hpn:∀p∈ps,p<n) (h0:Fact 0 s0)
 (round:∀k row s,rows[k]? = some row->Fact k s->T P n N asg (setL (E4 live) ps row) (hl (heap s)) (λx env1 H2=>x=.normal/\T P n N body env1 H2 (Ex.then (λenv3 H3=>∃s',Head N env3 H3 [] [] (heap s')/\Fact (k+1) s') (λ_ _ _=>False))))
 (done:∀s,Fact rows.length s->Q .normal (E4 live) (hl (heap s))):T P n b (.rng f ps asg body) env H Q:=by
 refine Np he ?_;refine T_rng hf hpure hfr1 hfr2 hit hfl hps hpn (λk H'=>∃s,H'=hl (heap s)/\Fact k s) (λ_ _=>False) ⟨s0,rfl,h0⟩ (λk H' hh=>?_) (λ_ _ hh=>hh.elim) (λk row H1 hrow hh=>?_) (λH1 hh=>?_) (λ_ _ hh=>hh.elim)
 ·obtain⟨s,rfl,_⟩:=hh
  show (heap s).length=(heap s0).length;rw[hN,hN]
 ·obtain⟨s,rfl,hs⟩:=hh
  have hn0:(hl (heap s0)).n=N:=hN s0;rw[hn0];refine T.mono (round k row s hrow hs) λx env1 H2 hh=>⟨hh.1,?_⟩;refine zk2 hh.2 λx env3 H3 hq=>?_;cases x with
  |normal =>
   obtain⟨s',q1,q2⟩:=hq;exact⟨[],[],heap s',q1,.inl ⟨rfl,s',rfl,q2⟩⟩
  |exit id=>exact hq.elim
  |ret=>exact hq.elim
 ·obtain⟨s,rfl,hs⟩:=hh
  exact done s hs
theorem QQ{f:AArg}{ps:List Nat}{asg body:AC}(h:T P n b (.rng f ps asg body) env H Q):@JV ⟨T P n b (.rng f ps asg body) env H Q⟩:=h
end
mutual
def ren(σ:Nat->Nat):AV->AV
 |.any=>.any
 |.bool b=>.bool b
 |.int k n=>.int k n
 |.str s=>.str s
 |.nilS=>.nilS
 |.nul=>.nul
 |.emp=>.emp
 |.lst w xs=>.lst w xs
 |.full w xs=>.full w xs
 |.map g v=>.map (σ g) v
 |.ref g v o n=>.ref (σ g) v o n
 |.cptr x=>.cptr x
 |.ptr g v i o=>.ptr (σ g) v i o
 |.nilP=>.nilP
 |.agg cs=>.agg (renL σ cs)
 |.tup cs=>.tup (renL σ cs)
 |.fn f cs=>.fn f (renL σ cs)
 |.nilF=>.nilF
 |.yld l=>.yld l
def renL(σ:Nat->Nat):List AV->List AV
 |[]=>[]
 |x::xs=>ren σ x::renL σ xs
end
mutual
def ltV(m:Nat):AV->Prop
 |.map g _|.ref g _ _ _|.ptr g _ _ _=>g<m
 |.agg cs|.tup cs|.fn _ cs=>ltL m cs
 |.any|.bool _|.int ..|.str _|.nilS|.nul|.emp|.lst ..|.full ..|.cptr _|.nilP|.nilF|.yld _=>True
def ltL(m:Nat):List AV->Prop
 |[]=>True
 |x::xs=>ltV m x/\ltL m xs
end
def renG(σ:Nat->Nat)(G:Grp):Grp:=⟨G.w,G.ver,G.exact,renL σ G.xs⟩
mutual
theorem zc4{A B:MS}{σ:Nat->Nat}(hw:B.w=A.w)(hi:∀b,A.im b->B.im b)(hg:∀g,g<A.n->σ g<B.n/\B.cur (σ g)=A.cur g/\B.place (σ g)=A.place g/\B.cap (σ g)=A.cap g/\B.wid (σ g)=A.wid g):∀(x:AV){v:Value},VRel A x v->VRel B (ren σ x) v
 |.any,_,_=>trivial
 |.bool _,_,h=>h
 |.int _ _,_,h=>h
 |.str _,_,h=>h
 |.nilS,_,h=>h
 |.nul,_,h=>h
 |.emp,_,h=>h
 |.nilP,_,h=>h
 |.nilF,_,h=>h
 |.yld _,_,h=>h
 |.lst wd xs,v,h=>by
  obtain⟨hp,h0,a,cap,vs,hv,hc,hl,hr⟩:=h;refine⟨hp,h0,a,cap,vs,hv,hc,AI.of_pure hw hi hp hl,λhne=>?_⟩;obtain⟨b,o,ha,hb,hrow⟩:=hr hne;exact⟨b,o,ha,hi b hb,by rw[hw];exact hrow⟩
 |.full wd xs,v,h=>by
  obtain⟨hp,h0,a,vs,hv,hc,hl,hr⟩:=h;refine⟨hp,h0,a,vs,hv,hc,AI.of_pure hw hi hp hl,λhne=>?_⟩;obtain⟨b,o,ha,hb,hrow⟩:=hr hne;exact⟨b,o,ha,hi b hb,by rw[hw];exact hrow⟩
 |.cptr x,v,h=>by
  obtain⟨hp,b,o,u,hv,hb,hx,hl⟩:=h;exact⟨hp,b,o,u,hv,hi b hb,VRel.of_pure hw hi hp hx,by rw[hw];exact hl⟩
 |.map g vn,v,h=>by
  obtain⟨hs,hgn,hc,hv⟩:=h;obtain⟨k1,k2,k3,k4,k5⟩:=hg g hgn;exact⟨hs,k1,by rw[k2];exact hc,λh'=>by rw[k3];exact hv (by rw[<-k2];exact h')⟩
 |.ref g vn off len,v,h=>by
  obtain⟨hs,hgn,hc,hv⟩:=h;obtain⟨k1,k2,k3,k4,k5⟩:=hg g hgn;exact⟨hs,k1,by rw[k2];exact hc,λh'=>by rw[k3,k4,k5];exact hv (by rw[<-k2];exact h')⟩
 |.ptr g vn i o,v,h=>by
  obtain⟨hs,hgn,hc,hv⟩:=h;obtain⟨k1,k2,k3,k4,k5⟩:=hg g hgn;exact⟨hs,k1,by rw[k2];exact hc,λh'=>by rw[k3,k5];exact hv (by rw[<-k2];exact h')⟩
 |.agg cs,v,h=>by obtain⟨vs,hv,h⟩:=h;exact⟨vs,hv,L6 hw hi hg cs h⟩
 |.tup cs,v,h=>by obtain⟨vs,hv,h⟩:=h;exact⟨vs,hv,L6 hw hi hg cs h⟩
 |.fn f cs,v,h=>by obtain⟨vs,hv,h⟩:=h;exact⟨vs,hv,L6 hw hi hg cs h⟩
theorem L6{A B:MS}{σ:Nat->Nat}(hw:B.w=A.w)(hi:∀b,A.im b->B.im b)(hg:∀g,g<A.n->σ g<B.n/\B.cur (σ g)=A.cur g/\B.place (σ g)=A.place g/\B.cap (σ g)=A.cap g/\B.wid (σ g)=A.wid g):∀(xs:List AV){vs:List Value},AI A xs vs->AI B (renL σ xs) vs
 |[],_,h=>h
 |x::xs,_,h=>by
  obtain⟨v,r,hv,h1,h2⟩:=h;exact⟨v,r,hv,zc4 hw hi hg x h1,L6 hw hi hg xs h2⟩
end
mutual
theorem QR{A B:MS}{σ:Nat->Nat}{m:Nat}(hw:A.w=B.w)(hi:∀b,B.im b->A.im b)(hg:∀g,g<m->g<A.n/\B.cur (σ g)=A.cur g/\B.place (σ g)=A.place g/\B.cap (σ g)=A.cap g/\B.wid (σ g)=A.wid g):∀(x:AV){v:Value},ltV m x->VRel B (ren σ x) v->VRel A x v
 |.any,_,_,_=>trivial
 |.bool _,_,_,h=>h
 |.int _ _,_,_,h=>h
 |.str _,_,_,h=>h
 |.nilS,_,_,h=>h
 |.nul,_,_,h=>h
 |.emp,_,_,h=>h
 |.nilP,_,_,h=>h
 |.nilF,_,_,h=>h
 |.yld _,_,_,h=>h
 |.lst wd xs,v,_,h=>by
  obtain⟨hp,h0,a,cap,vs,hv,hc,hl,hr⟩:=h;refine⟨hp,h0,a,cap,vs,hv,hc,AI.of_pure hw hi hp hl,λhne=>?_⟩;obtain⟨b,o,ha,hb,hrow⟩:=hr hne;exact⟨b,o,ha,hi b hb,by rw[hw];exact hrow⟩
 |.full wd xs,v,_,h=>by
  obtain⟨hp,h0,a,vs,hv,hc,hl,hr⟩:=h;refine⟨hp,h0,a,vs,hv,hc,AI.of_pure hw hi hp hl,λhne=>?_⟩;obtain⟨b,o,ha,hb,hrow⟩:=hr hne;exact⟨b,o,ha,hi b hb,by rw[hw];exact hrow⟩
 |.cptr x,v,_,h=>by
  obtain⟨hp,b,o,u,hv,hb,hx,hl⟩:=h;exact⟨hp,b,o,u,hv,hi b hb,VRel.of_pure hw hi hp hx,by rw[hw];exact hl⟩
 |.map g vn,v,hm,h=>by
  obtain⟨hs,hgn,hc,hv⟩:=h;obtain⟨k1,k2,k3,k4,k5⟩:=hg g hm;exact⟨hs,k1,by rw[<-k2];exact hc,λh'=>by rw[<-k3];exact hv (by rw[k2];exact h')⟩
 |.ref g vn off len,v,hm,h=>by
  obtain⟨hs,hgn,hc,hv⟩:=h;obtain⟨k1,k2,k3,k4,k5⟩:=hg g hm;exact⟨hs,k1,by rw[<-k2];exact hc,λh'=>by rw[<-k3,<-k4,<-k5];exact hv (by rw[k2];exact h')⟩
 |.ptr g vn i o,v,hm,h=>by
  obtain⟨hs,hgn,hc,hv⟩:=h;obtain⟨k1,k2,k3,k4,k5⟩:=hg g hm;exact⟨hs,k1,by rw[<-k2];exact hc,λh'=>by rw[<-k3,<-k5];exact hv (by rw[k2];exact h')⟩
 |.agg cs,v,hm,h=>by obtain⟨vs,hv,h⟩:=h;exact⟨vs,hv,Hc hw hi hg cs hm h⟩
 |.tup cs,v,hm,h=>by obtain⟨vs,hv,h⟩:=h;exact⟨vs,hv,Hc hw hi hg cs hm h⟩
 |.fn f cs,v,hm,h=>by obtain⟨vs,hv,h⟩:=h;exact⟨vs,hv,Hc hw hi hg cs hm h⟩
theorem Hc{A B:MS}{σ:Nat->Nat}{m:Nat}(hw:A.w=B.w)(hi:∀b,B.im b->A.im b)(hg:∀g,g<m->g<A.n/\B.cur (σ g)=A.cur g/\B.place (σ g)=A.place g/\B.cap (σ g)=A.cap g/\B.wid (σ g)=A.wid g):∀(xs:List AV){vs:List Value},ltL m xs->AI B (renL σ xs) vs->AI A xs vs
 |[],_,_,h=>h
 |x::xs,_,hm,h=>by
  obtain⟨v,r,hv,h1,h2⟩:=h;exact⟨v,r,hv,QR hw hi hg x hm.1 h1,Hc hw hi hg xs hm.2 h2⟩
end
theorem KP{σ:Nat->Nat}:∀xs:List AV,(renL σ xs).length=xs.length
 |[]=>rfl
 |x::xs=>by simp[renL,KP xs]
def sg(ks:List Nat)(N i:Nat):Nat:=if i<ks.length then ks.getD i 0 else N+(i-ks.length)
def iv(ks:List Nat)(N g:Nat):Nat:=if g<N then ks.idxOf g else ks.length+(g-N)
def setG:List Nat->List Grp->List Grp->List Grp
 |[],r,l=>l++r
 |_::_,[],l=>l
 |k::ks,G::r,l=>setG ks r (l.set k G)
theorem Ws:∀{ks:List Nat}{r l:List Grp},ks.length<=r.length->(setG ks r l).length=l.length+(r.length-ks.length)
 |[],r,l,_=>by simp[setG]
 |k::ks,[],l,h=>by simp at h
 |k::ks,G::r,l,h=>by
  rw[setG,Ws (by simpa using h)];simp
theorem L8:∀{ks:List Nat}{r l:List Grp}{g:Nat},g<l.length->g∉ks->(setG ks r l).getD g default=l.getD g default
 |[],r,l,g,hg,_=>by simp[setG,List.getD,AE hg]
 |k::ks,[],l,g,_,_=>rfl
 |k::ks,G::r,l,g,hg,hk=>by
  simp only[Ag,B9] at hk;rw[setG,L8 (by simpa using hg) hk.2];simp[List.getD,CP (λh=>hk.1 h.symm)]
theorem z2d:∀{ks:List Nat}{r l:List Grp}{i:Nat},ks.Nodup->(∀k∈ks,k<l.length)->i<r.length->(setG ks r l).getD (sg ks l.length i) default=r.getD i default
 |[],r,l,i,_,_,hi=>by
  simp only[setG,sg,List.length_nil,Bh,Bt,Nat.sub_zero,List.getD];rw[AG (by omega),Nat.add_sub_cancel_left]
 |k::ks,[],l,i,_,_,hi=>by simp at hi
 |k::ks,G::r,l,0,hn,hk,_=>by
  rw[Cd] at hn;have h1:k<l.length:=hk k (by simp);have e:sg (k::ks) l.length 0=k:=by simp[sg]
  rw[e,setG,L8 (by simpa using h1) hn.1];simp[List.getD,EF h1]
 |k::ks,G::r,l,i+1,hn,hk,hi=>by
  rw[Cd] at hn;have e:sg (k::ks) l.length (i+1)=sg ks (l.set k G).length i:=by simp[sg]
  rw[e,setG,z2d hn.2 (λk' h'=>by simpa using hk k' (by simp[h'])) (by simpa using hi)];simp
theorem sg_lt{ks:List Nat}{N i n:Nat}(hk:∀k∈ks,k<N)(hi:i<n)(hm:ks.length<=n):sg ks N i<N+(n-ks.length):=by
 unfold sg;split
 ·rename_i h
  have:ks.getD i 0∈ks:=by rw[Av,Ao h];exact Cg h
  have:=hk _ this;omega
 ·omega
theorem zfu{ks:List Nat}{N i:Nat}(hn:ks.Nodup)(hk:∀k∈ks,k<N):iv ks N (sg ks N i)=i:=by
 unfold sg;split
 ·rename_i h
  have hmem:ks.getD i 0∈ks:=by rw[Av,Ao h];exact Cg h
  rw[iv,Ai (hk _ hmem),Av,Ao h];exact hn.idxOf_getElem i h
 ·rw[iv,Ah (by omega)];omega
theorem z2e{ks:List Nat}{N g:Nat}(hg:g∈ks):∃i,i<ks.length/\sg ks N i=g:=by
 obtain⟨i,hi,he⟩:=Bw hg;exact⟨i,hi,by rw[sg,Ai hi,Av,Ao hi];exact he⟩
theorem z8x{ks:List Nat}{N g n:Nat}(hm:ks.length<=n)(hg:g<N+(n-ks.length))(h:¬(g<N/\g∉ks)):∃i,i<n/\sg ks N i=g:=by
 by_cases hgN:g<N
 ·have hmem:g∈ks:=by
   by_cases hh:g∈ks
   ·exact hh
   ·exact absurd ⟨hgN,hh⟩ h
  obtain⟨i,hi,he⟩:=z2e (N:=N) hmem;exact⟨i,by omega,he⟩
 ·exact⟨ks.length+(g-N),by omega,by rw[sg,Ah (by omega)];omega⟩
theorem Mr{σ:Nat->Nat}{l:List Grp}{i:Nat}(h:i<l.length):(l.map (renG σ)).getD i default=renG σ (l.getD i default):=by
 simp[List.getD,Ao h]
theorem SP{P:Program}{f:Nat}{xs0 xs:List AV}{l0 l:List Grp}{K0 K:AV->A7->Prop}(ks:List Nat)(h:BZ P f xs0 (hl l0) K0)(hxs:renL (sg ks l.length) xs0=xs)
 (hl0:l0.map (renG (sg ks l.length))=ks.map (λk=>l.getD k default)) (hn:ks.Nodup) (hk:∀k∈ks,k<l.length) (hlt:ltL ks.length xs0) (hltG:∀G∈l0,ltL ks.length G.xs)
 (hK:∀y H',K0 y H'->∃l',H'=hl l'/\ks.length<=l'.length/\K (ren (sg ks l.length) y) (hl (setG ks (l'.map (renG (sg ks l.length))) l))):BZ P f xs (hl l) K:=by
 refine⟨h.1,λS cargs hS hx=>?_⟩;have hm:l0.length=ks.length:=by simpa using EL List.length hl0
 have hSn:S.n=l.length:=hS.n;have hinj:∀i j,sg ks l.length i=sg ks l.length j->i=j:=λi j e=>by rw[<-zfu (i:=i) hn hk,e,zfu hn hk]
 have hin:∀i,i<ks.length->sg ks l.length i<l.length/\sg ks l.length i∈ks:=λi hi=>by
  have e:sg ks l.length i=ks[i]:=by rw[sg,Ai hi,Av,Ao hi];rfl
  rw[e];exact⟨hk _ (Cg hi),Cg hi⟩
 have hat:∀i,i<ks.length->l.getD (sg ks l.length i) default=renG (sg ks l.length) (l0.getD i default):=λi hi=>by
  rw[<-Mr (by omega),hl0,sg,Ai hi];simp[List.getD,Ao hi]
 have hG:∀i,i<ks.length->GRel S (renG (sg ks l.length) (l0.getD i default)) (sg ks l.length i):=λi hi=>by
  have:=hS.grp (sg ks l.length i) (hin i hi).1
  rwa [DT,hat i hi] at this
 obtain⟨O,hO⟩:∃O:Nat->Prop,∀b,O b↔∃g,g<l.length/\g∉ks/\(l.getD g default).has (S.cap g)/\S.place g=b:=⟨_,λ_=>Iff.rfl⟩
 have hOfree:∀b,O b->¬(S.im b\/S.keep b):=λb hb=>by
  obtain⟨g,h1,h2,h3,rfl⟩:=(hO b).1 hb;exact (hS.grp g h1).has_ni (by rw[DT];exact h3)
 obtain⟨S0,hS0d⟩:∃S0:MS,S0={ S with keep:=λb=>S.keep b\/O b,n:=ks.length,place:=λi=>S.place (sg ks l.length i),cur:=λi=>S.cur (sg ks l.length i),cap:=λi=>S.cap (sg ks l.length i),wid:=λi=>S.wid (sg ks l.length i) }:=⟨_,rfl⟩
 have hdn:∀g,g<ks.length->g<S0.n/\S.cur (sg ks l.length g)=S0.cur g/\S.place (sg ks l.length g)=S0.place g/\S.cap (sg ks l.length g)=S0.cap g/\S.wid (sg ks l.length g)=S0.wid g:=λg hg=>by
  subst hS0d;exact⟨hg,rfl,rfl,rfl,rfl⟩
 have hw0:S0.w=S.w:=by subst hS0d;rfl
 have hi0:∀b,S.im b->S0.im b:=λb hb=>by subst hS0d;exact hb
 have hrel0:SRel S0 (hl l0):=by
  refine⟨by subst hS0d;exact hm.symm,λi hi=>?_,λi j hi hj hne h1 h2=>?_,λb hb=>?_⟩
  ·have hi':i<ks.length:=by rw[<-hm];exact hi
   have hg:=hG i hi';have hmem:l0.getD i default∈l0:=by rw[Av,Ao (show i<l0.length from hi)];exact Cg _
   have hlg:=hltG _ hmem;rw[DT]
   have hnO:(l0.getD i default).has (S.cap (sg ks l.length i))->¬O (S.place (sg ks l.length i)):=λhh ho=>by
    obtain⟨g,a1,a2,a3,a4⟩:=(hO _).1 ho;exact hS.apart g (sg ks l.length i) a1 (hin i hi').1 (λe=>a2 (e ▸ (hin i hi').2)) (by rw[DT];exact a3) (by rw[DT,hat i hi'];exact hh) a4
   refine⟨by subst hS0d;exact hg.ver,by subst hS0d;exact hg.wid,λhw hc=>?_,λhw=>by have:=hg.len hw;subst hS0d;simpa [renG,KP] using this,λhw he=>by have:=hg.full hw he;subst hS0d;simpa [renG,KP] using this,λhw he=>?_⟩
   ·have hc':0<S.cap (sg ks l.length i):=by subst hS0d;exact hc
    obtain⟨⟨cells,T,vs,b1,b2,b3,b4⟩,ni⟩:=hg.live hw hc';refine⟨⟨cells,T,vs,by subst hS0d;exact b1,by subst hS0d;exact b2,Hc hw0 hi0 hdn _ hlg b3,b4⟩,λhh=>?_⟩;have hno:=hnO (.inl ⟨hw,hc'⟩);subst hS0d;exact hh.elim (λhh=>ni (.inl hh)) (λhh=>hh.elim (λhh=>ni (.inr hh)) hno)
   ·obtain⟨⟨es,clock,b1,b2⟩,ni⟩:=hg.mlive hw he
    refine⟨⟨es,clock,by subst hS0d;exact b1,Hc hw0 hi0 hdn _ hlg b2⟩,λhh=>?_⟩;have hno:=hnO (.inr ⟨hw,he⟩);subst hS0d;exact hh.elim (λhh=>ni (.inl hh)) (λhh=>hh.elim (λhh=>ni (.inr hh)) hno)
  ·have hi':i<ks.length:=by rw[<-hm];exact hi
   have hj':j<ks.length:=by rw[<-hm];exact hj
   rw[DT] at h1 h2;have:=hS.apart (sg ks l.length i) (sg ks l.length j) (hin i hi').1 (hin j hj').1 (λe=>hne (hinj _ _ e)) (by rw[DT,hat i hi'];subst hS0d;exact h1) (by rw[DT,hat j hj'];subst hS0d;exact h2);subst hS0d;exact this
  ·subst hS0d
   rcases hb with hb|hb|hb
   ·exact hS.im b (.inl hb)
   ·exact hS.im b (.inr hb)
   ·obtain⟨g,a1,a2,a3,rfl⟩:=(hO _).1 hb
    exact (hS.grp g a1).has_lt (by rw[DT];exact a3)
 have hx0:AI S0 xs0 cargs:=Hc hw0 hi0 hdn xs0 hlt (by rw[hxs];exact hx);have hsz:S0.w.heap=S.w.heap:=by rw[hw0]
 have hcall:=h.2 S0 cargs hrel0 hx0;rw[hw0] at hcall;refine hcall.mono λe w' hh=>?_;obtain⟨v,S1,y,H',he,hw1,ev,hS1,hv,hk0⟩:=hh;obtain⟨l',rfl,hml,hK'⟩:=hK y H' hk0;have hn1:S1.n=l'.length:=hS1.n
 have hnot:∀i,¬(sg ks l.length i<l.length/\sg ks l.length i∉ks):=λi hh=>by
  by_cases hi:i<ks.length
  ·exact hh.2 (hin i hi).2
  ·have:sg ks l.length i=l.length+(i-ks.length):=by rw[sg,Ah hi]
   omega
 obtain⟨S',hS'd⟩:∃S':MS,S'={ w:=S1.w,im:=S1.im,keep:=λb=>S1.keep b/\¬O b,n:=l.length+(l'.length-ks.length),place:=λg=>if g<l.length/\g∉ks then S.place g else S1.place (iv ks l.length g),cur:=λg=>if g<l.length/\g∉ks then S.cur g else S1.cur (iv ks l.length g),cap:=λg=>if g<l.length/\g∉ks then S.cap g else S1.cap (iv ks l.length g),wid:=λg=>if g<l.length/\g∉ks then S.wid g else S1.wid (iv ks l.length g),base:=S1.base }:=⟨_,rfl⟩
 have hoth:∀g,g<l.length->g∉ks->S'.place g=S.place g/\S'.cur g=S.cur g/\S'.cap g=S.cap g/\S'.wid g=S.wid g:=λg h1 h2=>by
  subst hS'd;exact⟨Ai ⟨h1,h2⟩,Ai ⟨h1,h2⟩,Ai ⟨h1,h2⟩,Ai ⟨h1,h2⟩⟩
 have hour:∀i,S'.place (sg ks l.length i)=S1.place i/\S'.cur (sg ks l.length i)=S1.cur i/\S'.cap (sg ks l.length i)=S1.cap i/\S'.wid (sg ks l.length i)=S1.wid i:=λi=>by
  subst hS'd;refine⟨?_,?_,?_,?_⟩<;>simp only[Ah (hnot i),zfu hn hk]
 have hn':S'.n=l.length+(l'.length-ks.length):=by subst hS'd;rfl
 have hwS':S'.w=S1.w:=by subst hS'd;rfl
 have hup:∀g,g<S1.n->sg ks l.length g<S'.n/\S'.cur (sg ks l.length g)=S1.cur g/\S'.place (sg ks l.length g)=S1.place g/\S'.cap (sg ks l.length g)=S1.cap g/\S'.wid (sg ks l.length g)=S1.wid g:=λg hg=>by
  obtain⟨a1,a2,a3,a4⟩:=hour g;exact⟨by rw[hn'];exact sg_lt hk (by omega) hml,a2,a1,a3,a4⟩
 have hiS':∀b,S1.im b->S'.im b:=λb hb=>by subst hS'd;exact hb
 have hkS0:∀b,O b->S0.keep b:=λb hb=>by subst hS0d;exact .inr hb
 have hn0:S0.n=ks.length:=by subst hS0d;rfl
 have hevo:Evo S S':=by
  refine⟨?_,?_,?_,?_,?_,λb hb=>?_,λb hb=>?_,λb hb=>?_,λb hb=>?_,?_,λg hg=>?_,λg hg he=>?_⟩
  ·have:=ev.base;subst hS'd;subst hS0d;exact this
  ·have:=ev.os;rw[hw0] at this;rw[hwS'];exact this
  ·have:=ev.tape;rw[hw0] at this;rw[hwS'];exact this
  ·have:=ev.output;rw[hw0] at this;rw[hwS'];exact this
  ·have:=ev.size;rw[hw0] at this;rw[hwS'];exact this
  ·have:=ev.kept b (by subst hS0d;exact hb.imp id .inl);rw[hw0] at this;rw[hwS'];exact this
  ·exact hiS' b (ev.im b (hi0 b hb))
  ·have h1:=ev.keep b (by subst hS0d;exact .inl hb)
   subst hS'd;exact⟨h1,λho=>hOfree b ho (.inr hb)⟩
  ·have h1:=ev.fresh b (by subst hS'd;exact hb)
   subst hS0d;exact h1.imp id λhh h2=>hh (.inl h2)
  ·rw[hn',hSn];omega
  ·rw[hSn] at hg
   by_cases hmem:g∈ks
   ·obtain⟨i,hi,rfl⟩:=z2e (N:=l.length) hmem
    rw[(hour i).2.1];have:=ev.cur i (by rw[hn0];exact hi);subst hS0d;exact this
   ·rw[(hoth g hg hmem).2.1];exact Ae _
  ·rw[hSn] at hg
   by_cases hmem:g∈ks
   ·obtain⟨i,hi,rfl⟩:=z2e (N:=l.length) hmem
    obtain⟨a1,a2,a3,a4⟩:=hour i;rw[a1,a3,a4];rw[a2] at he;have:=ev.same i (by rw[hn0];exact hi) (by subst hS0d;exact he);subst hS0d;exact this
   ·obtain⟨a1,a2,a3,a4⟩:=hoth g hg hmem
    exact⟨a1,a3,a4⟩
 have hlen:(setG ks (l'.map (renG (sg ks l.length))) l).length=l.length+(l'.length-ks.length):=by rw[Ws (by simpa using hml)];simp
 have hatO:∀g,g<l.length->g∉ks->(setG ks (l'.map (renG (sg ks l.length))) l).getD g default=l.getD g default:=λg h1 h2=>L8 h1 h2
 have hatI:∀i,i<l'.length->(setG ks (l'.map (renG (sg ks l.length))) l).getD (sg ks l.length i) default=renG (sg ks l.length) (l'.getD i default):=λi hi=>by
  rw[z2d hn hk (by simpa using hi),Mr hi]
 have hrel':SRel S' (hl (setG ks (l'.map (renG (sg ks l.length))) l)):=by
  have hcov:∀g,g<(setG ks (l'.map (renG (sg ks l.length))) l).length->(g<l.length/\g∉ks)\/∃i,i<l'.length/\sg ks l.length i=g:=λg hg=>by
   by_cases hh:g<l.length/\g∉ks
   ·exact .inl hh
   ·exact .inr (z8x hml (by rw[<-hlen];exact hg) hh)
  have hfree1:∀i,i<l'.length->(l'.getD i default).has (S1.cap i)->¬S1.keep (S1.place i):=λi hi hh hkk=>(hS1.grp i hi).has_ni (by rw[DT];exact hh) (.inr hkk);refine⟨by rw[hn'];exact hlen.symm,λg hg=>?_,λg g' hg hg' hne h1 h2=>?_,λb hb=>?_⟩
  ·rcases hcov g hg with⟨h1,h2⟩|⟨i,hi,rfl⟩
   ·have hr:=hS.grp g h1
    obtain⟨a1,a2,a3,a4⟩:=hoth g h1 h2;rw[DT] at hr ⊢;rw[hatO g h1 h2]
    have hblk:(l.getD g default).has (S.cap g)->S'.w.heap[S.place g]? = S.w.heap[S.place g]? := λhh=>by
     have:=ev.kept (S.place g) (.inr (hkS0 _ ((hO _).2 ⟨g,h1,h2,hh,rfl⟩)));rw[hw0] at this;rw[hwS'];exact this
    have hnik:(l.getD g default).has (S.cap g)->¬(S'.im (S.place g)\/S'.keep (S.place g)):=λhh hik=>by
     have ho:O (S.place g):=(hO _).2 ⟨g,h1,h2,hh,rfl⟩;rcases hik with hik|hik
     ·rcases ev.fresh (S.place g) (by subst hS'd;exact hik) with h3|h3
      ·exact hOfree _ ho (.inl (by subst hS0d;exact h3))
      ·exact h3 (hkS0 _ ho)
     ·subst hS'd;exact hik.2 ho
    refine⟨by rw[a2];exact hr.ver,by rw[a4];exact hr.wid,λhw hc=>?_,λhw=>by rw[a3];exact hr.len hw,λhw he=>by rw[a3];exact hr.full hw he,λhw he=>?_⟩
    ·rw[a3] at hc
     obtain⟨⟨cells,T,vs,b1,b2,b3,b4⟩,ni⟩:=hr.live hw hc;rw[a1,a3];exact⟨⟨cells,T,vs,by rw[hblk (.inl ⟨hw,hc⟩)];exact b1,b2,b3.mono hevo,b4⟩,hnik (.inl ⟨hw,hc⟩)⟩
    ·obtain⟨⟨es,clock,b1,b2⟩,ni⟩:=hr.mlive hw he
     rw[a1];exact⟨⟨es,clock,by rw[hblk (.inr ⟨hw,he⟩)];exact b1,b2.mono hevo⟩,hnik (.inr ⟨hw,he⟩)⟩
   ·have hr:=hS1.grp i hi
    obtain⟨a1,a2,a3,a4⟩:=hour i;rw[DT] at hr ⊢;rw[hatI i hi]
    have hnik:¬(S1.im (S1.place i)\/S1.keep (S1.place i))->¬(S'.im (S1.place i)\/S'.keep (S1.place i)):=λhh hik=>by
     subst hS'd;exact hh (hik.imp id λh3=>h3.1)
    refine⟨by rw[a2];exact hr.ver,by rw[a4];exact hr.wid,λhw hc=>?_,λhw=>by rw[a3];have:=hr.len hw;simpa [renG,KP] using this,λhw he=>by rw[a3];have:=hr.full hw he;simpa [renG,KP] using this,λhw he=>?_⟩
    ·rw[a3] at hc
     obtain⟨⟨cells,T,vs,b1,b2,b3,b4⟩,ni⟩:=hr.live hw hc;rw[a1,a3];exact⟨⟨cells,T,vs,by rw[hwS'];exact b1,b2,L6 hwS' hiS' hup _ b3,b4⟩,hnik ni⟩
    ·obtain⟨⟨es,clock,b1,b2⟩,ni⟩:=hr.mlive hw he
     rw[a1];exact⟨⟨es,clock,by rw[hwS'];exact b1,L6 hwS' hiS' hup _ b2⟩,hnik ni⟩
  ·have hmix:∀g i,g<l.length->g∉ks->i<l'.length->(l.getD g default).has (S.cap g)->(l'.getD i default).has (S1.cap i)->S.place g≠S1.place i:=λg i b1 b2 b3 b4 b5 e=>by
    have h3:=ev.keep _ (hkS0 _ ((hO _).2 ⟨g,b1,b2,b4,rfl⟩));rw[e] at h3;exact hfree1 i b3 b5 h3
   rw[DT] at h1 h2;rcases hcov g hg with⟨c1,c2⟩|⟨i,hi,rfl⟩<;>rcases hcov g' hg' with⟨d1,d2⟩|⟨j,hj,rfl⟩
   ·rw[hatO g c1 c2,(hoth g c1 c2).2.2.1] at h1
    rw[hatO g' d1 d2,(hoth g' d1 d2).2.2.1] at h2;rw[(hoth g c1 c2).1,(hoth g' d1 d2).1];exact hS.apart g g' c1 d1 hne (by rw[DT];exact h1) (by rw[DT];exact h2)
   ·rw[hatO g c1 c2,(hoth g c1 c2).2.2.1] at h1
    rw[hatI j hj,(hour j).2.2.1] at h2;rw[(hoth g c1 c2).1,(hour j).1];exact hmix g j c1 c2 hj h1 h2
   ·rw[hatI i hi,(hour i).2.2.1] at h1
    rw[hatO g' d1 d2,(hoth g' d1 d2).2.2.1] at h2;rw[(hoth g' d1 d2).1,(hour i).1];exact λe=>hmix g' i d1 d2 hi h2 h1 e.symm
   ·rw[hatI i hi,(hour i).2.2.1] at h1
    rw[hatI j hj,(hour j).2.2.1] at h2;rw[(hour i).1,(hour j).1];exact hS1.apart i j hi hj (λe=>hne (by rw[e])) (by rw[DT];exact h1) (by rw[DT];exact h2)
  ·rw[hwS']
   refine hS1.im b ?_;subst hS'd;exact hb.imp id λh3=>h3.1
 exact⟨v,S',_,_,he,by rw[hwS'];exact hw1,hevo,hrel',zc4 hwS' hiS' hup y hv,hK'⟩
mutual
theorem z8y(σ:Nat->Nat):∀(x:AV),x.pure=true->ren σ x=x
 |.any,_=>rfl
 |.bool _,_=>rfl
 |.int _ _,_=>rfl
 |.str _,_=>rfl
 |.nilS,_=>rfl
 |.nul,_=>rfl
 |.emp,_=>rfl
 |.lst _ _,_=>rfl
 |.full _ _,_=>rfl
 |.cptr _,_=>rfl
 |.nilP,_=>rfl
 |.nilF,_=>rfl
 |.yld _,_=>rfl
 |.map _ _,h=>by cases h
 |.ref _ _ _ _,h=>by cases h
 |.ptr _ _ _ _,h=>by cases h
 |.agg cs,h=>by rw[ren,Jo σ cs h]
 |.tup cs,h=>by rw[ren,Jo σ cs h]
 |.fn f cs,h=>by rw[ren,Jo σ cs h]
theorem Jo(σ:Nat->Nat):∀(xs:List AV),AT xs=true->renL σ xs=xs
 |[],_=>rfl
 |x::xs,h=>by
  simp only[AT,Ad] at h;rw[renL,z8y σ x h.1,Jo σ xs h.2]
end
mutual
theorem Ce(m:Nat):∀(x:AV),x.pure=true->ltV m x
 |.any,_=>trivial
 |.bool _,_=>trivial
 |.int _ _,_=>trivial
 |.str _,_=>trivial
 |.nilS,_=>trivial
 |.nul,_=>trivial
 |.emp,_=>trivial
 |.lst _ _,_=>trivial
 |.full _ _,_=>trivial
 |.cptr _,_=>trivial
 |.nilP,_=>trivial
 |.nilF,_=>trivial
 |.yld _,_=>trivial
 |.map _ _,h=>by cases h
 |.ref _ _ _ _,h=>by cases h
 |.ptr _ _ _ _,h=>by cases h
 |.agg cs,h=>CS m cs h
 |.tup cs,h=>CS m cs h
 |.fn f cs,h=>CS m cs h
theorem CS(m:Nat):∀(xs:List AV),AT xs=true->ltL m xs
 |[],_=>trivial
 |x::xs,h=>by
  simp only[AT,Ad] at h;exact⟨Ce m x h.1,CS m xs h.2⟩
end
def renM(σ:Nat->Nat)(xs:List AV):List AV:=renL σ xs
def ltM(m:Nat)(xs:List AV):Prop:=ltL m xs
section
variable {ks:List Nat}{N i m g k v o n w f:Nat}{x:AV}{xs cs:List AV}{e:Bool}{G:Grp}{r l:List Grp}
theorem zfv:renL (sg ks N) xs=bif AT xs then xs else renM (sg ks N) xs:=by
 cases h:AT xs
 ·rfl
 ·exact Jo _ xs h
theorem zk3:ltL m xs=ifB (AT xs) (ltM m xs):=propext ⟨λh=>.inr h,λh=>h.elim (CS m xs) id⟩
theorem z8z:renM (sg ks N) []=[]:=rfl
theorem z2f:renM (sg ks N) (x::xs)=ren (sg ks N) x::renM (sg ks N) xs:=rfl
theorem zfw:ltM m []=True:=rfl
theorem z90:ltM m (x::xs)=(ltV m x/\ltM m xs):=rfl
theorem zk4:ren (sg ks N) .any=.any:=rfl
theorem zfx{b:Bool}:ren (sg ks N) (.bool b)=.bool b:=rfl
theorem zk5{q:IntKind}{z:Int}:ren (sg ks N) (.int q z)=.int q z:=rfl
theorem zk6{s:List UInt8}:ren (sg ks N) (.str s)=.str s:=rfl
theorem zfy:ren (sg ks N) .nilS=.nilS:=rfl
theorem zk7:ren (sg ks N) .nul=.nul:=rfl
theorem zk8:ren (sg ks N) .emp=.emp:=rfl
theorem zfz:ren (sg ks N) .nilP=.nilP:=rfl
theorem zg0:ren (sg ks N) .nilF=.nilF:=rfl
theorem zk9:ren (sg ks N) (.lst w xs)=.lst w xs:=rfl
theorem zg1:ren (sg ks N) (.full w xs)=.full w xs:=rfl
theorem zg2:ren (sg ks N) (.cptr x)=.cptr x:=rfl
theorem zka:ren (sg ks N) (.ref g v o n)=.ref (sg ks N g) v o n:=rfl
theorem zkb:ren (sg ks N) (.ptr g v i o)=.ptr (sg ks N g) v i o:=rfl
theorem zkc:ren (sg ks N) (.map g v)=.map (sg ks N g) v:=rfl
theorem zkd:ren (sg ks N) (.agg cs)=.agg (renL (sg ks N) cs):=rfl
theorem zke:ren (sg ks N) (.tup cs)=.tup (renL (sg ks N) cs):=rfl
theorem re_fn:ren (sg ks N) (.fn f cs)=.fn f (renL (sg ks N) cs):=rfl
theorem zkf:ltV m .any=True:=rfl
theorem zg3{b:Bool}:ltV m (.bool b)=True:=rfl
theorem zkg{q:IntKind}{z:Int}:ltV m (.int q z)=True:=rfl
theorem zkh{s:List UInt8}:ltV m (.str s)=True:=rfl
theorem zg4:ltV m .nilS=True:=rfl
theorem zki:ltV m .nul=True:=rfl
theorem zkj:ltV m .emp=True:=rfl
theorem zg5:ltV m .nilP=True:=rfl
theorem zg6:ltV m .nilF=True:=rfl
theorem zkk:ltV m (.lst w xs)=True:=rfl
theorem zg7:ltV m (.full w xs)=True:=rfl
theorem zg8:ltV m (.cptr x)=True:=rfl
theorem zkl:ltV m (.ref g v o n)=(g<m):=rfl
theorem zkm:ltV m (.ptr g v i o)=(g<m):=rfl
theorem zkn:ltV m (.map g v)=(g<m):=rfl
theorem zko:ltV m (.agg cs)=ltL m cs:=rfl
theorem zkp:ltV m (.tup cs)=ltL m cs:=rfl
theorem lv_fn:ltV m (.fn f cs)=ltL m cs:=rfl
theorem sg_eq:sg ks N i=if i<ks.length then ks.getD i 0 else N+(i-ks.length):=rfl
theorem reG{σ:Nat->Nat}:renG σ ⟨w,v,e,xs⟩=⟨w,v,e,renL σ xs⟩:=rfl
theorem zkq:setG [] r l=l++r:=rfl
theorem z2g:setG (k::ks) (G::r) l=setG ks r (l.set k G):=rfl
end
attribute [push_cast] zfv zk3 z8z z2f zfw z90 zk4 zfx zk5 zk6 zfy zk7 zk8 zfz zg0 zk9 zg1 zg2 zka zkb zkc zkd zke re_fn
attribute [push_cast] zkf zg3 zkg zkh zg4 zki zkj zg5 zg6 zkk zg7 zg8 zkl zkm zkn zko zkp lv_fn sg_eq reG zkq z2g List.set_cons_zero List.set_cons_succ List.getD_cons_zero List.getD_cons_succ
theorem NF{P:Program}{f:Nat}{xs0 xs:List AV}{l0 l:List Grp}{K0 K:AV->A7->Prop}(ks:List Nat)(h:BZ P f xs0 (hl l0) K0)(hn:ks.Nodup)(hk:∀k∈ks,k<l.length)(hxs:renL (sg ks l.length) xs0=xs)
 (hl0:l0.map (renG (sg ks l.length))=ks.map (λk=>l.getD k default)) (hlt:ltL ks.length xs0) (hltG:∀G∈l0,ltL ks.length G.xs)
 (hK:∀y H',K0 y H'->∃l',H'=hl l'/\ks.length<=l'.length/\@nx (ren (sg ks l.length) y) (hl (setG ks (l'.map (renG (sg ks l.length))) l)) ⟨K⟩):@QB P f xs (hl l) ⟨K⟩ :=
 SP ks h hxs hl0 hn hk hlt hltG hK
section
variable {P:Program}{n b:Nat}{env:Env}{H:A7}
theorem Pw{S:MS}{l2:List Grp}{H1:A7}{ks:List Nat}{val:Nat->Value}(hS:SRel S (hl l2))(hF:∀i,VRel S (rnV b H1 ks 6 (env i)) (val i)):∀{live:List (Nat × AV)},LS l2 H1 b ks env live->∀i,VRel S (E4 live i) (val i)
 |[],_,i=>trivial
 |(t,y)::r,h,i=>by
  show VRel S (if i=t then y else E4 r i) _;split
  ·rename_i hit
   subst hit;exact So (.inl hS) _ h.1 (hF i)
  ·exact Pw hS hF h.2 i
theorem QS:∀(ws:List Nat){S:MS}{l:List Grp}{val:Nat->Value},(∀w∈ws,0<w)->SRel S (hl l)->(∀i,VRel S (env i) (val i))->∃S',S'.w=S.w/\Evo S S'/\SRel S' (hl (l++ws.map IX))/\∀i,VRel S' (env i) (val i)
 |[],S,l,val,_,hS,hF=>⟨S,rfl,.refl S,by simpa using hS,hF⟩
 |w::ws,S,l,val,hw,hS,hF=>by
  have h1:=hS.virt w (hw w (by simp));rw[FR] at h1;obtain⟨S',e1,e2,e3,e4⟩:=QS ws (S:=S.virt w) (l:=l++[IX w]) (λw' h'=>hw w' (by simp[h'])) h1 (λj=>VRel.mono (Evo.virt _) _ (hF j));exact⟨S',e1,(Evo.virt _).trans e2,by simpa using e3,e4⟩
theorem z91{srcs:List Src}{live:List (Nat × AV)}{heap:List Grp}{S:MS}{val:Nat->Value}(hh:Head b env H srcs live heap)(hbS:b<=S.n)(hS:SRel S H)(hF:∀i,VRel S (env i) (val i)):
 ∃S',S'.w=S.w/\BEvo b S S'/\SRel S' (hl heap)/\∀i,VRel S' (E4 live i) (val i):=by
 obtain⟨hb,hh⟩:=hh;have hgn:H.groups.length=H.n:=by simp[A7.groups]
 have hS1:SRel S (hl H.groups):=hS.congr hgn (λg hg=>by
  show H.groups.getD g default=_
  simp[A7.groups,List.getD,hg])
 obtain⟨S2,e1,e2,e3,e4⟩:=QS (Gw H.n srcs).2 (JH hh.1) hS1 hF;replace hh:=hh.2;generalize hl1:H.groups++(Gw H.n srcs).2.map IX=l1 at *;obtain⟨h1,h2,h3,h4⟩:=hh;have hb1:b<=l1.length:=by rw[<-hl1,Ak];omega
 have hbS2:b<=S2.n:=Bm hbS e2.n;obtain⟨k1,k2⟩:=Nn (ks:=(Gw H.n srcs).1) hb1;have hev:=JF (ks:=(Gw H.n srcs).1) e3 hbS2;have hrel:=(Lw (ks:=(Gw H.n srcs).1) 6 e3 hb1 (λk hk=>MI h1 k hk) (IB h2)).congr k1 k2;exact⟨S2.repack b (hl l1) (Gw H.n srcs).1,e1,(e2.down hbS).trans hev,Im hrel h4,Pw hrel (λj=>Y1 e3 6 (e4 j)) h3⟩
def Drop(b:Nat)(y:AV)(H:A7)[K:HK]:Prop:=∃srcs y' heap,Head b (E4 [(0,y)]) H srcs [(0,y')] heap/\K.f y' (hl heap)
theorem SQ{y:AV}{K:AV->A7->Prop}(srcs:List Src)(y':AV)(heap:List Grp)(h1:Head b (E4 [(0,y)]) H srcs [(0,y')] heap)(h2:K y' (hl heap)):@Drop b y H ⟨K⟩:=⟨srcs,y',heap,h1,h2⟩
theorem NG{f:Nat}{xs:List AV}{l:List Grp}{K:AV->A7->Prop}(h:BZ P f xs (hl l) (λy H'=>@Drop l.length y H' ⟨K⟩)):BZ P f xs (hl l) K :=
 ⟨h.1,λS cargs hS hx=>(h.2 S cargs hS hx).mono λe w' hh=>by
  obtain⟨v,S1,y,H',he,hw,ev,hS1,hv,srcs,y',heap,h1,h2⟩:=hh;have hn:S.n=l.length:=hS.n
  obtain⟨S2,q1,q2,q3,q4⟩:=z91 (S:=S1) (val:=λi=>if i=0 then v else undef) h1 (by rw[<-hn];exact ev.n) hS1 (λi=>by
   show VRel S1 (if i=0 then y else .any) _;split
   ·exact hv
   ·trivial)
  have hb:=(ev.down (b:=l.length) (by omega)).trans q2
  exact⟨v,S2,y',_,he,q1.trans hw,⟨hb.base,hb.os,hb.tape,hb.output,hb.size,hb.kept,hb.im,hb.keep,hb.fresh,by rw[hn];exact hb.n,λg hg=>hb.cur g (by omega),λg hg=>hb.same g (by omega)⟩,q3,q4 0,h2⟩⟩
theorem Wt{f m np b:Nat}{xs:List AV}{l:List Grp}{K:AV->A7->Prop}{res:List ARes}{B:AC}(hf:Bv P f xs.length=some ⟨m,np,res,B⟩)(hb:b=l.length)(h:W P m b B (entry xs) (hl l) (Ret P res λy H'=>@Drop b y H' ⟨K⟩)):BZ P f xs (hl l) K:=by
 subst hb;exact NG (LQ hf (W_T h))
end
theorem z92(env:Env):setL env [] []=env:=rfl
theorem z2h(env:Env)(p:Nat)(ps:List Nat)(x:AV)(r:List AV):setL env (p::ps) (x::r)=setL (env.put (some p) x) ps r:=rfl
attribute [push_cast] z92 z2h
section
variable {P:Program}{n b:Nat}{S:MS}{H:A7}
theorem put_defers(a:Act)(d:Option Nat)(v:Value):(a.put d v).defers=a.defers:=by cases d<;>rfl
theorem zkr(hS:SRel S H){env:Env}{a:Act}(hF:FRel S n env a){o:Oper}{q:AOp}{ops:Array Oper}(h:CH P n ops o=some q){K:AV->A7->Prop}(hst:AJ P q.k H (q.vals env) K)
 {N:Act->World->Prop} {Q:Exit->Act->World->Prop} (hN:∀S' H' x a',Evo S S'->SRel S' H'->FRel S' n (env.put q.dst x) a'->a'.defers=a.defers->K x H'->N a' S'.w) (r:Option Nat) (m:Nat):o.wpIn (fen r) m P a S.w N Q:=by
 obtain⟨h1,h2,h3,h4,_⟩:=Cs h;have hargs:=JC hF h2;have h1':=I7 h1 λe=>by rw[e] at hst;simp[AJ] at hst
 have hsem:o.semAt (fen r).round a.eval=execOp a.eval o:=Oper.semAt_eq _ _ _ λc hc=>by rw[hc] at h1';cases h1'
 rcases OY hS o h1 (ρ:=a.eval) hargs hst with⟨v,S',x,H',hr,e,hS',hv,hK⟩|⟨f,cargs,hr,hc⟩
 ·have hN':=λv' (hv':VRel S' x v')=>hN S' H' x (a.put o.dst v') e hS' (by rw[h3];exact (hF.mono e).put h4 hv') (put_defers _ _ _) hK
  refine⟨λ_ _=>trivial,?_⟩;rw[hsem];rcases hr with hr|⟨hr,rfl⟩<;>rw[hr]
  ·exact hN' v hv
  ·exact hN' undef hv
 ·refine⟨λ_ _=>trivial,?_⟩
  rw[hsem,hr,Oper.uponIn_enter];refine⟨λh=>(by cases h),Na (hc.mono λe w' hh=>?_)⟩;obtain⟨v,S',x,H',rfl,rfl,ev,hS',hv,hK⟩:=hh;exact hN S' H' x (a.put o.dst v) ev hS' (by rw[h3];exact (hF.mono ev).put h4 hv) (put_defers _ _ _) hK
theorem Ix{ops:Array Oper}{Q:Exit->Act->World->Prop}{rd:Option Nat}{m:Nat}(tl:List Nat):∀(l:List Oper)(l':List AOp)(k:Nat),(∀j,j<l.length->l[j]? = ops[k+j]?)->l.mapM (CH P n ops)=some l'->∀{S:MS}{H:A7}{env:Env}{a:Act}{K:Env->A7->Prop},
 SRel S H->FRel S n env a->runK P l' env H K->(∀S' H' env' a',Evo S S'->SRel S' H'->FRel S' n env' a'->a'.defers=a.defers->K env' H'->wpOpsIn (fen rd) m P ops Q tl a' S'.w)->wpOpsIn (fen rd) m P ops Q (List.range' k l.length++tl) a S.w
 |[],l',k,_,hm,S,H,env,a,K,hS,hF,hr,hQ=>by
  simp at hm;subst hm;exact hQ S H env a (.refl S) hS hF rfl hr
 |o::l,l',k,hl,hm,S,H,env,a,K,hS,hF,hr,hQ=>by
  rw[Cb] at hm;simp only[Option.bind_eq_bind,BC,Option.pure_def,Ap] at hm;obtain⟨q,hq,r,hrr,rfl⟩:=hm;have h0:ops[k]? = some o:=by simpa using (hl 0 (by simp)).symm
  have hl':∀j,j<l.length->l[j]? = ops[k+1+j]? := λj hj=>by have:=hl (j+1) (by simp;omega);simpa [Bu,Cm 1 j] using this
  have hg:=MZ hq hF hr;rw[show List.range' k (o::l).length++tl=k::(List.range' (k+1) l.length++tl) from rfl];simp only[wpOpsIn,h0];cases hw:Region.wanted o (yielded ops a.tmps)
  ·rw[hw] at hg
   simp only[AB,Bt] at hg ⊢;obtain⟨_,_,h3,h4,_⟩:=Cs hq;exact⟨λ_ _=>trivial,Ix tl l r (k+1) hl' hrr hS (by rw[h3];exact hF.put h4 Ja) hg (λS' H' env' a' e hS' hF' hd=>hQ S' H' env' a' e hS' hF' (hd.trans (put_defers _ _ _)))⟩
  ·rw[hw] at hg
   simp only[Br] at hg ⊢;refine zkr hS hF hq hg (λS' H' x a' e hS' hF' hd hK=>?_) rd m;exact Ix tl l r (k+1) hl' hrr hS' hF' hK (λS2 H2 env2 a2 e2 hS2 hF2 hd2 hK2=>hQ S2 H2 env2 a2 (e.trans e2) hS2 hF2 (hd2.trans hd) hK2)
end
structure Itr where
 P:Program
 l:Nat
 m:Nat
 rows:List (List AV)
 S0:MS
 J:Nat->(Nat->Prop)->World->Prop
 Jx:Nat->(Nat->Prop)->World->Prop
 cJ:Clo J
 cx:Clo Jx
 fact:∀k O W,J k O W\/Jx k O W->(∀b,S0.im b->¬O b/\W.heap[b]? = S0.w.heap[b]?)/\(W.os=S0.w.os/\Kh W S0.w/\W.output=S0.w.output)/\S0.w.heap.size<=W.heap.size/\∀b,O b->S0.w.heap.size<=b/\b<W.heap.size
 round:∀k row O W,rows[k]? = some row->J k O W->YieldAt Fence.wide m P l (encI row) W λe W'=>W.heap.size<=W'.heap.size/\(∀b,O b->W'.heap[b]? = W.heap[b]?)/\(e=.returned (.bool true)/\J (k+1) O W'\/e=.returned (.bool false)/\Jx (k+1) O W')
namespace Itr
def at_(I:Itr):Option Nat->(Nat->Prop)->World->Prop
 |some k,O,W=>I.J k O W
 |none,O,W=>∃k,I.Jx k O W
structure Now(I:Itr)(s:Option Nat)(X:Nat->Prop)(S:MS)(H:A7):Prop where
 rel:SRel S H
 base:S.base<=S.w.heap.size
 keep:∀b,X b->S.keep b
 im:∀b,I.S0.im b->S.im b
 apart:∀b,S.im b->I.S0.im b\/¬X b
 st:I.at_ s (λb=>b<S.w.heap.size/\¬X b/\¬I.S0.im b) S.w
theorem Now.on{I:Itr}{s:Option Nat}{X:Nat->Prop}{S S':MS}{H H':A7}(h:I.Now s X S H)(e:Evo S S')(hr:SRel S' H'):I.Now s X S' H':=by
 have hX:∀b,X b->b<S.w.heap.size:=λb hb=>h.rel.im b (.inr (h.keep b hb));have hi0:∀b,I.S0.im b->b<S.w.heap.size:=λb hb=>h.rel.im b (.inl (h.im b hb));refine⟨hr,by rw[e.base];exact Bm h.base e.size,λb hb=>e.keep b (h.keep b hb),λb hb=>e.im b (h.im b hb),λb hb=>?_,?_⟩
 ·rcases e.fresh b hb with hh|hh
  ·exact h.apart b hh
  ·exact .inr λhx=>hh (h.keep b hx)
 ·have ho:(λb=>b<S'.w.heap.size/\¬X b/\¬I.S0.im b)=λb=>(b<S.w.heap.size/\¬X b/\¬I.S0.im b)\/(S.w.heap.size<=b/\b<S'.w.heap.size):=by
   funext b;refine propext ⟨λ⟨h1,h2,h3⟩=>?_,λhh=>?_⟩
   ·rcases An b S.w.heap.size with hl|hl
    ·exact .inl ⟨hl,h2,h3⟩
    ·exact .inr ⟨hl,h1⟩
   ·rcases hh with⟨h1,h2,h3⟩|⟨h1,h2⟩
    ·exact⟨Bb h1 e.size,h2,h3⟩
    ·exact⟨h2,λhx=>by have:=hX b hx;omega,λhx=>by have:=hi0 b hx;omega⟩
  rw[ho]
  have hk:∀b,b<S.w.heap.size->¬(b<S.w.heap.size/\¬X b/\¬I.S0.im b)->S'.w.heap[b]? = S.w.heap[b]? := λb hb hn=>by
   by_cases hx:X b
   ·exact e.kept b (.inr (h.keep b hx))
   ·by_cases hi:I.S0.im b
    ·exact e.kept b (.inl (h.im b hi))
    ·exact absurd ⟨hb,hx,hi⟩ hn
  cases s with
  |some k=>exact I.cJ k _ _ _ h.st e.os e.tape e.output e.size hk
  |none=>obtain⟨k,hj⟩:=h.st;exact⟨k,I.cx k _ _ _ hj e.os e.tape e.output e.size hk⟩
theorem Now.round{I:Itr}{k:Nat}{X:Nat->Prop}{S:MS}{H:A7}(h:I.Now (some k) X S H){W':World}{s':Option Nat}(hsz:S.w.heap.size<=W'.heap.size)(ho:∀b,b<S.w.heap.size/\¬X b/\¬I.S0.im b->W'.heap[b]? = S.w.heap[b]?)
 (hi:∀b,I.S0.im b->W'.heap[b]? = S.w.heap[b]?) (hst:I.at_ s' (λb=>b<S.w.heap.size/\¬X b/\¬I.S0.im b) W') :
 ∃S',S'.w=W'/\I.Now s' (λb=>X b\/(S.w.heap.size<=b/\b<W'.heap.size)) S' H/\Evi S S':=by
 obtain⟨S',hd⟩:∃S':MS,S'={ S with w:=W',keep:=λb=>S.keep b\/(S.w.heap.size<=b/\b<W'.heap.size) }:=⟨_,rfl⟩;have hX:∀b,X b->b<S.w.heap.size:=λb hb=>h.rel.im b (.inr (h.keep b hb));have him:∀b,S.im b->b<S.w.heap.size:=λb hb=>h.rel.im b (.inl hb);have hi0:∀b,I.S0.im b->b<S.w.heap.size:=λb hb=>him b (h.im b hb)
 have hw:∀b,S.im b->W'.heap[b]? = S.w.heap[b]? := λb hb=>by
  by_cases h0:I.S0.im b
  ·exact hi b h0
  ·exact ho b ⟨him b hb,(h.apart b hb).resolve_left h0,h0⟩
 refine⟨S',by rw[hd],⟨?_,?_,?_,?_,?_,?_⟩,?_⟩
 ·subst hd
  exact h.rel.turn2 hw rfl rfl rfl rfl rfl rfl (λb hb=>hb.imp id And.left) (λb hb=>hb.elim (λhh=>Bb (h.rel.im b (.inr hh)) hsz) And.right)
   (λb hb hl=>ho b ⟨hl,λhx=>hb (.inr (h.keep b hx)),λhx=>hb (.inl (h.im b hx))⟩) hsz
 ·subst hd;exact Bm h.base hsz
 ·subst hd;exact λb hb=>hb.imp (h.keep b) id
 ·subst hd;exact h.im
 ·subst hd
  intro b hb;rcases h.apart b hb with hh|hh
  ·exact .inl hh
  ·exact .inr λhx=>hx.elim hh λhx=>by have:=him b hb;omega
 ·subst hd
  have e:(λb=>b<W'.heap.size/\¬(X b\/(S.w.heap.size<=b/\b<W'.heap.size))/\¬I.S0.im b)=λb=>b<S.w.heap.size/\¬X b/\¬I.S0.im b:=by
   funext b;refine propext ⟨λ⟨h1,h2,h3⟩=>⟨?_,λhx=>h2 (.inl hx),h3⟩,λ⟨h1,h2,h3⟩=>⟨by omega,λhx=>hx.elim h2 (λhh=>by omega),h3⟩⟩;rcases An b S.w.heap.size with hl|hl
   ·exact hl
   ·exact absurd (.inr ⟨hl,h1⟩) h2
  show I.at_ s' _ W';rw[e];exact hst
 ·subst hd
  exact Evi.of hw rfl rfl rfl rfl rfl rfl
end Itr
def KQ(I:Itr)(n:Nat)(Q:Option Nat->Ex->Env->A7->Prop)(e:Exit)(a:Act)(w:World):Prop :=
 ∃S' env H' x s X,S'.w=w/\I.Now s X S' H'/\FRel S' n env a/\a.defers=[]/\e=Ex.up x/\Q s x env H'
def TI(I:Itr)(n:Nat)(c:AC)(s:Option Nat)(env:Env)(H:A7)(Q:Option Nat->Ex->Env->A7->Prop):Prop :=
 ∀code,EO I.P n code=some c->∀S a X,I.Now s X S H->FRel S n env a->a.defers=[]->code.wpIn (fen none) (I.m+1) I.P (KQ I n Q) a S.w
section
variable {I:Itr}{n:Nat}{s:Option Nat}{env:Env}{H:A7}{Q:Option Nat->Ex->Env->A7->Prop}
theorem z93{F:Fence}{mm:Nat}{c:Code}{a:Act}{w:World}(h:c.wpIn F mm I.P (KQ I n Q) a w):(Code.scope c).wpIn F mm I.P (KQ I n Q) a w:=by
 refine H0 (wpIn_mono h λe a w hh=>?_);obtain⟨S2,env,H',y,s,X,h1,h2,h3,h4,h5,h6⟩:=hh;subst h5;cases y<;>exact⟨S2,env,H',_,s,X,h1,h2,h3,h4,rfl,h6⟩
theorem QT{c:AC}(h:∀code,EO I.P n code=some c->(∀d,code≠.scope d)->∀S a X,I.Now s X S H->FRel S n env a->a.defers=[]->code.wpIn (fen none) (I.m+1) I.P (KQ I n Q) a S.w):TI I n c s env H Q:=by
 intro code
 induction code with
 |scope d ih=>exact λhc S a X hN hF hd=>z93 (ih (by simpa [EO] using hc) S a X hN hF hd)
 |skip=>exact λhc=>h _ hc (by simp)
 |region=>exact λhc=>h _ hc (by simp)
 |seq=>exact λhc=>h _ hc (by simp)
 |cond=>exact λhc=>h _ hc (by simp)
 |block=>exact λhc=>h _ hc (by simp)
 |loop=>exact λhc=>h _ hc (by simp)
 |rangeFunc=>exact λhc=>h _ hc (by simp)
 |exit=>exact λhc=>h _ hc (by simp)
 |label=>exact λhc=>h _ hc (by simp)
 |goto=>exact λhc=>h _ hc (by simp)
 |ret=>exact λhc=>h _ hc (by simp)
 |refuse=>exact λhc=>h _ hc (by simp)
theorem zg9(h:Q s .normal env H):TI I n .skip s env H Q:=QT λcode hc hs S a X hN hF hd=>by
 have hA:KQ I n Q .normal a S.w:=⟨S,env,H,.normal,s,X,rfl,hN,hF,hd,rfl,h⟩;cases code<;>simp only[EO,reduceCtorEq,Ap] at hc
 case skip=>exact wpIn_skip hA
 case label=>exact wpIn_label hA
 case region=>exact absurd hc DD
 case seq=>split at hc<;>cases hc
 case cond=>split at hc<;>cases hc
 case block=>obtain⟨_,_,h⟩:=Af.1 hc;cases h
 case loop=>obtain⟨_,_,h⟩:=Af.1 hc;cases h
 case rangeFunc=>split at hc<;>cases hc
 case scope d=>exact absurd rfl (hs d)
theorem zga{id:Nat}(h:Q s (.exit id) env H):TI I n (.exit id) s env H Q:=QT λcode hc hs S a X hN hF hd=>by
 cases code<;>simp only[EO,reduceCtorEq,Ap] at hc
 case exit k=>cases hc;exact wpIn_exit ⟨S,env,H,.exit id,s,X,rfl,hN,hF,hd,rfl,h⟩
 case region=>exact absurd hc DD
 case seq=>split at hc<;>cases hc
 case cond=>split at hc<;>cases hc
 case block=>obtain⟨_,_,h⟩:=Af.1 hc;cases h
 case loop=>obtain⟨_,_,h⟩:=Af.1 hc;cases h
 case rangeFunc=>split at hc<;>cases hc
 case scope d=>exact absurd rfl (hs d)
theorem zks(h:Q s .ret env H):TI I n .ret s env H Q:=QT λcode hc hs S a X hN hF hd=>by
 cases code<;>simp only[EO,reduceCtorEq,Ap] at hc
 case ret=>exact wpIn_ret ⟨S,env,H,.ret,s,X,rfl,hN,hF,hd,rfl,h⟩
 case region=>exact absurd hc DD
 case seq=>split at hc<;>cases hc
 case cond=>split at hc<;>cases hc
 case block=>obtain⟨_,_,h⟩:=Af.1 hc;cases h
 case loop=>obtain⟨_,_,h⟩:=Af.1 hc;cases h
 case rangeFunc=>split at hc<;>cases hc
 case scope d=>exact absurd rfl (hs d)
def Ex.thenI(K:Option Nat->Env->A7->Prop)(Q:Option Nat->Ex->Env->A7->Prop):Option Nat->Ex->Env->A7->Prop
 |s,.normal,env,H=>K s env H
 |s,x,env,H=>Q s x env H
theorem HS{x y:AC}(h:TI I n x s env H (Ex.thenI (λs' env' H'=>TI I n y s' env' H' Q) Q)):TI I n (.seq x y) s env H Q:=QT λcode hc hs S a X hN hF hd=>by
 cases code<;>simp only[EO,reduceCtorEq,Ap] at hc
 case seq c d =>
  split at hc
  ·rename_i x' y' hx hy
   cases hc;refine wpIn_seq (wpIn_mono (h c hx S a X hN hF hd) λe a' w' hh=>?_);obtain⟨S2,env2,H2,z,s2,X2,rfl,hN2,hF2,hd2,rfl,hq⟩:=hh;cases z with
   |normal=>exact hq d hy S2 a' X2 hN2 hF2 hd2
   |exit id=>exact⟨S2,env2,H2,.exit id,s2,X2,rfl,hN2,hF2,hd2,rfl,hq⟩
   |ret=>exact⟨S2,env2,H2,.ret,s2,X2,rfl,hN2,hF2,hd2,rfl,hq⟩
  ·cases hc
 case region=>exact absurd hc DD
 case cond=>split at hc<;>cases hc
 case block=>obtain⟨_,_,h⟩:=Af.1 hc;cases h
 case loop=>obtain⟨_,_,h⟩:=Af.1 hc;cases h
 case rangeFunc=>split at hc<;>cases hc
 case scope d=>exact absurd rfl (hs d)
theorem zgb{c:AArg}{x y:AC}{q:Bool}(hc:c.eval env=.bool q)(ht:q=true->TI I n x s env H Q)(hf:q=false->TI I n y s env H Q):TI I n (.cond c x y) s env H Q:=QT λcode hcc hs S a X hN hF hd=>by
 cases code<;>simp only[EO,reduceCtorEq,Ap] at hcc
 case cond z p q' =>
  split at hcc
  ·rename_i z' p2 q2 hz hp hq
   cases hcc;have hv:=Q5 hF hz;rw[hc] at hv;exact wpIn_cond_split (t:=q) hv (λhbb=>ht hbb p hp S a X hN hF hd) (λhbb=>hf hbb q' hq S a X hN hF hd)
  ·cases hcc
 case region=>exact absurd hcc DD
 case seq=>split at hcc<;>cases hcc
 case block=>obtain⟨_,_,h⟩:=Af.1 hcc;cases h
 case loop=>obtain⟨_,_,h⟩:=Af.1 hcc;cases h
 case rangeFunc=>split at hcc<;>cases hcc
 case scope d=>exact absurd rfl (hs d)
def Ex.inBlockI(id:Nat)(Q:Option Nat->Ex->Env->A7->Prop):Option Nat->Ex->Env->A7->Prop
 |s,.exit k,env,H=>if k=id then Q s .normal env H else Q s (.exit k) env H
 |s,x,env,H=>Q s x env H
theorem IE{id:Nat}{c:AC}(h:TI I n c s env H (Ex.inBlockI id Q)):TI I n (.block id c) s env H Q:=QT λcode hc hs S a X hN hF hd=>by
 cases code<;>simp only[EO,reduceCtorEq,Ap] at hc
 case block k d =>
  obtain⟨x,hx,hh⟩:=Af.1 hc;cases hh;refine wpIn_block (wpIn_mono (h d hx S a X hN hF hd) λe a' w' hh=>?_);obtain⟨S2,env2,H2,z,s2,X2,h1,hN2,hF2,hd2,rfl,hq⟩:=hh;cases z with
  |normal=>exact⟨S2,env2,H2,.normal,s2,X2,h1,hN2,hF2,hd2,rfl,hq⟩
  |exit j =>
   simp only[Ex.up,Exit.inBlock];simp only[Ex.inBlockI] at hq;split
   ·rename_i hj;rw[Ai hj] at hq;exact⟨S2,env2,H2,.normal,s2,X2,h1,hN2,hF2,hd2,rfl,hq⟩
   ·rename_i hj;rw[Ah hj] at hq;exact⟨S2,env2,H2,.exit j,s2,X2,h1,hN2,hF2,hd2,rfl,hq⟩
  |ret=>exact⟨S2,env2,H2,.ret,s2,X2,h1,hN2,hF2,hd2,rfl,hq⟩
 case region=>exact absurd hc DD
 case seq=>split at hc<;>cases hc
 case cond=>split at hc<;>cases hc
 case loop=>obtain⟨_,_,h⟩:=Af.1 hc;cases h
 case rangeFunc=>split at hc<;>cases hc
 case scope d=>exact absurd rfl (hs d)
theorem UF{σ:Type}(Inv:σ->Option Nat->Env->A7->Prop)(μ:σ->Nat){c:AC}(s0:σ)(h0:Inv s0 s env H)
 (round:∀t s env H,Inv t s env H->TI I n c s env H (Ex.thenI (λs' env' H'=>∃t',Inv t' s' env' H'/\μ t'<μ t) Q)):TI I n (.loop c) s env H Q:=QT λcode hc hs S a X hN hF hd=>by
 cases code<;>simp only[EO,reduceCtorEq,Ap] at hc
 case loop d =>
  obtain⟨x,hx,hh⟩:=Af.1 hc;cases hh;refine wpIn_loop_ghost (λk a w=>∃S' t s env H X,S'.w=w/\I.Now s X S' H/\FRel S' n env a/\a.defers=[]/\Inv t s env H/\μ t=k) (μ s0) ⟨S,s0,s,env,H,X,rfl,hN,hF,hd,h0,rfl⟩ ?_;rintro k a w ⟨S1,t,s1,env1,H1,X1,rfl,hN1,hF1,hd1,hI,rfl⟩;refine wpIn_mono (round t s1 env1 H1 hI d hx S1 a X1 hN1 hF1 hd1) λe a' w' hh=>?_;obtain⟨S2,env2,H2,z,s2,X2,rfl,hN2,hF2,hd2,rfl,hq⟩:=hh;cases z with
  |normal =>
   obtain⟨t',h1,h2⟩:=hq;exact⟨μ t',h2,S2,t',s2,env2,H2,X2,rfl,hN2,hF2,hd2,h1,rfl⟩
  |exit id=>exact⟨S2,env2,H2,.exit id,s2,X2,rfl,hN2,hF2,hd2,rfl,hq⟩
  |ret=>exact⟨S2,env2,H2,.ret,s2,X2,rfl,hN2,hF2,hd2,rfl,hq⟩
 case region=>exact absurd hc DD
 case seq=>split at hc<;>cases hc
 case cond=>split at hc<;>cases hc
 case block=>obtain⟨_,_,h⟩:=Af.1 hc;cases h
 case rangeFunc=>split at hc<;>cases hc
 case scope d=>exact absurd rfl (hs d)
theorem zkt{ops:List AOp}(h:runK I.P ops env H λenv' H'=>Q s .normal env' H'):TI I n (.reg ops) s env H Q:=QT λcode hc hs S a X hN hF hd=>by
 cases code<;>simp only[EO,reduceCtorEq,Ap] at hc
 case region id l draw =>
  split at hc
  ·rename_i r hr
   obtain⟨hd',rfl⟩:=Ko hc;subst hd';refine wpIn_region ?_;have:=Ix (ops:=l) (rd:=none) (m:=I.m+1) (Q:=KQ I n Q) [] l.toList ops 0 (by simp) hr hN.rel hF h (λS' H' env' a' e hS' hF' hdd hK=>⟨S',env',H',.normal,s,X,rfl,hN.on e hS',hF',hdd.trans hd,rfl,hK⟩);rw[Fp];simpa using this
  ·cases hc
 case seq=>split at hc<;>cases hc
 case cond=>split at hc<;>cases hc
 case block=>obtain⟨_,_,h⟩:=Af.1 hc;cases h
 case loop=>obtain⟨_,_,h⟩:=Af.1 hc;cases h
 case rangeFunc=>split at hc<;>cases hc
 case scope d=>exact absurd rfl (hs d)
theorem Px{α β:Type}{f:α->Option β}:∀(p:List β){l:List α}{y:β}{q:List β},l.mapM f=some (p++y::q)->∃l1 o l2,l=l1++o::l2/\l1.mapM f=some p/\f o=some y/\l2.mapM f=some q
 |[],l,y,q,h=>by
  cases l with
  |nil=>simp at h
  |cons o l =>
   rw[Cb] at h;simp only[Option.bind_eq_bind,BC,Option.pure_def,Ap,List.nil_append,F1] at h;obtain⟨y',hy,r,hr,rfl,rfl⟩:=h;exact⟨[],o,l,rfl,rfl,hy,hr⟩
 |z::p,l,y,q,h=>by
  cases l with
  |nil=>simp at h
  |cons o l =>
   rw[Cb] at h;simp only[Option.bind_eq_bind,BC,Option.pure_def,Ap,List.cons_append,F1] at h;obtain⟨z',hz,r,hr,rfl,rfl⟩:=h;obtain⟨l1,o',l2,rfl,h1,h2,h3⟩:=Px p hr;exact⟨o::l1,o',l2,rfl,by rw[Cb,hz,h1];rfl,h2,h3⟩
theorem YG{P:Program}{op:Op}(h:CK P op=some .call):∃g args argTypes,op=.call { callee:=.value g,args,argTypes }:=by
 replace h:=I7 h (by simp);cases op
 case call c =>
  obtain⟨callee,args,argTypes⟩:=c;cases callee<;>simp only[Fu,F3,reduceCtorEq] at h
  case value g=>exact⟨g,args,argTypes,rfl⟩
  case builtin b =>
   repeat' split at h
   all_goals first
    |(cases h;done)
    |(simp at h;done)
 all_goals simp only[Fu,reduceCtorEq] at h
 all_goals repeat' split at h
 all_goals first
  |contradiction
  |(cases h;done)
  |(obtain⟨⟨_,_⟩,_,h⟩:=Af.1 h;cases h;done)
  |(obtain⟨_,_,h⟩:=Af.1 h;cases h;done)
  |(simp at h;done)
def zku(x:AV):Prop:=∀S v,VRel S x v->v=valOf x
theorem Py{S:MS}:∀{xs:List AV}{vs:List Value},(∀x∈xs,zku x)->AI S xs vs->vs=xs.map valOf
 |[],vs,_,h=>h
 |x::xs,vs,hf,⟨v,r,hv,h1,h2⟩=>by
  rw[hv,hf x (by simp) S v h1,Py (λy hy=>hf y (by simp[hy])) h2];rfl
theorem Wu{pre post:List AOp}{y:AOp}{k:Nat}(hk:y.k=.call)(hg:y.guard=none)
 (h:runK I.P pre env H λenv1 H1=>∃row,y.vals env1=.yld I.l::row/\(∀x∈row,zku x)/\I.rows[k]? = some row /\
  runK I.P post (env1.put y.dst (.bool true)) H1 (λenv2 H2=>Q (some (k+1)) .normal env2 H2)/\runK I.P post (env1.put y.dst (.bool false)) H1 (λenv2 H2=>Q none .normal env2 H2)) :
 TI I n (.reg (pre++y::post)) (some k) env H Q:=QT λcode hc hs S a X hN hF hd=>by
 cases code<;>simp only[EO,reduceCtorEq,Ap] at hc
 case region id l draw =>
  split at hc
  ·rename_i r hr
   obtain⟨hd',hrr⟩:=Ko hc;subst hrr;subst hd';refine wpIn_region ?_;obtain⟨l1,o,l2,hl,h1,h2,h3⟩:=Px pre hr;have hsz:l.size=l1.length+(l2.length+1):=by rw[<-Array.length_toList,hl];simp
   rw[Fp,hsz,List.range'_append_1 |>.symm];have hat:∀j:Nat,l[j]? = (l1++o::l2)[j]? := λj=>by rw[<-hl,EY]
   refine Ix (ops:=l) (rd:=none) (m:=I.m+1) (Q:=KQ I n Q) _ l1 pre 0 (λj hj=>by rw[Bn,hat,AE hj]) h1 hN.rel hF h (λS1 H1 env1 a1 e1 hS1 hF1 hd1 hK=>?_);obtain⟨row,hv,hfx,hrow,ht,hff⟩:=hK;have hN1:=hN.on e1 hS1;have ho:l[l1.length]? = some o:=by rw[hat];simp
   rw[show List.range' (0+l1.length) (l2.length+1)=l1.length::List.range' (l1.length+1) l2.length from by rw[Bn];rfl];simp only[wpOpsIn,ho];obtain⟨c1,c2,c3,c4,c5⟩:=Cs h2
   have hw:Region.wanted o (yielded l a1.tmps)=true:=by
    rcases c5 with⟨g1,_⟩|⟨j,want,d,g1,g2,_⟩
    ·simp[Region.wanted,g1]
    ·rw[hg] at g2;cases g2
   rw[hw];simp only[Br];have hargs:=JC hF1 c2;rw[show y.args.map (·.eval env1)=y.vals env1 from rfl,hv] at hargs
   rw[hk] at c1;obtain⟨g,args,argTypes,hop⟩:=YG c1;obtain⟨fn,tm,asg,bd,hy,hR⟩:=I.round k row _ _ hrow hN1.st
   have hrun:(o.semAt (fen none).round a1.eval).run I.P S1.w=.ok (.round I.l fn tm asg bd) S1.w:=by
    rw[show (fen none).round=none from rfl,Oper.semAt_none];rw[hop] at hargs;have hargs':AI S1 (.yld I.l::row) (a1.eval g::args.toList.map a1.eval):=by simpa [Op.operands,Call.operands] using hargs
    obtain⟨v,vs,hvv,hv1,hv2⟩:=hargs';cases hvv;have hvs:=Py hfx hv2;have hv1':a1.eval g=.func (.yield I.l) #[] #[]:=hv1;have e:args.map a1.eval=encI row:=by apply EW;simp[hvs]
    have hex:execOp a1.eval o=(do let d <-Deferred.ofValue (a1.eval g) (args.map a1.eval);invoke d.target d.args:Sem Next):=by
     cases o;simp only at hop;subst hop;rfl
    rw[hex,e,hv1'];simp only[Deferred.ofValue,Sem.run_bind,Sem.run_pure,Result.andThen_ok,invoke];simpa using hy
   refine⟨λ_ _=>trivial,?_⟩;rw[hrun,Oper.uponIn_round];refine⟨λh=>(by cases h),?_⟩;refine RoundIn.mono (F:=fen none) (n:=I.m) hR λe W' hh=>?_;obtain⟨hsz',ho',hcase⟩:=hh;have hf0:=(I.fact k _ _ (.inl hN1.st)).1;have hdef:a1.defers=[]:=hd1.trans hd
   have hgo:∀(bv:Bool)(s':Option Nat),I.at_ s' (λb=>b<S1.w.heap.size/\¬X b/\¬I.S0.im b) W'->(∀b,I.S0.im b->W'.heap[b]? = I.S0.w.heap[b]?) ->
    runK I.P post (env1.put y.dst (.bool bv)) H1 (λenv2 H2=>Q s' .normal env2 H2)->wpOpsIn (fen none) (I.m+1) I.P l (KQ I n Q) (List.range' (l1.length+1) l2.length) (a1.put o.dst (.bool bv)) W':=λbv s' hst him hrk=>by
    obtain⟨S2,hw2,hN2,ev2⟩:=hN1.round hsz' ho' (λb hb=>(him b hb).trans ((hf0 b hb).2).symm) hst;have hF2:FRel S2 n env1 a1:=⟨hF1.size,by rw[hdef];exact Marks.nil hN2.base,λi hi=>VRel.moni ev2 _ (hF1.val i hi)⟩;have hF3:=hF2.put (dst:=y.dst) (by rw[c3];exact c4) (x:=.bool bv) (v:=.bool bv) rfl;rw[c3] at hF3;rw[c3] at hrk;rw[<-hw2]
    have:=Ix (ops:=l) (rd:=none) (m:=I.m+1) (Q:=KQ I n Q) [] l2 post (l1.length+1) (λj hj=>by rw[hat,AG (by omega),show l1.length+1+j-l1.length=j+1 from by omega];rfl) h3 hN2.rel hF3 hrk
     (λS' H' env' a' e hS' hF' hdd hK=>⟨S',env',H',.normal,s',_,rfl,hN2.on e hS',hF',hdd.trans ((put_defers _ _ _).trans hdef),rfl,hK⟩)
    simpa using this
   rcases hcase with⟨rfl,hj⟩|⟨rfl,hj⟩
   ·exact hgo true (some (k+1)) hj (λb hb=>((I.fact _ _ _ (.inl hj)).1 b hb).2) ht
   ·exact hgo false none ⟨_,hj⟩ (λb hb=>((I.fact _ _ _ (.inr hj)).1 b hb).2) hff
  ·cases hc
 case seq=>split at hc<;>cases hc
 case cond=>split at hc<;>cases hc
 case block=>obtain⟨_,_,h⟩:=Af.1 hc;cases h
 case loop=>obtain⟨_,_,h⟩:=Af.1 hc;cases h
 case rangeFunc=>split at hc<;>cases hc
 case scope d=>exact absurd rfl (hs d)
theorem z2i{P:Program}{gf:Nat}{caps:List AV}{rows:List (List AV)}{fn:AFn}(hf:Bv P gf (caps.length+1)=some fn)
 (h:∀I:Itr,I.P=P->I.rows=rows->TI I fn.n fn.body (some 0) (entry (.yld I.l::caps)) A7.nil (λs x env H=>Ret P fn.res (λ_ _=>True) x env H/\(s=some rows.length\/s=none))):SO P gf caps rows:=by
 refine⟨enters_of hf,λm l S0 lb J Jx hS0 hx0 cJ cx hj fact round=>?_⟩;obtain⟨F,c,hF,hb,hn,hc,hr,hnp,_⟩:=Kp hf;obtain⟨S,hSd⟩:∃S:MS,S={ S0 with base:=S0.w.heap.size,keep:=λb=>b<S0.w.heap.size/\¬S0.im b }:=⟨_,rfl⟩;have ev0:Evi S0 S:=by subst hSd;exact Evi.of (λ_ _=>rfl) rfl rfl rfl rfl rfl rfl
 have hw0:S.w=S0.w:=by rw[hSd]
 have hS:SRel S A7.nil:=by
  subst hSd;exact⟨hS0.n,λg hg=>absurd hg (Bh _),λg _ hg=>absurd hg (Bh _),λb hb=>hb.elim (λh=>hS0.im b (.inl h)) And.left⟩
 have hx:AI S caps lb:=AI.moni ev0 _ hx0;have hlen:=hx.length
 let I:Itr:=⟨P,l,m,rows,S0,J,Jx,cJ,cx,fact,round⟩
 have hN:I.Now (some 0) (λb=>b<S0.w.heap.size/\¬S0.im b) S A7.nil:=by
  refine⟨hS,by rw[hSd];exact Ae _,λb hb=>by rw[hSd];exact hb,λb hb=>by rw[hSd];exact hb,λb hb=>.inl (by rw[hSd] at hb;exact hb),?_⟩
  have e:(λb=>b<S.w.heap.size/\¬(b<S0.w.heap.size/\¬S0.im b)/\¬I.S0.im b)=λ_=>False:=by
   funext b;refine propext ⟨λ⟨h1,h2,h3⟩=>h2 ⟨by rw[hw0] at h1;exact h1,h3⟩,False.elim⟩
  rw[e,hw0];exact hj
 refine callsIn_of_wp_marks (F:=Fence.wide) (n:=m+1) hF hb trivial ?_
 have hfr:FRel S fn.n (entry (.yld l::caps)) { tmps:=(#[Value.func (.yield l) #[] #[]]++lb.toArray)++Array.replicate (F.ntmps-(#[Value.func (.yield l) #[] #[]]++lb.toArray).size) undef,defers:=[] }:=by
  have hx':AI S (.yld l::caps) (.func (.yield l) #[] #[]::lb):=⟨_,_,rfl,rfl,hx⟩;refine⟨by simp;omega,Marks.nil hN.base,λi hi=>?_⟩;by_cases hlt:i<(AV.yld l::caps).length
  ·obtain⟨v,hv,hr⟩:=hx'.get (Ao hlt)
   have e1:entry (.yld l::caps) i=(AV.yld l::caps)[i]:=by simp[entry,List.getD,Ao hlt]
   have e2:((#[Value.func (.yield l) #[] #[]]++lb.toArray)++Array.replicate (F.ntmps-(#[Value.func (.yield l) #[] #[]]++lb.toArray).size) undef).getD i undef=v:=by
    have hsz:i<(#[Value.func (.yield l) #[] #[]]++lb.toArray).size:=by simp at hlt ⊢;omega
    rw[DK,BS hsz];have:(#[Value.func (.yield l) #[] #[]]++lb.toArray)[i]? = (Value.func (.yield l) #[] #[]::lb)[i]? := by simp
    rw[this,hv];rfl
   rw[e1,e2];exact hr
  ·have e1:entry (.yld l::caps) i=.any:=by simp[entry,List.getD,BE (Gm hlt)]
   rw[e1];trivial
 rw[<-hw0];refine wpIn_mono (h I rfl rfl c hc S _ _ hN hfr rfl) λe a w' hh=>?_;obtain⟨S2,env2,H2,z,s2,X2,rfl,hN2,hF2,hd2,rfl,⟨hq,hres⟩,hst⟩:=hh
 have fin:LeavesInM Fence.wide (m+1) P F a.tmps (λe W'=>(∃v,e=.returned v)/\((∃O,J rows.length O W')\/∃k O,Jx k O W')) a.defers .returning S2.w:=by
  rw[hd2];refine Jd [] S2.w D3 (λD hd=>by cases hd) ?_;obtain⟨vs,ys,h1,h2,h3⟩:=JE hN2.rel hF2 hr hres;refine⟨if h:vs.toArray.size=1 then vs.toArray[0] else .tuple vs.toArray,?_,⟨_,rfl⟩,?_⟩
  ·have e:results F a.tmps=(do let vs <-F.results.mapM (Pj a.tmps);pure (if h:vs.size=1 then vs[0] else .tuple vs)):=by
    unfold results;congr
   rw[e,El];show Sem.run P _ S2.w=_;simp only[Sem.run_bind,Sem.run_map,h1,Result.andThen_ok,Sem.run_pure];rfl
  ·have:=hN2.st
   rcases hst with rfl|rfl
   ·exact .inl ⟨_,this⟩
   ·obtain⟨k,hk⟩:=this;exact .inr ⟨k,_,hk⟩
 cases z with
 |normal=>exact fin
 |exit id=>exact hq.elim
 |ret=>exact fin
end
end Go.Proofs.YtbcjoeadpjfcfaaGreat.Abs
namespace Go.Proofs.YtbcjoeadpjfcfaaGreat
open Abs
def domL(s:Int):List Span:=if s=1 then [⟨0,255⟩] else if s=2 then [⟨0,55295⟩,⟨57344,1114111⟩] else []
theorem JI(a:Int):PC Tryz.prog 113 [.int .i64 a] (DO ⟨a,0,21,0⟩):=by
 refine BV Sz ?_;unfold Mb;(with_reducible repeat'(first|(simp(disch:=omega)only[push_cast,↓zz,seval])|refine Aa ?_ ?_|(first|refine Ac ?_ ?_|refine Ab ?_ ?_)<;>intro hc<;>(try simp only[push_cast] at hc)|omega|intro _))
def GN(p:Part):Bool:=decide (0<=p.drop/\p.drop<21/\1<=p.take/\p.take<=21/\0<=p.up/\p.up<21/\(p.up=0\/p.take<=6))
theorem Iy(p:Part):PC Tryz.prog 153 [DO p] (.bool (GN p)):=by
 refine BV U6 ?_;unfold N5;(with_reducible repeat'(first|(simp(disch:=omega)only[push_cast,↓zz,seval])|refine Aa ?_ ?_|(first|refine Ac ?_ ?_|refine Ab ?_ ?_)<;>intro hc<;>(try simp only[push_cast] at hc)|omega|intro _))
 all_goals (unfold GN;first|(refine Wg ?_;omega)|(refine Wh ?_;omega)|(refine Ni ?_;omega))
def FH(p:Part)(n:Int):Bool:=decide (0<=p.at_/\p.at_<n)&&GN p
theorem Hu(p:Part)(n:Int):PC Tryz.prog 135 [DO p,.int .i64 n] (.bool (FH p n)):=by
 refine BV SB ?_;unfold Mf;(with_reducible repeat'(first|(simp(disch:=omega)only[push_cast,↓zz,seval])|refine Aa ?_ ?_|(first|refine Ac ?_ ?_|refine Ab ?_ ?_)<;>intro hc<;>(try simp only[push_cast] at hc)|(have q_:=Iy p;(first|refine eK q_ ?_|refine eQ q_ ?_|refine eG q_ ?_);clear q_)|(have q_:=Iy p;(first|refine cK q_ ?_|refine cQ q_ ?_|refine cG q_ ?_);clear q_;(simp(disch:=omega)only[push_cast,↓zz,seval]);(fail_if_success change False))|omega|intro _))
 all_goals (simp[FH, *]<;>omega)
def valP(p:Part)(x:Int):Int:=x / 2 ^ p.drop.toNat % 2 ^ p.take.toNat * 2 ^ p.up.toNat
def valB(p:Part)(x:Int):Bool:=GN p&&decide (0<=x/\x<=2097151)
def val1(p:Part)(x:Int):Int:=if valB p x then valP p x else 0
abbrev valV(p:Part)(x:Int):AV:=.tup [.int .i64 (val1 p x),.bool (valB p x)]
theorem KR{p:Part}:GN p=true↔(0<=p.drop/\p.drop<21/\1<=p.take/\p.take<=21/\0<=p.up/\p.up<21/\(p.up=0\/p.take<=6)):=by simp[GN]
theorem M6(d:Nat)(h:d<=21):(1:Int)<=2 ^ d/\(2:Int) ^ d<=2097152 :=
 ⟨Fo (by decide),by have:=Cx (n:=2) (by decide) h;have e:((2 ^ d:Nat):Int)=2 ^ d:=(by simp);rw[<-e];omega⟩
theorem z94{p:Part}{x:Int}(hb:GN p=true)(hx:0<=x/\x<=2097151):
 IntKind.i64.wrap (JS .and .i64 (x.fdiv (2 ^ min p.drop.toNat IntKind.i64.bits)) (IntKind.i64.wrap (IntKind.i64.wrap (1 * 2 ^ min p.take.toNat IntKind.i64.bits)-1)) * 2 ^ min p.up.toNat IntKind.i64.bits)=valP p x:=by
 rw[KR] at hb;have e1:min p.drop.toNat IntKind.i64.bits=p.drop.toNat:=CW (by show _<=64;omega);have e2:min p.take.toNat IntKind.i64.bits=p.take.toNat:=CW (by show _<=64;omega);have e3:min p.up.toNat IntKind.i64.bits=p.up.toNat:=CW (by show _<=64;omega);rw[e1,e2,e3];have hd:=M6 p.drop.toNat (by omega);have ht:=M6 p.take.toNat (by omega);have hu:=M6 p.up.toNat (by omega);rw[G4,IntWalk.i64_in (2 ^ p.take.toNat) (by omega),IntWalk.i64_in (2 ^ p.take.toNat-1) (by omega),z07 _ _ (by omega)];have q0:0<=x / 2 ^ p.drop.toNat:=Gt hx.1 (by omega);have q1:x / 2 ^ p.drop.toNat<=x:=Int.ediv_le_self _ hx.1;have m0:=Cc (x / 2 ^ p.drop.toNat) (b:=2 ^ p.take.toNat) (by omega);have m1:=BL (x / 2 ^ p.drop.toNat) (b:=2 ^ p.take.toNat) (by omega);rw[z08 p.take.toNat ⟨q0,by show _<(2:Int) ^ 64;omega⟩ (by show _<=64;omega) (IntWalk.i64_in _ (by omega))];refine IntWalk.i64_in _ ?_;have:x / 2 ^ p.drop.toNat % 2 ^ p.take.toNat * 2 ^ p.up.toNat<=2097152 * 2097152:=Int.mul_le_mul (by omega) (by omega) (by omega) (by omega);have:0<=x / 2 ^ p.drop.toNat % 2 ^ p.take.toNat * 2 ^ p.up.toNat:=FD (by omega) (by omega);omega
theorem QU{p:Part}{x:Int}(hb:GN p=true)(hx:0<=x/\x<=2097151):valB p x=true/\val1 p x=valP p x:=by
 have:valB p x=true:=by simp only[valB,hb,Ax,Aj];exact hx
 exact⟨this,by rw[val1,this];rfl⟩
theorem zkv{p:Part}{x:Int}(h:GN p=false\/x<0\/2097151<x):valB p x=false/\val1 p x=0:=by
 have:valB p x=false:=by
  simp only[valB,Bool.and_eq_false_iff,Cr];rcases h with h|h
  ·exact .inl h
  ·exact .inr (by omega)
 exact⟨this,by rw[val1,this];rfl⟩
theorem z2j{p:Part}{x:Int}(h:GN p=false\/x<0\/2097151<x):valV p x=.tup [.int .i64 0,.bool false]:=by
 obtain⟨h1,h2⟩:=zkv h;simp only[valV,h1,h2]
theorem zgc{p:Part}{x:Int}(hb:GN p=true)(hx:0<=x/\x<=2097151):valV p x=.tup [.int .i64 (valP p x),.bool true]:=by
 obtain⟨h1,h2⟩:=QU hb hx;simp only[valV,h1,h2]
theorem Iz(p:Part)(x:Int):PC Tryz.prog 136 [DO p,.int .i64 x] (valV p x):=by
 refine BV SC ?_;unfold Mg;(with_reducible repeat'(first|(simp(disch:=omega)only[push_cast,↓zz,seval])|refine Aa ?_ ?_|(first|refine Ac ?_ ?_|refine Ab ?_ ?_)<;>intro hc<;>(try simp only[push_cast] at hc)|(have q_:=Iy p;(first|refine eK q_ ?_|refine eQ q_ ?_|refine eG q_ ?_);clear q_)|(have q_:=Iy p;(first|refine cK q_ ?_|refine cQ q_ ?_|refine cG q_ ?_);clear q_;(simp(disch:=omega)only[push_cast,↓zz,seval]);(fail_if_success change False))|omega|intro _))
 all_goals first|(have hb:=KR.1 ‹GN p=true›;omega)|(rw[z2j (.inl ‹_›)];(repeat'(first|(simp(disch:=omega)only[push_cast,↓zz,seval,Du])|omega|(with_reducible refine Aa ?_ ?_)));done)|(rw[z2j (.inr (by omega))];(repeat'(first|(simp(disch:=omega)only[push_cast,↓zz,seval,Du])|omega|(with_reducible refine Aa ?_ ?_)));done)|(rw[zgc ‹_› (by omega)];(repeat'(first|(simp(disch:=omega)only[push_cast,↓zz,seval,Du])|omega|(with_reducible refine Aa ?_ ?_)));exact z94 ‹_› (by omega))
theorem FW(s:Int):PC Tryz.prog 72 [.int .i64 s] (AY (domL s)):=by
 refine BV QH ?_;unfold KE;(with_reducible repeat'(first|(simp(disch:=omega)only[push_cast,↓zz,seval])|refine Aa ?_ ?_|(first|refine Ac ?_ ?_|refine Ab ?_ ?_)<;>intro hc<;>(try simp only[push_cast] at hc)|omega|intro _))
 all_goals (simp only[domL, *];rfl)
abbrev Term.outer(t:Term):Part:=⟨0,t.drop,t.take,t.up⟩
theorem GO(t:Term):PC Tryz.prog 137 [Dv t] (DO t.outer):=by
 refine BV SD ?_;unfold Mh;(with_reducible repeat'(first|(simp(disch:=omega)only[push_cast,↓zz,seval])|refine Aa ?_ ?_|(first|refine Ac ?_ ?_|refine Ab ?_ ?_)<;>intro hc<;>(try simp only[push_cast] at hc)|omega|intro _))
def Wv(t:Term):Bool:=decide (t.base=0/\t.drop=0/\t.take=21/\t.up=0)
def Jp(p:Part):Bool:=decide (p.drop=0/\p.take=21/\p.up=0)
theorem Pz(t:Term):PC Tryz.prog 184 [Dv t] (.bool (Wv t)):=by
 refine BV SJ ?_;unfold Mm;(with_reducible repeat'(first|(simp(disch:=omega)only[push_cast,↓zz,seval])|refine Aa ?_ ?_|(first|refine Ac ?_ ?_|refine Ab ?_ ?_)<;>intro hc<;>(try simp only[push_cast] at hc)|(have q_:=GO t;(first|refine eK q_ ?_|refine eQ q_ ?_|refine eG q_ ?_);clear q_)|(have q_:=JI 0;(first|refine eK q_ ?_|refine eQ q_ ?_|refine eG q_ ?_);clear q_)|(have q_:=GO t;(first|refine cK q_ ?_|refine cQ q_ ?_|refine cG q_ ?_);clear q_;(simp(disch:=omega)only[push_cast,↓zz,seval]);(fail_if_success change False))|(have q_:=JI 0;(first|refine cK q_ ?_|refine cQ q_ ?_|refine cG q_ ?_);clear q_;(simp(disch:=omega)only[push_cast,↓zz,seval]);(fail_if_success change False))|omega|intro _))
 all_goals (simp[Wv,Jp,Term.outer, *])
def Dw(x:Int):Bool:=decide (-1114111<=x/\x<=1114111)
theorem JJ(x:Int):PC Tryz.prog 193 [.int .i64 x] (.bool (Dw x)):=by
 refine BV SL ?_;unfold Mp;(with_reducible repeat'(first|(simp(disch:=omega)only[push_cast,↓zz,seval])|refine Aa ?_ ?_|(first|refine Ac ?_ ?_|refine Ab ?_ ?_)<;>intro hc<;>(try simp only[push_cast] at hc)|omega|intro _))
 all_goals (unfold Dw;first|(refine Wg ?_;omega)|(refine Wh ?_;omega)|(refine Ni ?_;omega))
def Ms:List Part->Bool
 |p::q::l=>decide (p.up<q.up)&&Ms (q::l)
 |_=>true
theorem QV:∀{l:List Part}{i:Nat},i+1<l.length->Ms (l.drop i)=(decide ((nth l i).up<(nth l (i+1)).up)&&Ms (l.drop (i+1)))
 |[],i,h=>by simp at h
 |[p],i,h=>by simp at h
 |p::q::l,0,_=>rfl
 |p::q::l,i+1,h=>by
  exact QV (l:=q::l) (i:=i) (by simpa using h)
theorem z2k{l:List Part}{i:Nat}(h:l.length<=i+1):Ms (l.drop i)=true:=by
 match hl:l.drop i with
 |[]=>rfl
 |[p]=>rfl
 |p::q::r=>have:=EL List.length hl;simp at this;omega
theorem NH(l:List Part)(hl:l.length<1000000000000):PC Tryz.prog 194 [Co l] (.bool (Ms l&&decide (l.length<=4))):=by
 refine BV QN ?_;unfold KO;(with_reducible repeat'(first|(simp(disch:=omega)only[push_cast,↓zz,seval])|refine Aa ?_ ?_|(first|refine Ac ?_ ?_|refine Ab ?_ ?_)<;>intro hc<;>(try simp only[push_cast] at hc)|omega|intro _));refine B4 (BK (λ(i:Nat)=>i<=l.length/\Ms l=Ms (l.drop (i-1))) (λi=>l.length-i) (λi=>[(0,Co l),(5,Co l),(6,.int .i64 l.length),(7,.int .i64 i)]) (λ_=>[]) (λ_ _=>[]) 0 (by simp) ?_ ?_)
 ·(with_reducible repeat'(first|(simp(disch:=omega)only[push_cast,↓zz,seval])|refine Aa ?_ ?_|(first|refine Ac ?_ ?_|refine Ab ?_ ?_)<;>intro hc<;>(try simp only[push_cast] at hc)|omega|intro _))
 rintro i ⟨hi,hr⟩;refine W_T ?_;(with_reducible repeat'(first|(simp(disch:=omega)only[push_cast,↓zz,seval])|refine Aa ?_ ?_|(first|refine Ac ?_ ?_|refine Ab ?_ ?_)<;>intro hc<;>(try simp only[push_cast] at hc)|omega|intro _))
 ·rename_i h1 h2
  rw[hr,QV (i:=i-1) (by omega),show i-1+1=i by omega];have:¬(nth l (i-1)).up<(nth l i).up:=by omega
  simp[this]
 ·refine⟨i+1,?_⟩
  (with_reducible repeat'(first|(simp(disch:=omega)only[push_cast,↓zz,seval])|refine Aa ?_ ?_|(first|refine Ac ?_ ?_|refine Ab ?_ ?_)<;>intro hc<;>(try simp only[push_cast] at hc)|omega|intro _));rw[hr,QV (i:=i-1) (by omega),show i-1+1=i by omega];have:(nth l (i-1)).up<(nth l i).up:=by omega
  simp[this]
 ·refine⟨i+1,?_⟩
  (with_reducible repeat'(first|(simp(disch:=omega)only[push_cast,↓zz,seval])|refine Aa ?_ ?_|(first|refine Ac ?_ ?_|refine Ab ?_ ?_)<;>intro hc<;>(try simp only[push_cast] at hc)|omega|intro _));obtain rfl:i=0:=by omega
  exact hr
 ·rw[hr,z2k (i:=i-1) (by omega),Ax]
  exact Ni (by omega)
def ET(t:Term):Bool:=Dw t.base&&Dw t.sum&&GN t.outer&&(Ms t.parts&&decide (t.parts.length<=4))
theorem UG(t:Term):FH t.outer 1=GN t.outer:=by simp[FH]
theorem NI(t:Term):PC Tryz.prog 135 [DO t.outer,.int .i64 1] (.bool (GN t.outer)):=by rw[<-UG];exact Hu t.outer 1
theorem Jq(t:Term)(hl:t.parts.length<1000000000000):PC Tryz.prog 183 [Dv t] (.bool (ET t)):=by
 refine BV OQ ?_;unfold Kb;(with_reducible repeat'(first|(simp(disch:=omega)only[push_cast,↓zz,seval])|refine Aa ?_ ?_|(first|refine Ac ?_ ?_|refine Ab ?_ ?_)<;>intro hc<;>(try simp only[push_cast] at hc)|(have q_:=JJ t.base;(first|refine eK q_ ?_|refine eQ q_ ?_|refine eG q_ ?_);clear q_)|(have q_:=JJ t.sum;(first|refine eK q_ ?_|refine eQ q_ ?_|refine eG q_ ?_);clear q_)|(have q_:=GO t;(first|refine eK q_ ?_|refine eQ q_ ?_|refine eG q_ ?_);clear q_)|(have q_:=NI t;(first|refine eK q_ ?_|refine eQ q_ ?_|refine eG q_ ?_);clear q_)|(have q_:=NH t.parts hl;(first|refine eK q_ ?_|refine eQ q_ ?_|refine eG q_ ?_);clear q_)|(have q_:=JJ t.base;(first|refine cK q_ ?_|refine cQ q_ ?_|refine cG q_ ?_);clear q_;(simp(disch:=omega)only[push_cast,↓zz,seval]);(fail_if_success change False))|(have q_:=JJ t.sum;(first|refine cK q_ ?_|refine cQ q_ ?_|refine cG q_ ?_);clear q_;(simp(disch:=omega)only[push_cast,↓zz,seval]);(fail_if_success change False))|(have q_:=GO t;(first|refine cK q_ ?_|refine cQ q_ ?_|refine cG q_ ?_);clear q_;(simp(disch:=omega)only[push_cast,↓zz,seval]);(fail_if_success change False))|(have q_:=NI t;(first|refine cK q_ ?_|refine cQ q_ ?_|refine cG q_ ?_);clear q_;(simp(disch:=omega)only[push_cast,↓zz,seval]);(fail_if_success change False))|(have q_:=NH t.parts hl;(first|refine cK q_ ?_|refine cQ q_ ?_|refine cG q_ ?_);clear q_;(simp(disch:=omega)only[push_cast,↓zz,seval]);(fail_if_success change False))|omega|intro _))
 all_goals (simp[ET, *])
def z95(s:Int):Bool:=decide (s=1\/s=2)
def GP(i n:Int)(l:List Part):Bool:=l.all λp=>FH p n&&(decide (i≠2)||Jp p)
def I0(t:Term)(i o n:Int):Bool:=z95 i&&z95 o&&ET t&&GP i n t.parts&&(decide (i≠2)||decide (t.parts.length<=1))&&(decide (o≠2)||Wv t)
theorem QW(s:Int):decide (((domL s).length:Int)=0)=!z95 s:=by
 unfold domL z95;split
 ·subst_vars;decide
 ·split
  ·subst_vars;decide
  ·simp[*]
theorem zkw(l:List Part):(l.length<=1)=((l.length:Int)<=1):=by simp only[eq_iff_iff];omega
theorem YH(t:Term)(i o n:Int)(hl:t.parts.length<1000000000000):PC Tryz.prog 166 [Dv t,.int .i64 i,.int .i64 o,.int .i64 n] (.bool (I0 t i o n)):=by
 refine BV SH ?_;unfold Mk;(with_reducible repeat'(first|(simp(disch:=omega)only[push_cast,↓zz,seval,QW])|refine Aa ?_ ?_|(first|refine Ac ?_ ?_|refine Ab ?_ ?_)<;>intro hc<;>(try simp only[push_cast] at hc)|(have q_:=FW i;(first|refine eK q_ ?_|refine eQ q_ ?_|refine eG q_ ?_);clear q_)|(have q_:=FW o;(first|refine eK q_ ?_|refine eQ q_ ?_|refine eG q_ ?_);clear q_)|(have q_:=Jq t hl;(first|refine eK q_ ?_|refine eQ q_ ?_|refine eG q_ ?_);clear q_)|(have q_:=FW i;(first|refine cK q_ ?_|refine cQ q_ ?_|refine cG q_ ?_);clear q_;(simp(disch:=omega)only[push_cast,↓zz,seval,QW]);(fail_if_success change False))|(have q_:=FW o;(first|refine cK q_ ?_|refine cQ q_ ?_|refine cG q_ ?_);clear q_;(simp(disch:=omega)only[push_cast,↓zz,seval,QW]);(fail_if_success change False))|(have q_:=Jq t hl;(first|refine cK q_ ?_|refine cQ q_ ?_|refine cG q_ ?_);clear q_;(simp(disch:=omega)only[push_cast,↓zz,seval,QW]);(fail_if_success change False))|omega|intro _))
 ·simp[I0, *]
 ·have hn:I0 t i o n=(GP i n t.parts&&(decide (i≠2)||decide ((t.parts.length:Int)<=1))&&(decide (o≠2)||Wv t)):=by simp[I0,zkw, *]
  rw[hn];refine B4 (BK (λ(k:Nat)=>k<=t.parts.length/\GP i n t.parts=GP i n (t.parts.drop k)) (λk=>t.parts.length-k) (λk=>[(1,.int .i64 i),(2,.int .i64 o),(3,.int .i64 n),(4,.ptr 0 1 0 0),(27,Co t.parts),(28,.int .i64 t.parts.length),(29,.int .i64 k)]) (λ_=>[⟨6,1,true,[Dv t]⟩]) (λenv _=>[C0 0 (env 4)]) 0 (by simp) ?_ ?_)
  ·(with_reducible repeat'(first|(simp(disch:=omega)only[push_cast,↓zz,seval])|refine Aa ?_ ?_|(first|refine Ac ?_ ?_|refine Ab ?_ ?_)<;>intro hc<;>(try simp only[push_cast] at hc)|omega|intro _))
  rintro k ⟨hi,hr⟩;refine W_T ?_;(with_reducible repeat'(first|(simp(disch:=omega)only[push_cast,↓zz,seval])|refine Aa ?_ ?_|(first|refine Ac ?_ ?_|refine Ab ?_ ?_)<;>intro hc<;>(try simp only[push_cast] at hc)|(have q_:=Hu (nth t.parts k) n;(first|refine eK q_ ?_|refine eQ q_ ?_|refine eG q_ ?_);clear q_)|(have q_:=JI (nth t.parts k).at_;(first|refine eK q_ ?_|refine eQ q_ ?_|refine eG q_ ?_);clear q_)|(have q_:=Pz t;(first|refine eK q_ ?_|refine eQ q_ ?_|refine eG q_ ?_);clear q_)|(have q_:=Hu (nth t.parts k) n;(first|refine cK q_ ?_|refine cQ q_ ?_|refine cG q_ ?_);clear q_;(simp(disch:=omega)only[push_cast,↓zz,seval]);(fail_if_success change False))|(have q_:=JI (nth t.parts k).at_;(first|refine cK q_ ?_|refine cQ q_ ?_|refine cG q_ ?_);clear q_;(simp(disch:=omega)only[push_cast,↓zz,seval]);(fail_if_success change False))|(have q_:=Pz t;(first|refine cK q_ ?_|refine cQ q_ ?_|refine cG q_ ?_);clear q_;(simp(disch:=omega)only[push_cast,↓zz,seval]);(fail_if_success change False))|omega|intro _))
  all_goals (first|(refine⟨k+1,?_⟩;(with_reducible repeat'(first|(simp(disch:=omega)only[push_cast,↓zz,seval])|refine Aa ?_ ?_|(first|refine Ac ?_ ?_|refine Ab ?_ ?_)<;>intro hc<;>(try simp only[push_cast] at hc)|omega|intro _));(try (first|(rw[hr,drop_at (by omega)];simp[GP,Jp, *];done)|(rw[hr,A6 (by omega)];simp[GP,Jp, *];done)|(simp[GP,Jp, *];done)));done)|(first|(rw[hr,drop_at (by omega)];simp[GP,Jp, *];done)|(rw[hr,A6 (by omega)];simp[GP,Jp, *];done)|(simp[GP,Jp, *];done)))
 all_goals (simp[I0, *])
theorem UH(l:List Part)(hl:l.length<=1000000000000):PC Tryz.prog 97 [Co l] (Co l):=by
 by_cases h0:l=[]
 ·subst h0
  refine z1v ?_ ?_
  ·refine BV DI ?_
   unfold CR;(with_reducible repeat'(first|(simp(disch:=omega)only[push_cast,↓zz,seval])|refine Aa ?_ ?_|(first|refine Ac ?_ ?_|refine Ab ?_ ?_)<;>intro hc<;>(try simp only[push_cast] at hc)|omega|intro _))
  ·refine BV DI ?_
   unfold CR;(with_reducible repeat'(first|(simp(disch:=omega)only[push_cast,↓zz,seval])|refine Aa ?_ ?_|(first|refine Ac ?_ ?_|refine Ab ?_ ?_)<;>intro hc<;>(try simp only[push_cast] at hc)|omega|intro _))
 ·refine BV DI ?_
  unfold CR;(with_reducible repeat'(first|(simp(disch:=omega)only[push_cast,↓zz,seval,h0])|refine Aa ?_ ?_|(first|refine Ac ?_ ?_|refine Ab ?_ ?_)<;>intro hc<;>(try simp only[push_cast] at hc)|omega|intro _))
def sumP(w:List Int):List Part->Int->Option Int
 |[],a=>some a
 |p::l,a=>if FH p w.length then sumP w l (IntKind.i64.wrap (a+val1 p (nth w p.at_.toNat))) else none
def symB(x:Int):Bool:=decide (0<=x/\x<=1114111)
def EU(t:Term)(w:List Int):Option Int :=
 if w.all symB then
  match sumP w t.parts t.sum with
  |some x=>if valB t.outer x&&decide (x<=1114111) then some (IntKind.i64.wrap (t.base+valP t.outer x)) else none
  |none=>none
 else none
abbrev optV(o:Option Int):AV:=.tup [.int .i64 (o.getD 0),.bool o.isSome]
theorem zkx{w:List Int}{l:List Part}{k:Nat}{a:Int}(h:k<l.length):sumP w (l.drop k) a=if FH (nth l k) w.length then sumP w (l.drop (k+1)) (IntKind.i64.wrap (a+val1 (nth l k) (nth w (nth l k).at_.toNat))) else none:=by
 rw[drop_at h,sumP]
theorem AU{p:Part}{n:Int}(h:FH p n=true):0<=p.at_/\p.at_<n:=by
 simp only[FH,Ad,Aj] at h;exact h.1
theorem z2l{w:List Int}{k:Nat}(h:k<w.length):(w.drop k).all symB=(symB (nth w k)&&(w.drop (k+1)).all symB):=by rw[drop_at h,List.all_cons]
theorem YI(t:Term)(w:List Int)(hl:t.parts.length<=1000000000000)(hw:w.length<=1000000000000)(h32:∀x∈w,-2147483648<=x/\x<=2147483647):PC Tryz.prog 103 [Dv t,Bf w] (optV (EU t w)):=by
 refine BV Sy ?_;unfold Ma;(with_reducible repeat'(first|(simp(disch:=omega)only[push_cast,↓zz,seval])|refine Aa ?_ ?_|(first|refine Ac ?_ ?_|refine Ab ?_ ?_)<;>intro hc<;>(try simp only[push_cast] at hc)|omega|intro _));refine B4 (BK (λ(k:Nat)=>k<=w.length/\w.all symB=(w.drop k).all symB) (λk=>w.length-k) (λk=>[(1,Bf w),(2,.ptr 0 1 0 0),(15,Bf w),(16,.int .i64 w.length),(17,.int .i64 k)]) (λ_=>[⟨6,1,true,[Dv t]⟩]) (λenv _=>[C0 0 (env 2)]) 0 (by simp) ?_ ?_)
 ·(with_reducible repeat'(first|(simp(disch:=omega)only[push_cast,↓zz,seval])|refine Aa ?_ ?_|(first|refine Ac ?_ ?_|refine Ab ?_ ?_)<;>intro hc<;>(try simp only[push_cast] at hc)|omega|intro _))
 rintro k ⟨hk,hr⟩;refine W_T ?_;(with_reducible repeat'(first|(simp(disch:=omega)only[push_cast,↓zz,seval])|refine Aa ?_ ?_|(first|refine Ac ?_ ?_|refine Ab ?_ ?_)<;>intro hc<;>(try simp only[push_cast] at hc)|omega|intro _))
 ·have e:EU t w=none:=by
   rw[z2l (by omega)] at hr;have:symB (nth w k)=false:=by simp[symB];omega
   simp[EU,hr,this]
  rw[e];(repeat'(first|(simp(disch:=omega)only[push_cast,↓zz,seval,Du])|omega|(with_reducible refine Aa ?_ ?_)))
 ·refine⟨k+1,?_⟩
  (with_reducible repeat'(first|(simp(disch:=omega)only[push_cast,↓zz,seval])|refine Aa ?_ ?_|(first|refine Ac ?_ ?_|refine Ab ?_ ?_)<;>intro hc<;>(try simp only[push_cast] at hc)|omega|intro _));rw[hr,z2l (by omega)];have:symB (nth w k)=true:=by simp[symB];omega
  simp[this]
 ·have e:EU t w=none:=by
   rw[z2l (by omega)] at hr;have:symB (nth w k)=false:=by simp[symB];omega
   simp[EU,hr,this]
  rw[e];(repeat'(first|(simp(disch:=omega)only[push_cast,↓zz,seval,Du])|omega|(with_reducible refine Aa ?_ ?_)))
 ·have hall:w.all symB=true:=by rw[hr,A6 (by omega)];rfl
  clear hr;have hw32:∀j,j<w.length->IntKind.i64.wrap (nth w j)=nth w j:=λj hj=>by have:=h32 _ (B2 hj);exact IntWalk.i64_in _ (by omega)
  refine B4 (BK (λ(s:Nat × Int)=>s.1<=t.parts.length/\sumP w t.parts t.sum=sumP w (t.parts.drop s.1) s.2) (λs=>t.parts.length-s.1) (λs=>[(1,Bf w),(2,.ptr 0 1 0 0),(8,.int .i64 s.2),(31,Co t.parts),(32,.int .i64 t.parts.length),(33,.int .i64 s.1)]) (λ_=>[⟨6,1,true,[Dv t]⟩]) (λenv _=>[C0 0 (env 2)]) (0,t.sum) (by simp) ?_ ?_)
  ·(with_reducible repeat'(first|(simp(disch:=omega)only[push_cast,↓zz,seval])|refine Aa ?_ ?_|(first|refine Ac ?_ ?_|refine Ab ?_ ?_)<;>intro hc<;>(try simp only[push_cast] at hc)|omega|intro _))
  rintro⟨k,a⟩ ⟨hk,hr2⟩;simp only at hk hr2;refine W_T ?_;(with_reducible repeat'(first|(simp(disch:=omega)only[push_cast,↓zz,seval,hw32])|refine Aa ?_ ?_|(first|refine Ac ?_ ?_|refine Ab ?_ ?_)<;>intro hc<;>(try simp only[push_cast] at hc)<;>(try have hk:=AU hc)|(have q_:=Hu (nth t.parts k) w.length;(first|refine eK q_ ?_|refine eQ q_ ?_|refine eG q_ ?_);clear q_)|(have q_:=Iz (nth t.parts k) (nth w (nth t.parts k).at_.toNat);(first|refine eK q_ ?_|refine eQ q_ ?_|refine eG q_ ?_);clear q_)|(have q_:=GO t;(first|refine eK q_ ?_|refine eQ q_ ?_|refine eG q_ ?_);clear q_)|(have q_:=Iz t.outer a;(first|refine eK q_ ?_|refine eQ q_ ?_|refine eG q_ ?_);clear q_)|(have q_:=Hu (nth t.parts k) w.length;(first|refine cK q_ ?_|refine cQ q_ ?_|refine cG q_ ?_);clear q_;(simp(disch:=omega)only[push_cast,↓zz,seval,hw32]);(fail_if_success change False))|(have q_:=Iz (nth t.parts k) (nth w (nth t.parts k).at_.toNat);(first|refine cK q_ ?_|refine cQ q_ ?_|refine cG q_ ?_);clear q_;(simp(disch:=omega)only[push_cast,↓zz,seval,hw32]);(fail_if_success change False))|(have q_:=GO t;(first|refine cK q_ ?_|refine cQ q_ ?_|refine cG q_ ?_);clear q_;(simp(disch:=omega)only[push_cast,↓zz,seval,hw32]);(fail_if_success change False))|(have q_:=Iz t.outer a;(first|refine cK q_ ?_|refine cQ q_ ?_|refine cG q_ ?_);clear q_;(simp(disch:=omega)only[push_cast,↓zz,seval,hw32]);(fail_if_success change False))|omega|intro _))
  all_goals first
   |(rw[zkx (by omega)] at hr2
     first
     |(have e:EU t w=none:=by simp[EU, *]
       rw[e];(repeat'(first|(simp(disch:=omega)only[push_cast,↓zz,seval,Du])|omega|(with_reducible refine Aa ?_ ?_)));done)
     |(refine⟨(k+1,IntKind.i64.wrap (a+val1 (nth t.parts k) (nth w (nth t.parts k).at_.toNat))),?_⟩
       (with_reducible repeat'(first|(simp(disch:=omega)only[push_cast,↓zz,seval])|refine Aa ?_ ?_|(first|refine Ac ?_ ?_|refine Ab ?_ ?_)<;>intro hc<;>(try simp only[push_cast] at hc)|omega|intro _))
       rw[hr2];simp[‹FH (nth t.parts k) w.length=true›];done))
   |(rw[A6 (by omega)] at hr2
     (have hs:sumP w t.parts t.sum=some a:=hr2)
     (have hv:EU t w=if valB t.outer a&&decide (a<=1114111) then some (IntKind.i64.wrap (t.base+valP t.outer a)) else none:=by simp only[EU,hall,hs,Br])
     first
     |(rw[hv,Ah (by simp only[Ad,Aj,not_and];intro h;first|omega|(rw[‹valB t.outer a=false›] at h;cases h))];(repeat'(first|(simp(disch:=omega)only[push_cast,↓zz,seval,Du])|omega|(with_reducible refine Aa ?_ ?_)));done)
     |((have hv1:val1 t.outer a=valP t.outer a:=by simp only[val1,‹valB t.outer a=true›,Br])
       rw[hv,Ai (by simp only[Ad,Aj];exact⟨‹_›,by omega⟩),hv1];(repeat'(first|(simp(disch:=omega)only[push_cast,↓zz,seval,Du])|omega|(with_reducible refine Aa ?_ ?_)));done))
theorem z2m{x:Int}:Dw x=true ↔ -1114111<=x/\x<=1114111:=by simp[Dw]
theorem IF{x:Int}(h:Dw x=true):-1114111<=x/\x<=1114111:=z2m.1 h
end Go.Proofs.YtbcjoeadpjfcfaaGreat
namespace Go.Proofs.YtbcjoeadpjfcfaaGreat
open Abs
abbrev wr(n:Int):Int:=IntKind.i64.wrap n
theorem z2n(n:Int):wr n=(n+9223372036854775808) % 18446744073709551616-9223372036854775808:=by
 show IntKind.i64.wrap n=_;rw[IntWalk.i64_left];unfold RowKit.wrap64;rfl
theorem zgd{n:Int}(h:-9223372036854775808<=n/\n<=9223372036854775807):wr n=n:=by rw[z2n];omega
theorem wr_wr(a b:Int):wr (wr a+b)=wr (a+b):=by rw[z2n,z2n a,z2n (a+b)];omega
theorem wr_bd(a:Int):-9223372036854775808<=wr a/\wr a<=9223372036854775807:=by rw[z2n];omega
def totP(w:List Int):List Part->Int
 |[]=>0
 |p::l=>val1 p (nth w p.at_.toNat)+totP w l
def L9(w:List Int)(l:List Part):Bool:=l.all λp=>FH p w.length
theorem z2o(w:List Int):∀(l:List Part)(a:Int),wr a=a->sumP w l a=if L9 w l then some (wr (a+totP w l)) else none
 |[],a,h=>by simp[sumP,L9,totP,h]
 |p::l,a,h=>by
  rw[sumP];cases hp:FH p w.length
  ·simp[L9,hp]
  ·have ih:=z2o w l (wr (a+val1 p (nth w p.at_.toNat))) (by rw[zgd (wr_bd _)])
   rw[Ai rfl];have e:wr (wr (a+val1 p (nth w p.at_.toNat))+totP w l)=wr (a+totP w (p::l)):=by rw[wr_wr,totP];congr 1;omega
   rw[e] at ih;simp only[L9,List.all_cons,hp,Ax] at ih ⊢;exact ih
theorem z2p{p:Part}{x:Int}(h:Jp p=true)(hx:0<=x/\x<=2097151):GN p=true/\valB p x=true/\valP p x=x:=by
 simp only[Jp,Aj] at h;obtain⟨h1,h2,h3⟩:=h;have hb:GN p=true:=by simp[GN,h1,h2,h3]
 refine⟨hb,(QU hb hx).1,?_⟩;rw[valP,h1,h2,h3];show x / 2 ^ 0 % 2 ^ 21 * 2 ^ 0=x;omega
end Go.Proofs.YtbcjoeadpjfcfaaGreat
namespace Go.Proofs.YtbcjoeadpjfcfaaGreat
open Abs Go.RowKit
abbrev shI:Sh:=.int .i64
abbrev z2q:Sh:=.sl true [shI,shI]
abbrev QX:Sh:=.sl false [z2q]
abbrev zge:Sh:=.sl false [.int .i32]
abbrev z2r:Sh:=.sl true [shI,shI,shI,shI]
abbrev z2s:List Sh:=[shI,shI,shI,shI,shI,z2r]
abbrev UI:Sh:=.sl true z2s
abbrev z2t:List Sh:=[shI,shI,QX,shI,UI]
abbrev Ww:List Sh:=[shI,QX,UI]
abbrev z2u:List Sh:=[shI,shI,shI,shI,.sl true z2t,.sl true Ww]
theorem wf_i32{n:Int}(h:(Lit.int .i32 n).wf=true):-2147483648<=n/\n<=2147483647:=by
 simpa [Lit.wf,IntKind.min,IntKind.max,IntKind.signed,IntKind.bits] using h
theorem wf_u8{n:Int}(h:(Lit.int .u8 n).wf=true):0<=n/\n<=255:=by
 simpa [Lit.wf,IntKind.min,IntKind.max,IntKind.signed,IntKind.bits] using h
theorem Kv{α:Type}{agg:Bool}{fs:List Sh}{x:AV}(f:α->AV)(Q:α->Prop)(hp:∀l:List α,AT (l.map f)=true)(hpos:0<fs.length)
 (he:∀cs,IsL fs cs->∃a,AV.le (if agg then .agg cs else cs.headD .any) (f a)/\Q a) (h:Is (.sl agg fs) x):∃l:List α,AV.le x (.lst fs.length (l.map f))/\l.length<=maxLen/\∀a∈l,Q a:=by
 rcases h with rfl|⟨xs,rfl,hl,hx⟩
 ·exact⟨[],AV.le_nilS hpos,AD _,λ_ h=>by cases h⟩
 ·have key:∀xs:List AV,(∀y∈xs,∃cs,y=(if agg then AV.agg cs else cs.headD .any)/\IsL fs cs)->∃l:List α,l.length=xs.length/\leL xs (l.map f)/\∀a∈l,Q a:=by
   intro xs
   induction xs with
   |nil=>intro _;exact⟨[],rfl,E1,λ_ h=>by cases h⟩
   |cons y r ih =>
    intro hy;obtain⟨l,h1,h2,h3⟩:=ih λz hz=>hy z (List.mem_cons_of_mem _ hz);obtain⟨cs,rfl,hcs⟩:=hy y (List.mem_cons_self ..);obtain⟨a,h4,h5⟩:=he cs hcs;refine⟨a::l,by simp[h1],Bp h4 h2,λb hb=>?_⟩;rcases Ag.1 hb with rfl|hb
    ·exact h5
    ·exact h3 b hb
  obtain⟨l,h1,h2,h3⟩:=key xs hx;exact⟨l,AV.le_lst (by simp[h1]) (hp l) h2,by rw[h1];exact hl,h3⟩
def i64s(l:List Int):Prop:=∀n∈l,(Lit.int .i64 n).wf=true
theorem zgf{k:IntKind}{x:AV}(h:Is (.sl false [.int k]) x):∃l:List Int,AV.le x (.lst 1 (l.map (AV.int k)))/\l.length<=maxLen/\∀n∈l,(Lit.int k n).wf=true :=
 Kv (fs:=[.int k]) (AV.int k) (λn=>(Lit.int k n).wf=true) (Cv k) (by simp) (λcs h=>by
  obtain⟨_,_,rfl,⟨n,rfl,h3⟩,_⟩:=h
  exact⟨n,AV.le_refl _,h3⟩) h
def P0(s:Span):Prop:=i64s [s.lo,s.hi]
theorem z96{x:AV}(h:Is z2q x):∃l:List Span,AV.le x (AY l)/\l.length<=maxLen/\∀s∈l,P0 s :=
 Kv Dl P0 FC (by decide) (λcs h=>by
  obtain⟨_,_,rfl,⟨a,rfl,ha⟩,_,_,rfl,⟨b,rfl,hb⟩,rfl⟩:=h
  exact⟨⟨a,b⟩,AV.le_refl _,by simp[P0,i64s,ha,hb]⟩) h
theorem SS{x:AV}(h:Is QX x):∃l:List (List Span),AV.le x (Bs l)/\l.length<=maxLen/\∀g∈l,g.length<=maxLen/\∀s∈g,P0 s :=
 Kv AY (λg=>g.length<=maxLen/\∀s∈g,P0 s) AL (by decide) (λcs h=>by
  obtain⟨c,_,rfl,hc,_⟩:=h;obtain⟨l,h1,h2,h3⟩:=z96 hc
  exact⟨l,h1,h2,h3⟩) h
def Wx(p:Part):Prop:=i64s [p.at_,p.drop,p.take,p.up]
theorem z97{x:AV}(h:Is z2r x):∃l:List Part,AV.le x (Co l)/\l.length<=maxLen/\∀s∈l,Wx s :=
 Kv DO Wx Io (by decide) (λcs h=>by
  obtain⟨_,_,rfl,⟨a,rfl,ha⟩,_,_,rfl,⟨b,rfl,hb⟩,_,_,rfl,⟨c,rfl,hc⟩,_,_,rfl,⟨d,rfl,hd⟩,rfl⟩:=h
  exact⟨⟨a,b,c,d⟩,AV.le_refl _,by simp[Wx,i64s,ha,hb,hc,hd]⟩) h
def Wz(t:Term):Prop:=i64s [t.base,t.drop,t.take,t.up,t.sum]/\t.parts.length<=maxLen/\∀p∈t.parts,Wx p
theorem z98{cs:List AV}(h:IsL z2s cs):∃t:Term,AV.le (.agg cs) (Dv t)/\Wz t:=by
 obtain⟨_,_,rfl,⟨a,rfl,ha⟩,_,_,rfl,⟨b,rfl,hb⟩,_,_,rfl,⟨c,rfl,hc⟩,_,_,rfl,⟨d,rfl,hd⟩,_,_,rfl,⟨e,rfl,he⟩,x,_,rfl,hx,rfl⟩:=h;obtain⟨l,h1,h2,h3⟩:=z97 hx;exact⟨⟨a,b,c,d,e,l⟩,AV.le_agg (Bp (AV.le_refl _) (Bp (AV.le_refl _) (Bp (AV.le_refl _) (Bp (AV.le_refl _) (Bp (AV.le_refl _) (Bp h1 E1)))))),by simp[i64s,ha,hb,hc,hd,he],h2,h3⟩
theorem W0{x:AV}(h:Is UI x):∃l:List Term,AV.le x (C9 l)/\l.length<=maxLen/\∀t∈l,Wz t :=
 Kv Dv Wz B5 (by decide) (λcs h=>by simpa using z98 h) h
def W2(g:List (List Span)):Prop:=g.length<=maxLen/\∀l∈g,l.length<=maxLen/\∀s∈l,P0 s
def z2v(l:List Term):Prop:=l.length<=maxLen/\∀t∈l,Wz t
def z2w(r:Rule):Prop:=i64s [r.from_,r.to_,r.eat]/\W2 r.guards/\z2v r.out
def UJ(f:Es):Prop:=i64s [f.from_]/\W2 f.guards/\z2v f.out
theorem zgg{cs:List AV}(h:IsL z2t cs):∃r:Rule,AV.le (.agg cs) (D6 r)/\z2w r:=by
 obtain⟨_,_,rfl,⟨a,rfl,ha⟩,_,_,rfl,⟨b,rfl,hb⟩,x,_,rfl,hx,_,_,rfl,⟨c,rfl,hc⟩,y,_,rfl,hy,rfl⟩:=h;obtain⟨g,g1,g2,g3⟩:=SS hx;obtain⟨o,o1,o2,o3⟩:=W0 hy;exact⟨⟨a,b,g,c,o⟩,AV.le_agg (Bp (AV.le_refl _) (Bp (AV.le_refl _) (Bp g1 (Bp (AV.le_refl _) (Bp o1 E1))))),by simp[i64s,ha,hb,hc],⟨g2,g3⟩,o2,o3⟩
theorem z99{cs:List AV}(h:IsL Ww cs):∃r:Es,AV.le (.agg cs) (CB r)/\UJ r:=by
 obtain⟨_,_,rfl,⟨a,rfl,ha⟩,x,_,rfl,hx,y,_,rfl,hy,rfl⟩:=h;obtain⟨g,g1,g2,g3⟩:=SS hx;obtain⟨o,o1,o2,o3⟩:=W0 hy;exact⟨⟨a,g,o⟩,AV.le_agg (Bp (AV.le_refl _) (Bp g1 (Bp o1 E1))),by simp[i64s,ha],⟨g2,g3⟩,o2,o3⟩
def zky(d:Desc):Prop:=i64s [d.in_,d.out,d.states,d.start]/\(d.rules.length<=maxLen/\∀r∈d.rules,z2w r)/\d.finals.length<=maxLen/\∀f∈d.finals,UJ f
theorem zgh{x:AV}(h:IsP (.rcd z2u) x):∃d:Desc,AV.le x (Dm d)/\zky d:=by
 obtain⟨_,rfl,_,_,rfl,⟨a,rfl,ha⟩,_,_,rfl,⟨b,rfl,hb⟩,_,_,rfl,⟨c,rfl,hc⟩,_,_,rfl,⟨e,rfl,he⟩,x,_,rfl,hx,y,_,rfl,hy,rfl⟩:=h;obtain⟨r,r1,r2,r3⟩:=Kv D6 z2w B8 (by decide) (λcs h=>by simpa using zgg h) hx;obtain⟨f,f1,f2,f3⟩:=Kv CB UJ B6 (by decide) (λcs h=>by simpa using z99 h) hy;exact⟨⟨a,b,c,e,r,f⟩,AV.le_agg (Bp (AV.le_refl _) (Bp (AV.le_refl _) (Bp (AV.le_refl _) (Bp (AV.le_refl _) (Bp r1 (Bp f1 E1)))))),by simp[i64s,ha,hb,hc,he],⟨r2,r3⟩,f2,f3⟩
end Go.Proofs.YtbcjoeadpjfcfaaGreat
namespace Go.Proofs.YtbcjoeadpjfcfaaGreat
open Abs
theorem z9a{o:Option Int}(h:o.isSome=true):o=some (o.getD 0):=by cases o<;>simp_all
end Go.Proofs.YtbcjoeadpjfcfaaGreat
namespace Go.Proofs.YtbcjoeadpjfcfaaGreat.Abs
section
variable {P:Program}{n b:Nat}{Q:Ex->Env->A7->Prop}
def NJ(P:Program)(n b:Nat)(c:AC)(Q:Ex->Env->A7->Prop):Nat->Env->A7->Prop
 |0,_,_=>False
 |m+1,env,H=>T P n b c env H (Ex.then (NJ P n b c Q m) Q)
theorem SU{c:AC}{d:Code}(hd:EO P n d=some c){rd:Option Nat}{mm:Nat}(hrd:c.free=true\/rd=none){S0:MS}:∀(m:Nat)(env:Env)(H:A7)(S:MS)(a:Act),BEvo b S0 S->SRel S H->FRel S n env a->NJ P n b c Q m env H ->
 Code.roundsIn (fen rd) mm P d (After S0 n b Q) m a S.w
 |0,_,_,_,_,_,_,_,h=>h.elim
 |m+1,env,H,S,a,e0,hS,hF,h=>by
  rw[Code.roundsIn];refine wpIn_mono (h rd mm hrd d hd S a e0.n hS hF) λe a' w' hh=>?_;obtain⟨S2,env2,H2,z,rfl,e2,hS2,hF2,rfl,hq⟩:=hh;cases z with
  |normal=>exact SU hd hrd m env2 H2 S2 a' (e0.trans e2) hS2 hF2 hq
  |exit id=>exact⟨S2,env2,H2,.exit id,rfl,e0.trans e2,hS2,hF2,rfl,hq⟩
  |ret=>exact⟨S2,env2,H2,.ret,rfl,e0.trans e2,hS2,hF2,rfl,hq⟩
theorem W3{c:AC}{env:Env}{H:A7}(m:Nat)(h:NJ P n b c Q m env H):T P n b (.loop c) env H Q:=T_of λrd mm hrd code hc hs S a hb hS hF=>by
 cases code<;>simp only[EO,reduceCtorEq,Ap] at hc
 case loop d =>
  obtain⟨x,hx,hh⟩:=Af.1 hc;cases hh;exact wpIn_loop_rounds m (SU hx hrd m env H S a (.refl hb) hS hF h)
 case region=>exact absurd hc DD
 case seq=>split at hc<;>cases hc
 case cond=>split at hc<;>cases hc
 case block=>obtain⟨_,_,h⟩:=Af.1 hc;cases h
 case rangeFunc=>split at hc<;>cases hc
 case scope d=>exact absurd rfl (hs d)
theorem BW{c:AC}{env:Env}{H:A7}(m:Nat)(h:W P n b c env H (Ex.then (NJ P n b c Q m) Q)):@JV ⟨T P n b (.loop c) env H Q⟩:=W3 (m+1) (W_T h)
theorem C4{c:AC}{env:Env}{H:A7}(m:Nat)(srcs:Env->List Src)(live:List (Nat × AV))(heap:List Grp)(he:Head b env H (srcs env) live heap)(h:W P n b c (E4 live) (hl heap) (Ex.then (NJ P n b c Q m) Q)):@JV ⟨T P n b (.loop c) env H Q⟩:=Np he (W3 (m+1) (W_T h))
theorem Bj{c:AC}{env:Env}{H:A7}{m:Nat}(h:W P n b c env H (Ex.then (NJ P n b c Q m) Q)):NJ P n b c Q (m+1) env H:=W_T h
end
theorem W4{S:MS}:∀{xs ys:List AV}{vs:List Value},AI S (xs++ys) vs->∃v1 v2,vs=v1++v2/\AI S xs v1
 |[],ys,vs,h=>⟨[],vs,rfl,rfl⟩
 |x::xs,ys,vs,h=>by
  obtain⟨v,r,rfl,h1,h2⟩:=h;obtain⟨v1,v2,rfl,h3⟩:=W4 (xs:=xs) (ys:=ys) h2;exact⟨v::v1,v2,rfl,v,v1,rfl,h1,h3⟩
theorem YJ{S:MS}{w v:Nat}{ex:Bool}{xs ys:List AV}(hw:0<w)(hS:SRel S (hl [⟨w,v,ex,xs++ys⟩])):SRel S (hl [⟨w,v,false,xs⟩]):=by
 have h0:GRel S ⟨w,v,ex,xs++ys⟩ 0:=hS.grp 0 (by show 0<1;omega)
 have hg:GRel S ⟨w,v,false,xs⟩ 0:=by
  refine⟨h0.ver,h0.wid,λ_ hc=>?_,λ_=>?_,λ_ h=>(by cases h),λh=>?_⟩
  ·obtain⟨⟨cells,TT,vs,a1,a2,a3,a4⟩,a5⟩:=h0.live hw hc
   obtain⟨v1,v2,rfl,h1⟩:=W4 a3;refine⟨⟨cells,TT,v1,a1,a2,h1,λi u hu=>a4 i u ?_⟩,a5⟩;obtain⟨hl1,_⟩:=Bq.1 hu;rw[AE hl1];exact hu
  ·have:=h0.len hw
   simp only[Ak] at this;show xs.length<=_;omega
  ·simp only at h;omega
 refine⟨hS.n,λg hg'=>?_,λg g' a c hne=>?_,hS.im⟩
 ·have hz:g<1:=hg'
  obtain rfl:g=0:=by omega
  exact hg
 ·have a':g<1:=a
  have c':g'<1:=c;omega
theorem SV{P:Program}{f:Nat}{args:List AV}{H:A7}{w v:Nat}{ex:Bool}{xs:List AV}{y0:AV}(hw:0<w)(h:BZ P f args H λy H'=>∃ys,y=y0/\H'=hl [⟨w,v,ex,xs++ys⟩]):BZ P f args H λy H'=>y=y0/\H'=hl [⟨w,v,false,xs⟩] :=
 ⟨h.1,λS cargs hS hx=>(h.2 S cargs hS hx).mono λe w' hh=>by
  obtain⟨v,S1,y,H',he,hw',ev,hS1,hv,ys,rfl,rfl⟩:=hh
  exact⟨v,S1,_,_,he,hw',ev,YJ hw hS1,hv,rfl,rfl⟩⟩
theorem zgi{P:Program}{f:Nat}{xs ys:List AV}{l:List Grp}{K:AV->A7->Prop}(h1:okA 4 ((hl l).only (CX xs)) xs)(h2:leSL [] (frA 4 ((hl l).only (CX xs)) xs) ys)(h3:@QB P f ys (hl (Fv 0 (CX xs) l)) ⟨K⟩):@QB P f xs (hl l) ⟨K⟩ :=
 Pk 4 (CX xs) (Ns h1) (Ik (Kr h2) h3)
def Dd(i:Nat)(ks:List Nat):List Grp->List Grp->Prop
 |[],_=>True
 |_::_,[]=>False
 |G::l,G'::l'=>(i∈ks\/G=G')/\Dd (i+1) ks l l'
theorem Dd.of{ks:List Nat}:∀{i:Nat}{l l':List Grp},Dd i ks l l'->l.length<=l'.length/\∀g,i+g∉ks->g<l.length->l'.getD g default=l.getD g default
 |_,[],_,_=>⟨by simp,λg _ h=>absurd h (by simp)⟩
 |_,_::_,[],h=>h.elim
 |i,G::l,G'::l',h=>by
  obtain⟨h1,h2⟩:=Dd.of h.2;refine⟨by simpa using h1,λg hg hl=>?_⟩;cases g with
  |zero =>
   rcases h.1 with h3|h3
   ·exact absurd h3 hg
   ·simp[h3]
  |succ g =>
   have:=h2 g (by rwa [show i+1+g=i+(g+1) by omega]) (by simpa using hl);simpa using this
def effB(ks:List Nat):AK->List Grp->List Grp->Prop
 |.app ..,l,l'=>Dd 0 ks l l'
 |.mkMap,l,l'=>Dd 0 ks l l'
 |.mapSet,l,l'=>Dd 0 ks l l'
 |_,_,_=>True
theorem z2x{ks:List Nat}{k:AK}{l l':List Grp}(h:effB ks k l l')(h2:k.eff=some 2):l.length<=l'.length/\∀g,g∉ks->g<l.length->l'.getD g default=l.getD g default:=by
 have key:Dd 0 ks l l':=by cases k<;>first|exact h|(simp[AK.eff] at h2)
 obtain⟨a,c⟩:=key.of;exact⟨a,λg hg=>c g (by simpa using hg)⟩
def xk(P:Program)(ks:List Nat):List Bool->List AOp->Env->List Grp->(Env->List Grp->Prop)->Prop
 |_,[],env,l,K=>K env l
 |fl,⟨dst,args,none,k⟩::r,env,l,K=>(fl.headD false=true->Ct (·∉ks) (args.map (·.eval env)))/\@opG P k l (args.map (·.eval env)) ⟨λx l'=>effB ks k l l'/\xk P ks fl.tail r (env.put dst x) l' K⟩
 |fl,⟨dst,args,some (d,want),k⟩::r,env,l,K=>@Gh (env d) want
  ⟨(fl.headD false=true->Ct (·∉ks) (args.map (·.eval (env.put (some d) (.bool want)))))/\@opG P k l (args.map (·.eval (env.put (some d) (.bool want)))) ⟨λx l'=>effB ks k l l'/\xk P ks fl.tail r ((env.put (some d) (.bool want)).put dst x) l' K⟩⟩
  ⟨xk P ks fl.tail r ((env.put (some d) (.bool (!want))).put dst (.tup [])) l K⟩ ⟨xk P ks fl.tail r (env.put dst (.tup [])) l K⟩
theorem NK(P:Program)(ks:List Nat):∀(L:List AOp)(fl:List Bool)(env:Env)(l:List Grp){K:Env->List Grp->Prop},xk P ks fl L env l K->runX P ks fl L env l K
 |[],_,_,_,_,h=>h
 |⟨dst,args,none,k⟩::r,fl,env,l,K,h=>by
  obtain⟨h0,h'⟩:=h;have:=Lv h';simp only[runX,Hz,AOp.vals,Br];split at this
  ·rename_i he
   rw[Ai he];obtain⟨x,h1,h2⟩:=this;exact⟨h0,x,h1,NK P ks r _ _ _ h2.2⟩
  ·rename_i he
   rw[Ah he];obtain⟨x,l',b1,b2,b3⟩:=this;exact⟨x,l',b1,b2,z2x b3.1,h0,NK P ks r _ _ _ b3.2⟩
 |⟨dst,args,some (d,want),k⟩::r,fl,env,l,K,h=>by
  have h':Hy (env d) want ((fl.headD false=true->Ct (·∉ks) (args.map (·.eval (env.put (some d) (.bool want)))))/\@opG P k l (args.map (·.eval (env.put (some d) (.bool want)))) ⟨λx l'=>effB ks k l l'/\xk P ks fl.tail r ((env.put (some d) (.bool want)).put dst x) l' K⟩)
   (xk P ks fl.tail r ((env.put (some d) (.bool (!want))).put dst (.tup [])) l K) (xk P ks fl.tail r (env.put dst (.tup [])) l K):=h
  simp only[runX,Hz,AOp.vals,Br,AB,Bt];refine Kq (λh1=>?_) (λh1=>NK P ks r _ _ _ h1) (λh1=>NK P ks r _ _ _ h1) h';obtain⟨h0,h1⟩:=h1;have:=Lv h1;split at this
  ·rename_i he
   obtain⟨x,h1,h2⟩:=this;rw[Ai he];exact⟨h0,x,h1,NK P ks r _ _ _ h2.2⟩
  ·rename_i he
   rw[Ah he];obtain⟨x,l',b1,b2,b3⟩:=this;exact⟨x,l',b1,b2,z2x b3.1,h0,NK P ks r _ _ _ b3.2⟩
section
variable {P:Program}{n b:Nat}{Q:Ex->Env->A7->Prop}{ks:List Nat}{env:Env}{l:List Grp}{K:Env->List Grp->Prop}{fl:List Bool}{r:List AOp}{dst:Option Nat}{args:List AArg}{k:AK}
theorem De{L:List AOp}(ks:List Nat)(h:xk P ks fl L env l λenv' l'=>Q .normal env' (hl l')):@JV ⟨T P n b (.grx fl L) env (hl l) Q⟩:=T_grx ks (NK P ks L fl env l h)
theorem HT{x:AV}{w:Bool}{p p2 q s:HP}(h:p.p=p2.p):@Gh x w p q s=@Gh x w p2 q s:=by cases p;cases p2;cases h;rfl
theorem xk1:xk P ks fl [] env l K=K env l:=by cases fl<;>rfl
theorem xk2:xk P ks (false::fl) (⟨dst,args,none,k⟩::r) env l K=@opG P k l (args.map (·.eval env)) ⟨λx l'=>effB ks k l l'/\xk P ks fl r (env.put dst x) l' K⟩:=propext ⟨λh=>h.2,λh=>⟨λh0=>(by cases h0),h⟩⟩
theorem xk3:xk P ks (true::fl) (⟨dst,args,none,k⟩::r) env l K=(Ct (·∉ks) (args.map (·.eval env))/\@opG P k l (args.map (·.eval env)) ⟨λx l'=>effB ks k l l'/\xk P ks fl r (env.put dst x) l' K⟩):=propext ⟨λh=>⟨h.1 rfl,h.2⟩,λh=>⟨λ_=>h.1,h.2⟩⟩
theorem xk4{d:Nat}{want:Bool}:xk P ks (false::fl) (⟨dst,args,some (d,want),k⟩::r) env l K=@Gh (env d) want
 ⟨@opG P k l (args.map (·.eval (env.put (some d) (.bool want)))) ⟨λx l'=>effB ks k l l'/\xk P ks fl r ((env.put (some d) (.bool want)).put dst x) l' K⟩⟩
 ⟨xk P ks fl r ((env.put (some d) (.bool (!want))).put dst (.tup [])) l K⟩ ⟨xk P ks fl r (env.put dst (.tup [])) l K⟩:=HT (propext ⟨λh=>h.2,λh=>⟨λh0=>(by cases h0),h⟩⟩)
theorem xk5{d:Nat}{want:Bool}:xk P ks (true::fl) (⟨dst,args,some (d,want),k⟩::r) env l K=@Gh (env d) want
 ⟨Ct (·∉ks) (args.map (·.eval (env.put (some d) (.bool want))))/\@opG P k l (args.map (·.eval (env.put (some d) (.bool want)))) ⟨λx l'=>effB ks k l l'/\xk P ks fl r ((env.put (some d) (.bool want)).put dst x) l' K⟩⟩
 ⟨xk P ks fl r ((env.put (some d) (.bool (!want))).put dst (.tup [])) l K⟩ ⟨xk P ks fl r (env.put dst (.tup [])) l K⟩:=HT (propext ⟨λh=>⟨h.1 rfl,h.2⟩,λh=>⟨λ_=>h.1,h.2⟩⟩)
variable {l2:List Grp}
theorem xk6{w s:Nat}{z:AV}:effB ks (.app w s z) l l2=Dd 0 ks l l2:=rfl
theorem xk7:effB ks .mapSet l l2=Dd 0 ks l l2:=rfl
theorem xk8:effB ks .mkMap l l2=Dd 0 ks l l2:=rfl
theorem zkz  : effB ks (.mv ) l l2=True:=rfl
theorem z2y  : effB ks (.pick ) l l2=True:=rfl
theorem W5{a0:AV}{a1:Nat}:effB ks (.alloc a0 a1) l l2=True:=rfl
theorem zc5  : effB ks (.box ) l l2=True:=rfl
theorem W6{a0:List AV}{a1:List (Nat × Nat)}{a2:List Nat}:effB ks (.build a0 a1 a2) l l2=True:=rfl
theorem SX{a0:Nat}{a1:Nat}{a2:AV}{a3:List Nat}:effB ks (.bslice a0 a1 a2 a3) l l2=True:=rfl
theorem z2z{a0:Bool}{a1:Nat}:effB ks (.load a0 a1) l l2=True:=rfl
theorem W7{a0:Nat}:effB ks (.store a0) l l2=True:=rfl
theorem NL  : effB ks (.nilCheck ) l l2=True:=rfl
theorem zc6{a0:BinOp}:effB ks (.bin a0) l l2=True:=rfl
theorem zc7{a0:Bool}:effB ks (.eqb a0) l l2=True:=rfl
theorem zc8{a0:Bool}{a1:List Nat}:effB ks (.eqs a0 a1) l l2=True:=rfl
theorem zc9{a0:Bool}:effB ks (.eqn a0) l l2=True:=rfl
theorem zl0{a0:UnOp}:effB ks (.un a0) l l2=True:=rfl
theorem z37{a0:IntKind}:effB ks (.conv a0) l l2=True:=rfl
theorem W8  : effB ks (.toStr ) l l2=True:=rfl
theorem SY  : effB ks (.runStr ) l l2=True:=rfl
theorem W9{a0:Nat}{a1:Bool}{a2:Bool}{a3:Bool}:effB ks (.slice a0 a1 a2 a3) l l2=True:=rfl
theorem WB{a0:Bool}{a1:Nat}{a2:Nat}:effB ks (.faddr a0 a1 a2) l l2=True:=rfl
theorem WC{a0:Bool}{a1:Nat}{a2:Nat}:effB ks (.field a0 a1 a2) l l2=True:=rfl
theorem WE{a0:Nat}:effB ks (.iaddr a0) l l2=True:=rfl
theorem SZ{a0:Nat}{a1:Nat}{a2:Bool}:effB ks (.iaddrA a0 a1 a2) l l2=True:=rfl
theorem WG{a0:Nat}{a1:Nat}{a2:Bool}:effB ks (.index a0 a1 a2) l l2=True:=rfl
theorem NM  : effB ks (.indexStr ) l l2=True:=rfl
theorem P5{a0:Nat}:effB ks (.extract a0) l l2=True:=rfl
theorem zca{a0:Bool}:effB ks (.len a0) l l2=True:=rfl
theorem zcb  : effB ks (.max ) l l2=True:=rfl
theorem zcc  : effB ks (.min ) l l2=True:=rfl
theorem P6{a0:Nat}{a1:Nat}{a2:AV}:effB ks (.mkSlice a0 a1 a2) l l2=True:=rfl
theorem Ta{a0:Nat}:effB ks (.mkFunc a0) l l2=True:=rfl
theorem Tb{a0:AV}:effB ks (.mapGet a0) l l2=True:=rfl
theorem z38  : effB ks (.call ) l l2=True:=rfl
theorem sb1{i:Nat}:Dd i ks [] l=True:=rfl
theorem sb2{i:Nat}{G G2:Grp}:Dd i ks (G::l) (G2::l2)=((i∈ks\/G=G2)/\Dd (i+1) ks l l2):=rfl
end
theorem xx:type_of% (Aa @xk1 <| Aa @xk2 <| Aa @xk3 <| Aa @xk4 <| Aa @xk5 <| Aa @xk6 <| Aa @xk7 <| Aa @xk8 <| Aa @zkz <| Aa @z2y <| Aa @W5 <| Aa @zc5 <| Aa @W6 <| Aa @SX <| Aa @z2z <| Aa @W7 <| Aa @NL <| Aa @zc6 <| Aa @zc7 <| Aa @zc8 <| Aa @zc9 <| Aa @zl0 <| Aa @z37 <| Aa @W8 <| Aa @SY <| Aa @W9 <| Aa @WB <| Aa @WC <| Aa @WE <| Aa @SZ <| Aa @WG <| Aa @NM <| Aa @P5 <| Aa @zca <| Aa @zcb <| Aa @zcc <| Aa @P6 <| Aa @Ta <| Aa @Tb <| Aa @z38 <| Aa @sb1 <| @sb2):=Aa @xk1 <| Aa @xk2 <| Aa @xk3 <| Aa @xk4 <| Aa @xk5 <| Aa @xk6 <| Aa @xk7 <| Aa @xk8 <| Aa @zkz <| Aa @z2y <| Aa @W5 <| Aa @zc5 <| Aa @W6 <| Aa @SX <| Aa @z2z <| Aa @W7 <| Aa @NL <| Aa @zc6 <| Aa @zc7 <| Aa @zc8 <| Aa @zc9 <| Aa @zl0 <| Aa @z37 <| Aa @W8 <| Aa @SY <| Aa @W9 <| Aa @WB <| Aa @WC <| Aa @WE <| Aa @SZ <| Aa @WG <| Aa @NM <| Aa @P5 <| Aa @zca <| Aa @zcb <| Aa @zcc <| Aa @P6 <| Aa @Ta <| Aa @Tb <| Aa @z38 <| Aa @sb1 <| @sb2
theorem z9b{P:Program}{l:List Grp}{xs:List AV}{K:AV->List Grp->Prop}:@opG P .mapSet l xs ⟨K⟩=@opK P .mapSet (hl l) xs ⟨λx H'=>∀l',H'=hl l'->K x l'⟩:=(YB rfl rfl).trans (by simp only[AK.appOk,Qv,EN])
attribute [push_cast] z8o z9b
def effY(ks:List Nat):AK->List Grp->List Grp->Prop
 |.app ..,l,l'=>Dd 0 ks l l'
 |.mkMap,l,l'=>Dd 0 ks l l'
 |.mapSet,l,l'=>Dd 0 ks l l'
 |.store _,l,l'=>Dd 0 ks l l'/\l'.length=l.length
 |_,_,_=>True
theorem QZ{ks:List Nat}{k:AK}{l l':List Grp}(h:effY ks k l l'):((k.eff=some 1\/k.eff=some 2)->l.length<=l'.length/\∀g,g∉ks->g<l.length->l'.getD g default=l.getD g default)/\(k.eff=some 1->l'.length=l.length):=by
 have key:(k.eff=some 1\/k.eff=some 2)->Dd 0 ks l l':=λh2=>by cases k<;>first|exact h|exact h.1|(simp[AK.eff] at h2)
 refine⟨λh2=>?_,λh2=>by cases k<;>first|exact h.2|(simp[AK.eff] at h2)⟩;obtain⟨a,c⟩:=(key h2).of;exact⟨a,λg hg=>c g (by simpa using hg)⟩
class KM where
 f:Int->Int->Prop
def twoI(x y:AV)[K:KM]:Prop:=match x,y with
 |.int _ a,.int _ b=>K.f a b
 |_,_=>False
structure KL where
 f:Grp->AV->Prop
def zgj(k:AK)(xs:List AV)(g:Nat)(K:KL):Prop:=match k,xs with
 |.alloc z w,[]=>K.f ⟨w,2,true,[z]⟩ (.ptr g 2 0 0)
 |.box,[y]=>Gn y.cells=true/\0<y.cells.length/\K.f ⟨y.cells.length,2,true,[y]⟩ (.ptr g 2 0 0)
 |.mkSlice w bytes z,[a,b]=>@twoI a b ⟨λl c=>0<=l/\l<=c/\c * bytes<=140737488355328/\K.f ⟨w,2,true,List.replicate c.toNat z⟩ (.ref g 2 0 l.toNat)⟩
 |_,_=>False
theorem z9c{k:AK}{xs:List AV}{g:Nat}{K:KL}(h:zgj k xs g K):∃G x,Ui k xs g G x/\K.f G x:=by
 unfold zgj at h;split at h
 ·exact⟨_,_,⟨rfl,rfl⟩,h⟩
 ·exact⟨_,_,⟨h.1,h.2.1,rfl,rfl⟩,h.2.2⟩
 ·rename_i a b
  cases a<;>cases b<;>try exact h.elim
  obtain⟨h1,h2,h3,h4⟩:=h;exact⟨_,_,⟨h1,h2,h3,rfl,rfl⟩,h4⟩
 ·exact h.elim
def gsOk:List (Option Nat)->List AOp->Bool
 |_,[]=>true
 |gs,o::r=>(match gs.headD none with|some _=>o.guard.isNone&&o.k.laid|none=>!o.k.laid)&&gsOk gs.tail r
def xy(P:Program)(ks:List Nat):List (Option Nat)->List Bool->List AOp->Env->List Grp->(Env->List Grp->Prop)->Prop
 |_,_,[],env,l,K=>K env l
 |gs,fl,⟨dst,args,none,k⟩::r,env,l,K=>match gs.headD none with
  |some g=>zgj k (args.map (·.eval env)) g ⟨λG x=>g<l.length/\(hl l).at_ g=⟨G.w,1,true,[]⟩/\g∈ks/\∀l',(hl l).set g G=hl l'->xy P ks gs.tail fl.tail r (env.put dst x) l' K⟩
  |none=>(fl.headD false=true->Ct (·∉ks) (args.map (·.eval env)))/\@opG P k l (args.map (·.eval env)) ⟨λx l'=>effY ks k l l'/\xy P ks gs.tail fl.tail r (env.put dst x) l' K⟩
 |gs,fl,⟨dst,args,some (d,want),k⟩::r,env,l,K=>@Gh (env d) want
  ⟨(fl.headD false=true->Ct (·∉ks) (args.map (·.eval (env.put (some d) (.bool want)))))/\@opG P k l (args.map (·.eval (env.put (some d) (.bool want)))) ⟨λx l'=>effY ks k l l'/\xy P ks gs.tail fl.tail r ((env.put (some d) (.bool want)).put dst x) l' K⟩⟩
  ⟨xy P ks gs.tail fl.tail r ((env.put (some d) (.bool (!want))).put dst (.tup [])) l K⟩ ⟨xy P ks gs.tail fl.tail r (env.put dst (.tup [])) l K⟩
theorem Mt(P:Program)(ks:List Nat):∀(L:List AOp)(gs:List (Option Nat))(fl:List Bool)(env:Env)(l:List Grp){K:Env->List Grp->Prop},gsOk gs L=true->xy P ks gs fl L env l K->runY P ks fl L env l K
 |[],_,_,_,_,_,_,h=>by simpa only[xy,runY] using h
 |⟨dst,args,none,k⟩::r,gs,fl,env,l,K,hg,h=>by
  simp only[gsOk,Ad] at hg;simp only[xy] at h;simp only[runY,Hz,AOp.vals,Br];cases hh:gs.headD none with
  |some g =>
   rw[hh] at h hg;have hla:k.laid=true:=by simpa using hg.1
   obtain⟨G,x,hG,h1,h2,h3,h4⟩:=z9c h;rw[Ai hla];exact⟨_,_,⟨g,G,hG,h1,h2,h3,rfl⟩,Mt P ks r _ _ _ _ hg.2 (h4 _ (HL _ _ _ h1))⟩
  |none =>
   rw[hh] at h hg;have hl:k.laid=false:=by simpa using hg.1
   rw[Ah (by rw[hl];simp)];obtain⟨h0,h'⟩:=h;have:=Lv h';split at this
   ·rename_i he
    rw[Ai he];obtain⟨x,h1,h2⟩:=this;exact⟨h0,x,h1,Mt P ks r _ _ _ _ hg.2 h2.2⟩
   ·rename_i he
    rw[Ah he];obtain⟨x,l',b1,b2,b3⟩:=this;exact⟨x,l',b1,b2,(QZ b3.1).1,(QZ b3.1).2,h0,Mt P ks r _ _ _ _ hg.2 b3.2⟩
 |⟨dst,args,some (d,want),k⟩::r,gs,fl,env,l,K,hg,h=>by
  simp only[gsOk,Ad] at hg
  have hl:k.laid=false:=by
   cases hh:gs.headD none with
   |some g=>rw[hh] at hg;simp at hg
   |none=>rw[hh] at hg;simpa using hg.1
  have h':Hy (env d) want ((fl.headD false=true->Ct (·∉ks) (args.map (·.eval (env.put (some d) (.bool want)))))/\@opG P k l (args.map (·.eval (env.put (some d) (.bool want)))) ⟨λx l'=>effY ks k l l'/\xy P ks gs.tail fl.tail r ((env.put (some d) (.bool want)).put dst x) l' K⟩)
   (xy P ks gs.tail fl.tail r ((env.put (some d) (.bool (!want))).put dst (.tup [])) l K) (xy P ks gs.tail fl.tail r (env.put dst (.tup [])) l K):=h
  simp only[runY,Hz,AOp.vals,Br,AB,Bt];refine Kq (λh1=>?_) (λh1=>Mt P ks r _ _ _ _ hg.2 h1) (λh1=>Mt P ks r _ _ _ _ hg.2 h1) h';rw[Ah (by rw[hl];simp)];obtain⟨h0,h1⟩:=h1;have:=Lv h1;split at this
  ·rename_i he
   obtain⟨x,h1,h2⟩:=this;rw[Ai he];exact⟨h0,x,h1,Mt P ks r _ _ _ _ hg.2 h2.2⟩
  ·rename_i he
   rw[Ah he];obtain⟨x,l',b1,b2,b3⟩:=this;exact⟨x,l',b1,b2,(QZ b3.1).1,(QZ b3.1).2,h0,Mt P ks r _ _ _ _ hg.2 b3.2⟩
section
variable {P:Program}{n b:Nat}{Q:Ex->Env->A7->Prop}{ks:List Nat}{gs:List (Option Nat)}{g:Nat}{env:Env}{l:List Grp}{K:Env->List Grp->Prop}{f:Bool}{fl:List Bool}{r:List AOp}{dst:Option Nat}{args:List AArg}{k:AK}
theorem z3a{L:List AOp}(ks:List Nat)(ws:List Nat)(gs:List (Option Nat))(hw:∀w∈ws,0<w)(hg:gsOk gs L=true)(h:xy P ks gs fl L env (l++ws.map IX) λenv' l'=>Q .normal env' (hl l')):@JV ⟨T P n b (.gry fl L) env (hl l) Q⟩:=Us ws hw (zi3 ks (Mt P ks L gs fl env _ hg h))
theorem xy1:xy P ks gs fl [] env l K=K env l:=by simp only[xy]
theorem xy2:xy P ks (none::gs) (false::fl) (⟨dst,args,none,k⟩::r) env l K=@opG P k l (args.map (·.eval env)) ⟨λx l'=>effY ks k l l'/\xy P ks gs fl r (env.put dst x) l' K⟩:=by simp only[xy];exact propext ⟨λh=>h.2,λh=>⟨λh0=>(by cases h0),h⟩⟩
theorem xy3:xy P ks (none::gs) (true::fl) (⟨dst,args,none,k⟩::r) env l K=(Ct (·∉ks) (args.map (·.eval env))/\@opG P k l (args.map (·.eval env)) ⟨λx l'=>effY ks k l l'/\xy P ks gs fl r (env.put dst x) l' K⟩):=by simp only[xy];exact propext ⟨λh=>⟨h.1 rfl,h.2⟩,λh=>⟨λ_=>h.1,h.2⟩⟩
theorem xy4{d:Nat}{want:Bool}:xy P ks (none::gs) (false::fl) (⟨dst,args,some (d,want),k⟩::r) env l K=@Gh (env d) want
 ⟨@opG P k l (args.map (·.eval (env.put (some d) (.bool want)))) ⟨λx l'=>effY ks k l l'/\xy P ks gs fl r ((env.put (some d) (.bool want)).put dst x) l' K⟩⟩
 ⟨xy P ks gs fl r ((env.put (some d) (.bool (!want))).put dst (.tup [])) l K⟩ ⟨xy P ks gs fl r (env.put dst (.tup [])) l K⟩:=by simp only[xy];exact HT (propext ⟨λh=>h.2,λh=>⟨λh0=>(by cases h0),h⟩⟩)
theorem xy5{d:Nat}{want:Bool}:xy P ks (none::gs) (true::fl) (⟨dst,args,some (d,want),k⟩::r) env l K=@Gh (env d) want
 ⟨Ct (·∉ks) (args.map (·.eval (env.put (some d) (.bool want))))/\@opG P k l (args.map (·.eval (env.put (some d) (.bool want)))) ⟨λx l'=>effY ks k l l'/\xy P ks gs fl r ((env.put (some d) (.bool want)).put dst x) l' K⟩⟩
 ⟨xy P ks gs fl r ((env.put (some d) (.bool (!want))).put dst (.tup [])) l K⟩ ⟨xy P ks gs fl r (env.put dst (.tup [])) l K⟩:=by simp only[xy];exact HT (propext ⟨λh=>⟨h.1 rfl,h.2⟩,λh=>⟨λ_=>h.1,h.2⟩⟩)
theorem xy6{z:AV}{w:Nat}:xy P ks (some g::gs) (f::fl) (⟨dst,[],none,.alloc z w⟩::r) env l K=(g<l.length/\(hl l).at_ g=⟨w,1,true,[]⟩/\g∈ks/\∀l',(hl l).set g ⟨w,2,true,[z]⟩=hl l'->xy P ks gs fl r (env.put dst (.ptr g 2 0 0)) l' K):=by simp only[xy];rfl
theorem xy6b{a:AArg}:xy P ks (some g::gs) (f::fl) (⟨dst,[a],none,.box⟩::r) env l K=(Gn (a.eval env).cells=true/\0<(a.eval env).cells.length/\g<l.length/\(hl l).at_ g=⟨(a.eval env).cells.length,1,true,[]⟩/\g∈ks/\∀l',(hl l).set g ⟨(a.eval env).cells.length,2,true,[a.eval env]⟩=hl l'->xy P ks gs fl r (env.put dst (.ptr g 2 0 0)) l' K):=by simp only[xy];rfl
theorem xy6m{a a':AArg}{w m:Nat}{z:AV}:xy P ks (some g::gs) (f::fl) (⟨dst,[a,a'],none,.mkSlice w m z⟩::r) env l K=@twoI (a.eval env) (a'.eval env) ⟨λi c=>0<=i/\i<=c/\c * m<=140737488355328/\g<l.length/\(hl l).at_ g=⟨w,1,true,[]⟩/\g∈ks/\∀l',(hl l).set g ⟨w,2,true,List.replicate c.toNat z⟩=hl l'->xy P ks gs fl r (env.put dst (.ref g 2 0 i.toNat)) l' K⟩:=by simp only[xy];rfl
theorem WH{k k':IntKind}{a c:Int}{K:Int->Int->Prop}:@twoI (.int k a) (.int k' c) ⟨K⟩=K a c:=rfl
theorem xy7:xy P ks [] fl (⟨dst,args,none,k⟩::r) env l K=xy P ks [none] fl (⟨dst,args,none,k⟩::r) env l K:=by simp only[xy];rfl
theorem xy8{d:Nat}{want:Bool}:xy P ks [] fl (⟨dst,args,some (d,want),k⟩::r) env l K=xy P ks [none] fl (⟨dst,args,some (d,want),k⟩::r) env l K:=by simp only[xy];rfl
variable {l2:List Grp}
theorem zcd{w s:Nat}{z:AV}:effY ks (.app w s z) l l2=Dd 0 ks l l2:=rfl
theorem Tc:effY ks .mapSet l l2=Dd 0 ks l l2:=rfl
theorem WI:effY ks .mkMap l l2=Dd 0 ks l l2:=rfl
theorem WJ{s:Nat}:effY ks (.store s) l l2=(Dd 0 ks l l2/\l2.length=l.length):=rfl
theorem zl1  : effY ks (.mv ) l l2=True:=rfl
theorem z3b  : effY ks (.pick ) l l2=True:=rfl
theorem WK{a0:AV}{a1:Nat}:effY ks (.alloc a0 a1) l l2=True:=rfl
theorem zce  : effY ks (.box ) l l2=True:=rfl
theorem WL{a0:List AV}{a1:List (Nat × Nat)}{a2:List Nat}:effY ks (.build a0 a1 a2) l l2=True:=rfl
theorem Td{a0:Nat}{a1:Nat}{a2:AV}{a3:List Nat}:effY ks (.bslice a0 a1 a2 a3) l l2=True:=rfl
theorem z3c{a0:Bool}{a1:Nat}:effY ks (.load a0 a1) l l2=True:=rfl
theorem NN  : effY ks (.nilCheck ) l l2=True:=rfl
theorem zcf{a0:BinOp}:effY ks (.bin a0) l l2=True:=rfl
theorem zcg{a0:Bool}:effY ks (.eqb a0) l l2=True:=rfl
theorem zch{a0:Bool}{a1:List Nat}:effY ks (.eqs a0 a1) l l2=True:=rfl
theorem zci{a0:Bool}:effY ks (.eqn a0) l l2=True:=rfl
theorem zl2{a0:UnOp}:effY ks (.un a0) l l2=True:=rfl
theorem z3d{a0:IntKind}:effY ks (.conv a0) l l2=True:=rfl
theorem WM  : effY ks (.toStr ) l l2=True:=rfl
theorem Te  : effY ks (.runStr ) l l2=True:=rfl
theorem WN{a0:Nat}{a1:Bool}{a2:Bool}{a3:Bool}:effY ks (.slice a0 a1 a2 a3) l l2=True:=rfl
theorem WO{a0:Bool}{a1:Nat}{a2:Nat}:effY ks (.faddr a0 a1 a2) l l2=True:=rfl
theorem WQ{a0:Bool}{a1:Nat}{a2:Nat}:effY ks (.field a0 a1 a2) l l2=True:=rfl
theorem WR{a0:Nat}:effY ks (.iaddr a0) l l2=True:=rfl
theorem Tf{a0:Nat}{a1:Nat}{a2:Bool}:effY ks (.iaddrA a0 a1 a2) l l2=True:=rfl
theorem WS{a0:Nat}{a1:Nat}{a2:Bool}:effY ks (.index a0 a1 a2) l l2=True:=rfl
theorem NO  : effY ks (.indexStr ) l l2=True:=rfl
theorem P7{a0:Nat}:effY ks (.extract a0) l l2=True:=rfl
theorem zcj{a0:Bool}:effY ks (.len a0) l l2=True:=rfl
theorem zck  : effY ks (.max ) l l2=True:=rfl
theorem zcl  : effY ks (.min ) l l2=True:=rfl
theorem P8{a0:Nat}{a1:Nat}{a2:AV}:effY ks (.mkSlice a0 a1 a2) l l2=True:=rfl
theorem Tg{a0:Nat}:effY ks (.mkFunc a0) l l2=True:=rfl
theorem Ti{a0:AV}:effY ks (.mapGet a0) l l2=True:=rfl
theorem z3e  : effY ks (.call ) l l2=True:=rfl
end
theorem yy:type_of% (Aa @xy1 <| Aa @xy2 <| Aa @xy3 <| Aa @xy4 <| Aa @xy5 <| Aa @xy6 <| Aa @xy6b <| Aa @xy6m <| Aa @WH <| Aa @xy7 <| Aa @xy8 <| Aa @zcd <| Aa @Tc <| Aa @WI <| Aa @WJ <| Aa @zl1 <| Aa @z3b <| Aa @WK <| Aa @zce <| Aa @WL <| Aa @Td <| Aa @z3c <| Aa @NN <| Aa @zcf <| Aa @zcg <| Aa @zch <| Aa @zci <| Aa @zl2 <| Aa @z3d <| Aa @WM <| Aa @Te <| Aa @WN <| Aa @WO <| Aa @WQ <| Aa @WR <| Aa @Tf <| Aa @WS <| Aa @NO <| Aa @P7 <| Aa @zcj <| Aa @zck <| Aa @zcl <| Aa @P8 <| Aa @Tg <| Aa @Ti <| Aa @z3e <| Aa @sb1 <| @sb2):=Aa @xy1 <| Aa @xy2 <| Aa @xy3 <| Aa @xy4 <| Aa @xy5 <| Aa @xy6 <| Aa @xy6b <| Aa @xy6m <| Aa @WH <| Aa @xy7 <| Aa @xy8 <| Aa @zcd <| Aa @Tc <| Aa @WI <| Aa @WJ <| Aa @zl1 <| Aa @z3b <| Aa @WK <| Aa @zce <| Aa @WL <| Aa @Td <| Aa @z3c <| Aa @NN <| Aa @zcf <| Aa @zcg <| Aa @zch <| Aa @zci <| Aa @zl2 <| Aa @z3d <| Aa @WM <| Aa @Te <| Aa @WN <| Aa @WO <| Aa @WQ <| Aa @WR <| Aa @Tf <| Aa @WS <| Aa @NO <| Aa @P7 <| Aa @zcj <| Aa @zck <| Aa @zcl <| Aa @P8 <| Aa @Tg <| Aa @Ti <| Aa @z3e <| Aa @sb1 <| @sb2
def Ent(n b:Nat)(env:Env)(H:A7)(env':Env)(H':A7):Prop:=∀(S:MS)(val:Nat->Value),b<=S.n->SRel S H->(∀i,i<n->VRel S (env i) (val i)) ->
 ∃S',S'.w=S.w/\BEvo b S S'/\SRel S' H'/\∀i,i<n->VRel S' (env' i) (val i)
section
variable {P:Program}{n b:Nat}{env env':Env}{H H':A7}{Q:Ex->Env->A7->Prop}
theorem Ent.refl:Ent n b env H env H:=λS val hb hS hv=>⟨S,rfl,.refl hb,hS,hv⟩
theorem Ent.trans{env2:Env}{H2:A7}(h1:Ent n b env H env' H')(h2:Ent n b env' H' env2 H2):Ent n b env H env2 H2:=λS val hb hS hv=>by
 obtain⟨S1,a1,a2,a3,a4⟩:=h1 S val hb hS hv;obtain⟨S2,c1,c2,c3,c4⟩:=h2 S1 val a2.n a3 a4;exact⟨S2,c1.trans a1,a2.trans c2,c3,c4⟩
theorem Jr{c:AC}(he:Ent n b env H env' H')(h:T P n b c env' H' Q):T P n b c env H Q:=by
 intro rd mm hrd code hc S a hbS hS hF;obtain⟨S',hw,hev,hS',hv⟩:=he S (λi=>a.tmps.getD i undef) hbS hS hF.val;have:=h rd mm hrd code hc S' a hev.n hS' ⟨hF.size,hF.defers.of hev.base hev.size hev.keep hev.fresh (λb hb=>hev.kept b (.inr hb)),hv⟩;rw[hw] at this;exact wpIn_mono this λe a w hh=>hh.trans hev
theorem Hi{σ:Type}(Fact:σ->Prop)(μ:σ->Nat)(envs:σ->Env)(heap:σ->A7){c:AC}(s0:σ)(h0:Fact s0)(he:Ent n b env H (envs s0) (heap s0))
 (round:∀s,Fact s->T P n b c (envs s) (heap s) (Ex.then (λenv' H'=>∃s',Ent n b env' H' (envs s') (heap s')/\Fact s'/\μ s'<μ s) Q)):T P n b (.loop c) env H Q:=by
 refine zbz (λs env H=>Fact s/\Ent n b env H (envs s) (heap s)) μ s0 ⟨h0,he⟩ λs env H hI=>?_;refine Jr hI.2 (T.mono (round s hI.1) λx env' H' hh=>?_);cases x with
 |normal=>obtain⟨s',k1,k2,k3⟩:=hh;exact⟨s',⟨k2,k1⟩,k3⟩
 |exit id=>exact hh
 |ret=>exact hh
theorem JK(live:List (Nat × AV))(h:∀p∈live,env p.1=p.2):Ent n b env H (E4 live) H:=λS val hb hS hv=>by
 refine⟨S,rfl,.refl hb,hS,λi hi=>?_⟩
 have key:∀(l:List (Nat × AV)),(∀p∈l,env p.1=p.2)->VRel S (E4 l i) (val i):=λl=>by
  induction l with
  |nil=>exact λ_=>trivial
  |cons p l ih =>
   intro hp;obtain⟨t,y⟩:=p;show VRel S (if i=t then y else E4 l i) _;split
   ·rename_i hit
    subst hit;have e:env i=y:=hp (i,y) (by simp);rw[<-e];exact hv i hi
   ·exact ih λp hp'=>hp p (by simp[hp'])
 exact key live h
mutual
theorem Ra:∀x:AV,ren (λg=>g) x=x
 |.any|.bool _|.int _ _|.str _|.nilS|.nul|.emp|.nilP|.nilF|.yld _|.lst _ _|.full _ _|.cptr _|.map _ _|.ref _ _ _ _|.ptr _ _ _ _=>rfl
 |.agg cs=>by rw[ren,Js cs]
 |.tup cs=>by rw[ren,Js cs]
 |.fn f cs=>by rw[ren,Js cs]
theorem Js:∀xs:List AV,renL (λg=>g) xs=xs
 |[]=>rfl
 |x::xs=>by rw[renL,Ra x,Js xs]
end
theorem NP{l gar:List Grp}(hb:b<=l.length)(hcl:∀G∈l,ltL l.length G.xs)(hlive:∀i,i<n->ltV l.length (env i)):Ent n b env (hl (l++gar)) env (hl l):=λS val hbS hS hv=>by
 have hn:S.n=l.length+gar.length:=by rw[<-Ak];exact hS.n
 have hat:∀g,g<l.length->(hl (l++gar)).at_ g=(hl l).at_ g:=λg hg=>by
  rw[DT,DT];simp[List.getD,AE hg]
 let S':MS:={ S with n:=l.length }
 have hdown:∀(x:AV){v:Value},ltV l.length x->VRel S x v->VRel S' x v:=λx v hx h=>by
  rw[<-Ra x] at h;exact QR (A:=S') (B:=S) (σ:=λg=>g) (m:=l.length) rfl (λb hb=>hb) (λg hg=>⟨hg,rfl,rfl,rfl,rfl⟩) x hx h
 have hdownL:∀(xs:List AV){vs:List Value},ltL l.length xs->AI S xs vs->AI S' xs vs:=λxs vs hx h=>by
  rw[<-Js xs] at h;exact Hc (A:=S') (B:=S) (σ:=λg=>g) (m:=l.length) rfl (λb hb=>hb) (λg hg=>⟨hg,rfl,rfl,rfl,rfl⟩) xs hx h
 refine⟨S',rfl,⟨rfl,rfl,⟨rfl,Ae _⟩,rfl,Ae _,λ_ _=>rfl,λ_ h=>h,λ_ h=>h,λ_ h=>.inl h,hb,λ_ _=>Ae _,λ_ _ _=>⟨rfl,rfl,rfl⟩⟩,⟨rfl,λg hg=>?_,λg g' hg hg' hne hw hw'=>?_,hS.im⟩,λi hi=>hdown _ (hlive i hi) (hv i hi)⟩
 ·have hg':g<l.length:=hg
  have hG:=hS.grp g (by show g<(l++gar).length;rw[Ak];omega);rw[hat g hg'] at hG;have hm:(hl l).at_ g∈l:=by rw[DT,Av,Ao hg'];exact Cg _
  have hc:=hcl _ hm;refine⟨hG.ver,hG.wid,λhw hcap=>?_,hG.len,hG.full,λhw he=>?_⟩
  ·obtain⟨⟨cells,TT,vs,a1,a2,a3,a4⟩,a5⟩:=hG.live hw hcap
   exact⟨⟨cells,TT,vs,a1,a2,hdownL _ hc a3,a4⟩,a5⟩
  ·obtain⟨⟨es,clock,a1,a2⟩,a5⟩:=hG.mlive hw he
   exact⟨⟨es,clock,a1,hdownL _ hc a2⟩,a5⟩
 ·have hg1:g<l.length:=hg
  have hg2:g'<l.length:=hg';rw[<-hat g hg1] at hw;rw[<-hat g' hg2] at hw';exact hS.apart g g' (by show g<(l++gar).length;rw[Ak];omega) (by show g'<(l++gar).length;rw[Ak];omega) hne hw hw'
theorem WT{l:List Grp}(ws:List Nat)(hw:∀w∈ws,0<w):Ent n b env (hl l) env (hl (l++ws.map IX)):=λS val hbS hS hv=>by
 obtain⟨S',e1,e2,e3,e4⟩:=QS ws (env:=λi=>if i<n then env i else .any) (val:=val) hw hS (λi=>by
  show VRel S (if i<n then env i else .any) _;split
  ·exact hv i (by assumption)
  ·trivial)
 refine⟨S',e1,e2.down hbS,e3,λi hi=>?_⟩;have:=e4 i;simp only[Ai hi] at this;exact this
theorem z3f{l l':List Grp}(h:Il l l l')(hv:∀i,i<n->leS l (env i) (env' i)):Ent n b env (hl l) env' (hl l'):=λS val hbS hS hval =>
 ⟨S,rfl,.refl hbS,Im hS h,λi hi=>So (.inl hS) _ (hv i hi) (hval i hi)⟩
theorem UK(i d:Nat)(ks:List Nat)(hok:Ea d (H.only ks) (env i)):Ent n b env H (env.put (some i) (frzV d (H.only ks) (env i))) (H.kill ks):=λS val hbS hS hv=>by
 refine⟨S.kill H ks,rfl,(HM ks hS).down hbS,MF ks hS,λj hj=>?_⟩;show VRel _ (if j=i then _ else _) _;split
 ·rename_i hji
  subst hji;exact MG ks hS d hok (hv j hj)
 ·exact VRel.mono (HM ks hS) _ (hv j hj)
theorem zgk{c:AC}(he:Ent n b env H env' H')(h:@JV ⟨T P n b c env' H' Q⟩):@JV ⟨T P n b c env H Q⟩:=Jr he h
end
end Go.Proofs.YtbcjoeadpjfcfaaGreat.Abs
namespace Go.Proofs.YtbcjoeadpjfcfaaGreat
open Abs
def Cy(r:Rule):Bool:=decide ((r.guards.length:Int)=0)
def toD(l:List Rule)(i:Nat):List Int:=(l.filter λr=>Cy r&&decide (r.from_=i)).map (·.to_)
def inD(l:List Rule)(j:Nat):Int:=((l.filter λr=>Cy r&&decide (r.to_=j)).length:Int)
def cntE(l:List Rule)(P:List Int)(j:Nat):Int:=((l.filter λr=>Cy r&&(decide (r.to_=j)&&!decide (r.from_∈P))).length:Int)
theorem Rb(l:List Rule)(j:Nat):cntE l [] j=inD l j:=by simp[cntE,inD]
theorem zgl(l:List Rule)(P:List Int)(j:Nat):0<=cntE l P j:=by simp only[cntE];omega
theorem zgm(l:List Rule)(P:List Int)(j:Nat):cntE l P j<=cntE l [] j:=by
 simp only[cntE]
 have:(l.filter λr=>Cy r&&(decide (r.to_=j)&&!decide (r.from_∈P))).length<=(l.filter λr=>Cy r&&(decide (r.to_=j)&&!decide (r.from_∈([]:List Int)))).length:=by
  induction l with
  |nil=>simp
  |cons r l ih =>
   simp only[BH];cases Cy r<;>cases decide (r.to_=(j:Int))<;>cases decide (r.from_∈P)<;>simp at ih ⊢<;>omega
 omega
theorem Rc{s j:Nat}{P:List Int}(hs:(s:Int)∉P):∀l:List Rule,cntE l (P++[(s:Int)]) j+((toD l s).count (j:Int):Int)=cntE l P j
 |[]=>by simp[cntE,toD]
 |r::l=>by
  have ih:=Rc (j:=j) hs l;simp only[cntE,toD,BH] at ih ⊢;cases he:Cy r
  ·simpa using ih
  ·simp only[Ax]
   by_cases ht:r.to_=j
   ·by_cases hf:r.from_=s
    ·have h1:r.from_∈P++[(s:Int)]:=by simp[hf]
     have h2:r.from_∉P:=by rw[hf];exact hs
     simp only[ht,hf] at h1 h2 ⊢;simp only[Bi,h1,h2,AP,Gb,EK,EJ,Fl,Br,AB,Bt,List.length_cons,BB,List.count_cons_self,ht]
     push_cast
     omega
    ·have h1:(r.from_∈P++[(s:Int)])↔r.from_∈P:=by simp[hf]
     by_cases h2:r.from_∈P
     ·simp only[ht,hf,h1,h2,Bi,AP,Gb,EJ,AB,Bt]
      exact ih
     ·simp only[ht,hf,h1,h2,Bi,AP,EK,Fl,Br,AB,Bt,List.length_cons]
      push_cast
      omega
   ·by_cases hf:r.from_=s
    ·simp only[ht,hf,AP,Bi,AA,AB,Bt,Br,BB]
     rw[List.count_cons_of_ne ht];exact ih
    ·simp only[ht,hf,AP,AA,AB,Bt]
     exact ih
theorem JL:∀{a b:List Int},a.Nodup->(∀x∈a,x∈b)->a.length<=b.length
 |[],b,_,_=>AD _
 |x::a,b,hn,h=>by
  obtain⟨h1,h2⟩:=Cd.1 hn;have hx:=h x (by simp);have:=JL (a:=a) (b:=b.erase x) h2 λy hy=>(List.mem_erase_of_ne (λ(e:y=x)=>h1 (by rw[<-e];exact hy))).2 (h y (by simp[hy]));rw[List.length_erase_of_mem hx] at this;have:=EG hx;simp only[List.length_cons];omega
def idsN(n:Nat):List Int:=(List.range n).map λ(i:Nat)=>(i:Int)
theorem z3g(n:Nat):(idsN n).Nodup:=by
 rw[idsN,Dg,FN];exact (Dg.1 (Ev)).imp λh e=>h (by omega)
theorem Re{n:Nat}{x:Int}:x∈idsN n↔0<=x/\x<n:=by
 simp only[idsN,Aq,Bo];constructor
 ·rintro⟨i,hi,rfl⟩;omega
 ·rintro⟨h1,h2⟩;exact⟨x.toNat,by omega,by omega⟩
def zcm(l:List Rule)(n:Nat)(C:Int->Prop):Prop:=∀j,C j->(0<=j/\j<n)/\∃r∈l,Cy r=true/\r.to_=j/\C r.from_
def cycP(l:List Rule)(n:Nat):Prop:=∃C,zcm l n C/\∃j,C j
structure KInv(l:List Rule)(n:Nat)(D:List Int)(I:Nat->Int):Prop where
 nodup:D.Nodup
 range:∀x∈D,0<=x/\x<n
 zero:∀j,j<n->((j:Int)∈D↔I j=0)
 apart:∀C,zcm l n C->∀x∈D,¬C x
theorem KInv.len{l:List Rule}{n:Nat}{D:List Int}{I:Nat->Int}(h:KInv l n D I):D.length<=n:=by
 have:=JL h.nodup λx hx=>Re.2 (h.range x hx);simpa [idsN] using this
def Kw(f:Nat->Int)(k:Nat):List Int:=((List.range k).filter λj=>decide (f j=0)).map λ(j:Nat)=>(j:Int)
theorem YK(f:Nat->Int)(k:Nat):Kw f (k+1)=if f k=0 then Kw f k++[(k:Int)] else Kw f k:=by
 rw[Kw,Cq,BM,A9];split
 ·rename_i h;simp[Kw,h]
 ·rename_i h;simp[Kw,h]
theorem z3h(f:Nat->Int)(k:Nat):(Kw f k).length<=k:=by
 have:=B7 (λj=>decide (f j=0)) (List.range k);simpa [Kw] using this
theorem zgn{l:List Rule}{r:Rule}{j:Nat}(hr:r∈l)(he:Cy r=true)(ht:r.to_=j):0<inD l j:=by
 have:0<(l.filter λr=>Cy r&&decide (r.to_=j)).length:=EG (AX.2 ⟨hr,by simp[he,ht]⟩);simp only[inD];omega
theorem z9d{l:List Rule}{P:List Int}{r:Rule}{j:Nat}(hr:r∈l)(he:Cy r=true)(ht:r.to_=j)(hf:r.from_∉P):0<cntE l P j:=by
 have:0<(l.filter λr=>Cy r&&(decide (r.to_=j)&&!decide (r.from_∈P))).length:=EG (AX.2 ⟨hr,by simp[he,ht,hf]⟩);simp only[cntE];omega
theorem YL(l:List Rule)(n:Nat):KInv l n (Kw (inD l) n) (cntE l []) where
 nodup:=by
  rw[Kw,Dg,FN];exact ((Dg.1 (Ev)).filter _).imp λh e=>h (by omega)
 range x hx:=by
  obtain⟨i,hi,rfl⟩:=Aq.1 hx;have:=(AX.1 hi).1;simp at this;omega
 zero j hj:=by
  rw[Rb];simp only[Kw,Aq,AX,Bo,Aj];constructor
  ·rintro⟨i,⟨h1,h2⟩,e⟩
   obtain rfl:i=j:=by omega
   exact h2
  ·intro h;exact⟨j,⟨hj,h⟩,rfl⟩
 apart C hC x hx hCx:=by
  obtain⟨i,hi,rfl⟩:=Aq.1 hx;have h0:=(AX.1 hi).2;simp only[Aj] at h0;obtain⟨_,r,hr,he,ht,_⟩:=hC _ hCx;have:=zgn hr he ht;omega
def G3(l:List Rule)(P:List Int)(s m:Nat)(j:Nat):Int:=cntE l P j-(((toD l s).take m).count (j:Int):Int)
theorem P9(l:List Rule)(P:List Int)(s:Nat):G3 l P s 0=cntE l P:=by funext j;simp[G3]
theorem z3i{l:List Rule}{P:List Int}{s:Nat}(hs:(s:Int)∉P):G3 l P s (toD l s).length=cntE l (P++[(s:Int)]):=by
 funext j;have:=Rc (j:=j) hs l;rw[G3,AH];omega
theorem WU{l:List Rule}{P:List Int}{s m j:Nat}(hs:(s:Int)∉P):cntE l (P++[(s:Int)]) j<=G3 l P s m j:=by
 have h1:=Rc (j:=j) hs l;have h2:=(FO m (toD l s)).count_le (j:Int);rw[G3];omega
theorem LA{l:List Rule}{P:List Int}{s m t:Nat}(hm:m<(toD l s).length)(ht:nth (toD l s) m=t):G3 l P s (m+1)=λj=>if j=t then G3 l P s m t-1 else G3 l P s m j:=by
 funext j;rw[G3,take_at hm,List.count_append,ht];by_cases e:j=t
 ·subst e;simp[G3];omega
 ·have h0:List.count (j:Int) [(t:Int)]=0:=List.count_eq_zero.2 (by simp;omega)
  rw[Ah e,h0,G3];omega
theorem Tj{l:List Rule}{P:List Int}{s m t:Nat}(hs:(s:Int)∉P)(hm:m<(toD l s).length)(ht:nth (toD l s) m=t):0<G3 l P s m t:=by
 have h1:=WU (l:=l) (m:=m+1) (j:=t) hs;have h2:=zgl l (P++[(s:Int)]) t;rw[LA hm ht] at h1;simp only[Br] at h1;omega
theorem z3j{l:List Rule}{n:Nat}{P td:List Int}{s m t:Nat}(hs:(s:Int)∉P)(hm:m<(toD l s).length)(ht:nth (toD l s) m=t)(htn:t<n)(h:KInv l n (P++[(s:Int)]++td) (G3 l P s m)):
 KInv l n (P++[(s:Int)]++if G3 l P s m t-1=0 then td++[(t:Int)] else td) (G3 l P s (m+1)):=by
 have hp:=Tj hs hm ht
 have hno:(t:Int)∉P++[(s:Int)]++td:=λhh=>by
  have:=(h.zero t htn).1 hh;omega
 have hst:=LA (P:=P) hm ht;split
 ·rename_i h0
  rw[<-Aw];refine⟨Dr.2 ⟨h.nodup,by simp,λa ha b hb=>?_⟩,λx hx=>?_,λj hj=>?_,λC hC x hx hCx=>?_⟩
  ·simp only[As] at hb
   subst hb;exact λe=>hno (e ▸ ha)
  ·rcases Au.1 hx with hx|hx
   ·exact h.range x hx
   ·simp only[As] at hx;omega
  ·rw[hst,Au,As]
   by_cases e:j=t
   ·subst e;simp[h0]
   ·simp only[Ah e]
    rw[<-h.zero j hj];exact⟨λhh=>hh.elim id λhh=>absurd hh (by omega),.inl⟩
  ·rcases Au.1 hx with hx|hx
   ·exact h.apart C hC x hx hCx
   ·simp only[As] at hx
    subst hx;obtain⟨_,r,hr,he,hrt,hrf⟩:=hC _ hCx;have hf:r.from_∉P++[(s:Int)]:=λhh=>h.apart C hC _ (Au.2 (.inl hh)) hrf;have h1:=z9d hr he hrt hf;have h2:=WU (l:=l) (m:=m+1) (j:=t) hs;rw[hst] at h2;simp only[Br] at h2;omega
 ·rename_i h0
  refine⟨h.nodup,h.range,λj hj=>?_,h.apart⟩;rw[hst];by_cases e:j=t
  ·subst e;simp only[Br];exact⟨λhh=>absurd hh hno,λhh=>absurd hh h0⟩
  ·simp only[Ah e];exact h.zero j hj
theorem z3k{l:List Rule}{n:Nat}{P:List Int}(hl:∀r∈l,0<=r.from_/\r.from_<n)(h:KInv l n P (cntE l P)):P.length<n↔cycP l n:=by
 constructor
 ·intro hlt
  refine⟨λj=>(0<=j/\j<n)/\j∉P,λj hj=>⟨hj.1,?_⟩,?_⟩
  ·have h0:cntE l P j.toNat≠0:=λh0=>hj.2 (by
    have:=(h.zero j.toNat (by omega)).2 h0
    rwa [show ((j.toNat:Nat):Int)=j by omega] at this)
   have:0<(l.filter λr=>Cy r&&(decide (r.to_=(j.toNat:Nat))&&!decide (r.from_∈P))).length:=by
    simp only[cntE] at h0;omega
   obtain⟨r,hr⟩:=List.exists_mem_of_length_pos this;obtain⟨h1,h2⟩:=AX.1 hr;simp only[Ad,Aj,CC,Cr] at h2;exact⟨r,h1,h2.1,by rw[h2.2.1];omega,hl r h1,h2.2.2⟩
  ·refine Bc λhno=>?_
   have:=JL (z3g n) λx hx=>Bc λhp=>hno ⟨x,Re.1 hx,hp⟩;simp[idsN] at this;omega
 ·rintro⟨C,hC,j,hj⟩
  have hr:=(hC j hj).1;have hjP:j∉P:=λhh=>h.apart C hC j hh hj
  have:=JL (a:=j::P) (b:=idsN n) (Cd.2 ⟨hjP,h.nodup⟩) λx hx=>by
   rcases Ag.1 hx with rfl|hx
   ·exact Re.2 hr
   ·exact Re.2 (h.range x hx)
  simp[idsN] at this;omega
def onF(l:List Rule)(on:Nat->Bool)(j:Nat):Bool:=l.any λr=>Cy r&&(on r.from_.toNat&&decide (r.to_=j))
def onK(l:List Rule):Nat->Nat->Bool
 |0=>λ_=>true
 |k+1=>onF l (onK l k)
def YM(l:List Rule)(on:Nat->Bool):Bool:=l.any λr=>Cy r&&on r.from_.toNat
def cycR(l:List Rule)(n:Nat):Bool:=(List.range (n+1)).all λk=>YM l (onK l k)
theorem z9e{l:List Rule}{p q:Nat->Bool}(h:∀j,p j=true->q j=true)(j:Nat):onF l p j=true->onF l q j=true:=by
 simp only[onF,C6,Ad,Aj];rintro⟨r,hr,h1,h2,h3⟩;exact⟨r,hr,h1,h _ h2,h3⟩
theorem Rf(l:List Rule):∀(k j:Nat),onK l (k+1) j=true->onK l k j=true
 |0,j,_=>rfl
 |k+1,j,h=>z9e (λj=>Rf l k j) j h
theorem filter_lt{p q:Nat->Bool}(h:∀j,p j=true->q j=true):∀{l:List Nat}{x:Nat},x∈l->q x=true->p x=false->(l.filter p).length<(l.filter q).length
 |[],_,hx,_,_=>by cases hx
 |y::l,x,hx,hq,hp=>by
  have hle:∀l:List Nat,(l.filter p).length<=(l.filter q).length:=λl=>by
   induction l with
   |nil=>simp
   |cons a l ih =>
    simp only[BH];have:=h a;cases hpa:p a<;>cases hqa:q a<;>simp_all<;>omega
  simp only[BH];rcases Ag.1 hx with rfl|hx
  ·have:=hle l
   simp only[hp,hq,AB,Bt,Br,List.length_cons];omega
  ·have ih:=filter_lt h hx hq hp
   have:=h y;cases hpa:p y<;>cases hqa:q y<;>simp_all<;>omega
theorem z9f{l:List Rule}{n:Nat}(hl:∀r∈l,(0<=r.from_/\r.from_<n)/\0<=r.to_/\r.to_<n):cycR l n=true↔cycP l n:=by
 rw[cycR,AO];constructor
 ·intro h
  have hex:∃k,k<=n/\∀j,j<n->onK l k j=true->onK l (k+1) j=true:=by
   refine Bc λhno=>?_
   have hstep:∀k,k<=n->∃j,j<n/\onK l k j=true/\onK l (k+1) j=false:=λk hk=>Bc λhc=>hno ⟨k,hk,λj hj h1=>by
    cases h2:onK l (k+1) j
    ·exact absurd ⟨j,hj,h1,h2⟩ hc
    ·rfl⟩
   have key:∀k,k<=n+1->((List.range n).filter (onK l k)).length+k<=n:=λk=>by
    induction k with
    |zero =>
     intro _;have:=B7 (onK l 0) (List.range n);simpa using this
    |succ k ih =>
     intro hk;obtain⟨j,hj,h1,h2⟩:=hstep k (by omega);have:=filter_lt (λj=>Rf l k j) (Bo.2 hj) h1 h2;have:=ih (by omega);omega
   have:=key (n+1) (Ae _);omega
  obtain⟨k,hk,hs⟩:=hex;refine⟨λj=>0<=j/\j<n/\onK l k j.toNat=true,λj hj=>⟨⟨hj.1,hj.2.1⟩,?_⟩,?_⟩
  ·have h1:=hs j.toNat (by omega) hj.2.2
   simp only[onK,onF,C6,Ad,Aj] at h1;obtain⟨r,hr,he,hf,ht⟩:=h1;have hb:=hl r hr;exact⟨r,hr,he,by omega,by omega,by omega,hf⟩
  ·have h1:=h k (by simp;omega)
   simp only[YM,C6,Ad] at h1;obtain⟨r,hr,_,hf⟩:=h1;have hb:=hl r hr;exact⟨r.from_,by omega,by omega,hf⟩
 ·rintro⟨C,hC,j,hj⟩ k _
  have key:∀k i,C i->onK l k i.toNat=true:=λk=>by
   induction k with
   |zero=>exact λ_ _=>rfl
   |succ k ih =>
    intro i hi;obtain⟨h1,r,hr,he,ht,hf⟩:=hC i hi;simp only[onK,onF,C6,Ad,Aj];exact⟨r,hr,he,ih _ hf,by omega⟩
  obtain⟨_,r,hr,he,_,hf⟩:=hC j hj;simp only[YM,C6,Ad];exact⟨r,hr,he,key k _ hf⟩
end Go.Proofs.YtbcjoeadpjfcfaaGreat
namespace Go.Proofs.YtbcjoeadpjfcfaaGreat.Abs
theorem PD{n b:Nat}{env:Env}{l l':List Grp}{g w v d:Nat}{ex:Bool}{x:AV}(ks:List Nat)(hw:0<w)(hlt:g<l.length)(hg:l.getD g default=⟨w,v,ex,[x]⟩)(hk:g∉ks)
 (hok:Ea d ((hl l).only ks) x) (hl':(Fv 0 ks l).set g ⟨w,v,ex,[frzV d ((hl l).only ks) x]⟩=l'):Ent n b env (hl l) env (hl l'):=λS val hb hS hv=>by
 subst hl';have hS1:=MF ks hS;have he:=HM ks hS;refine⟨S.kill (hl l) ks,rfl,he.down hb,?_,λi hi=>VRel.mono he _ (hv i hi)⟩;have hlk:g<(Fv 0 ks l).length:=by rw[GZ];exact hlt
 have hat0:∀j,j<l.length->((hl l).kill ks).at_ j=(Fv 0 ks l).getD j default:=λj hj=>by
  rw[JG 0 ks l j hj,Bn];rfl
 have hn:(hl ((Fv 0 ks l).set g ⟨w,v,ex,[frzV d ((hl l).only ks) x]⟩)).n=((hl l).kill ks).n:=by simp[hl,A7.kill,GZ]
 have hlen:((hl l).kill ks).n=l.length:=rfl
 have hat:∀j,j<l.length->(hl ((Fv 0 ks l).set g ⟨w,v,ex,[frzV d ((hl l).only ks) x]⟩)).at_ j=if j=g then ⟨w,v,ex,[frzV d ((hl l).only ks) x]⟩ else ((hl l).kill ks).at_ j:=λj hj=>by
  rw[DT];by_cases e:j=g
  ·subst e;rw[Ai rfl];exact Kn _ hlk
  ·rw[Ah e,hat0 j hj];exact GY _ (Al e)
 have hgk:((hl l).kill ks).at_ g=⟨w,v,ex,[x]⟩:=by
  show (if g∈ks then _ else _)=_;rw[Ah hk,DT,hg]
 have h1:GRel (S.kill (hl l) ks) ⟨w,v,ex,[x]⟩ g:=by have:=hS1.grp g (by rw[hlen];exact hlt);rwa [hgk] at this
 have h0:GRel S ⟨w,v,ex,[x]⟩ g:=by have:=hS.grp g hlt;rwa [DT,hg] at this
 have hG:GRel (S.kill (hl l) ks) ⟨w,v,ex,[frzV d ((hl l).only ks) x]⟩ g:=by
  refine⟨h1.ver,h1.wid,λ_ hc=>?_,λhh=>h1.len hh,λhh he=>h1.full hh he,λhh=>by simp only at hh;omega⟩;obtain⟨⟨cells,TT,vs,a1,a2,a3,a4⟩,_⟩:=h0.live hw hc;refine⟨⟨cells,TT,vs,a1,a2,?_,a4⟩,(h1.live hw hc).2⟩;obtain⟨u,r,rfl,hu,hr⟩:=a3;exact⟨u,r,rfl,MG ks hS d hok hu,hr.mono he⟩
 have hhas:∀j,j<l.length->((hl ((Fv 0 ks l).set g ⟨w,v,ex,[frzV d ((hl l).only ks) x]⟩)).at_ j).has ((S.kill (hl l) ks).cap j)->(((hl l).kill ks).at_ j).has ((S.kill (hl l) ks).cap j):=λj hj h=>by
  rw[hat j hj] at h;by_cases e:j=g
  ·subst e;rw[Ai rfl] at h;rw[hgk];exact h
  ·rw[Ah e] at h;exact h
 refine⟨hS1.n.trans hn.symm,λj hj=>?_,λj j' a c hne p q=>hS1.apart j j' (by rwa [hn] at a) (by rwa [hn] at c) hne (hhas j (by rwa [hn] at a) p) (hhas j' (by rwa [hn] at c) q),hS1.im⟩;rw[hn] at hj;rw[hat j hj];by_cases e:j=g
 ·subst e;rw[Ai rfl];exact hG
 ·rw[Ah e];exact hS1.grp j hj
mutual
theorem zcn{m:Nat}{σ:Nat->Nat}(h:∀g,g<m->σ g=g):∀x:AV,ltV m x->ren σ x=x
 |.any,_|.bool _,_|.int _ _,_|.str _,_|.nilS,_|.nul,_|.emp,_|.nilP,_|.nilF,_|.yld _,_|.lst _ _,_|.full _ _,_|.cptr _,_=>rfl
 |.map g v,hx=>by rw[ren,h g hx]
 |.ref g v o n,hx=>by rw[ren,h g hx]
 |.ptr g v i o,hx=>by rw[ren,h g hx]
 |.agg cs,hx=>by rw[ren,LB h cs hx]
 |.tup cs,hx=>by rw[ren,LB h cs hx]
 |.fn f cs,hx=>by rw[ren,LB h cs hx]
theorem LB{m:Nat}{σ:Nat->Nat}(h:∀g,g<m->σ g=g):∀xs:List AV,ltL m xs->renL σ xs=xs
 |[],_=>rfl
 |x::xs,hx=>by rw[renL,zcn h x hx.1,LB h xs hx.2]
end
theorem z9g{m N g:Nat}(h:g<m):sg (List.range m) N g=g:=by
 unfold sg;rw[Ai (by simpa using h)];simp[List.getD,h]
theorem z3l{m:Nat}{σ:Nat->Nat}(h:∀g,g<m->σ g=g){G:Grp}(hG:ltL m G.xs):renG σ G=G:=by
 cases G with
 |mk w v e xs=>rw[reG,LB h xs hG]
theorem PE:∀(r extra pre:List Grp)(l:List Grp),l.length=r.length->setG ((List.range r.length).map (·+pre.length)) r (pre++l++extra)=pre++r++extra
 |[],extra,pre,l,h=>by
  have:l=[]:=Az (by simpa using h);subst this;simp[setG]
 |G::r,extra,pre,[],h=>by simp at h
 |G::r,extra,pre,a::l,h=>by
  rw[List.length_cons,List.range_succ_eq_map,BB,Dj,z2g];have e1:(pre++a::l++extra).set (0+pre.length) G=(pre++[G])++l++extra:=by simp
  have e2:(List.range r.length).map ((λx=>x+pre.length) ∘ Nat.succ)=(List.range r.length).map (·+(pre++[G]).length):=AQ λi _=>by simp;omega
  rw[e1,e2,PE r extra (pre++[G]) l (by simpa using h)];simp
theorem z3m{P:Program}{f:Nat}{xs:List AV}{l0 extra:List Grp}{K0 K:AV->A7->Prop}(h:BZ P f xs (hl l0) K0)(hlt:ltL l0.length xs)(hltG:∀G∈l0,ltL l0.length G.xs)
 (hK:∀y H',K0 y H'->∃l',H'=hl l'/\l'.length=l0.length/\ltV l0.length y/\(∀G∈l',ltL l0.length G.xs)/\@nx y (hl (l'++extra)) ⟨K⟩):@QB P f xs (hl (l0++extra)) ⟨K⟩:=by
 have hs:∀g,g<l0.length->sg (List.range l0.length) (l0++extra).length g=g:=λg hg=>z9g hg;have hll:(List.range l0.length).length=l0.length:=by simp
 refine NF (List.range l0.length) h Ev (λk hk=>by simp at hk ⊢;omega) (LB hs xs hlt) ?_ (by rw[hll];exact hlt) (by rw[hll];exact hltG) ?_
 ·refine C7 (by simp) λi h1 h2=>?_
  have hi:i<l0.length:=by simpa using h1
  simp only[Fg,EB];rw[z3l hs (hltG _ (Cg hi))];simp[List.getD,AE hi,hi]
 ·intro y H' hy
  obtain⟨l',rfl,h1,h2,h3,h4⟩:=hK y H' hy;refine⟨l',rfl,by rw[hll,h1];exact Ae _,?_⟩;rw[zcn hs y h2];have e1:l'.map (renG (sg (List.range l0.length) (l0++extra).length))=l':=(AQ λG hG=>z3l hs (h3 G hG)).trans (List.map_id _);rw[e1];have e2:=PE l' extra [] l0 h1.symm;simp only[List.length_nil,Nat.add_zero,List.map_id',List.nil_append,h1] at e2;rw[e2];exact h4
end Go.Proofs.YtbcjoeadpjfcfaaGreat.Abs
