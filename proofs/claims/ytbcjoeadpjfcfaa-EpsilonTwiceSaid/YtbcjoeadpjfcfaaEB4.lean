/-
  Parts of the proof that the law holds whatever the input; without conditions.
-/
import Derived.LoopNIn
import Derived.Test.YtbcjoeadpjfcfaaEB3
import Derived.Test.YtbcjoeadpjfcfaaEB2
set_option linter.unusedSimpArgs false
set_option linter.unusedVariables false
namespace Go.Proofs.Ytbcjoeadpjfcfaa
open Abs
def memL (l:List Span) (x:Int):Prop:=∃ s∈l,s.lo≤x∧x≤s.hi
theorem Bb (x:Int):¬memL [] x:=fun⟨s,hs,_⟩=>by cases hs
theorem Am {s:Span} {l:List Span} {x:Int}:memL (s::l) x↔(s.lo≤x∧x≤s.hi)∨memL l x:=by
 constructor
 · rintro⟨t,ht,hx⟩
   rcases List.mem_cons.1 ht with rfl|ht
   · exact .inl hx
   · exact .inr ⟨t,ht,hx⟩
 · rintro (hx|⟨t,ht,hx⟩)
   · exact⟨s,by simp,hx⟩
   · exact⟨t,by simp[ht],hx⟩
theorem Df {l m:List Span} {x:Int}:memL (l++m) x↔memL l x∨memL m x:=by
 constructor
 · rintro⟨t,ht,hx⟩
   rcases List.mem_append.1 ht with ht|ht
   · exact .inl ⟨t,ht,hx⟩
   · exact .inr ⟨t,ht,hx⟩
 · rintro (⟨t,ht,hx⟩|⟨t,ht,hx⟩)
   · exact⟨t,by simp[ht],hx⟩
   · exact⟨t,by simp[ht],hx⟩
def Plain (l:List Span):Prop:=(∀ s∈l,s.lo≤s.hi)∧l.Pairwise fun s t=>s.hi+1<t.lo
theorem Plain.tail {s:Span} {l:List Span} (h:Plain (s::l)):Plain l:=⟨fun t ht=>h.1 t (by simp[ht]),(List.pairwise_cons.1 h.2).2⟩
theorem Plain.head {s:Span} {l:List Span} (h:Plain (s::l)):s.lo≤s.hi:=h.1 s (by simp)
theorem Plain.after {s:Span} {l:List Span} (h:Plain (s::l)) {x:Int} (hx:memL l x):s.hi+1<x:=by
 obtain⟨t,ht,h1,h2⟩:=hx;have:=(List.pairwise_cons.1 h.2).1 t ht;omega
theorem Ho:∀ {a b:List Span},Plain a→Plain b→(∀ x,memL a x↔memL b x)→a=b
 | [],[],_,_,_=>rfl
 | [],t::b,_,hb,h=>absurd ((h t.lo).2 (Am.2 (.inl ⟨Int.le_refl _,hb.head⟩))) (Bb _)
 | s::a,[],ha,_,h=>absurd ((h s.lo).1 (Am.2 (.inl ⟨Int.le_refl _,ha.head⟩))) (Bb _)
 | s::a,t::b,ha,hb,h=>by
   have hs:=ha.head;have ht:=hb.head
   have key:∀ {s t:Span} {a b:List Span},Plain (s::a)→Plain (t::b)→(∀ x,memL (s::a) x↔memL (t::b) x)→t.lo≤s.lo:=fun {s t a b} ha hb h=>by
     rcases Am.1 ((h s.lo).1 (Am.2 (.inl ⟨Int.le_refl _,ha.head⟩))) with hh|hh
     · exact hh.1
     · have:=hb.after hh;have:=hb.head;omega
   have hlo:s.lo=t.lo:=Int.le_antisymm (key hb ha fun x=>(h x).symm) (key ha hb h)
   have key2:∀ {s t:Span} {a b:List Span},Plain (s::a)→Plain (t::b)→(∀ x,memL (s::a) x↔memL (t::b) x)→s.lo=t.lo→t.hi≤s.hi:=fun {s t a b} ha hb h e=>by
     have:=ha.head;rcases Int.lt_or_le s.hi t.hi with hlt|hle
     · rcases Am.1 ((h (s.hi+1)).2 (Am.2 (.inl ⟨by omega,by omega⟩))) with hh|hh
       · omega
       · have:=ha.after hh;omega
     · exact hle
   have hhi:s.hi=t.hi:=Int.le_antisymm (key2 hb ha (fun x=>(h x).symm) hlo.symm) (key2 ha hb h hlo);have hst:s=t:=by cases s;cases t;simp_all
   subst hst;refine congrArg _ (Ho ha.tail hb.tail fun x=>⟨fun hx=>?_,fun hx=>?_⟩)
   · rcases Am.1 ((h x).1 (Am.2 (.inr hx))) with hh|hh
     · have:=ha.after hx;omega
     · exact hh
   · rcases Am.1 ((h x).2 (Am.2 (.inr hx))) with hh|hh
     · have:=hb.after hx;omega
     · exact hh
def Cy (out:List Span) (x:Span):List Span :=
 match out.getLast? with
 | some y=>if x.lo≤y.hi+1 then out.dropLast++[⟨y.lo,max y.hi x.hi⟩] else out++[x]
 | none=>[x]
theorem Eh (x:Span):Cy [] x=[x]:=rfl
theorem Jp (out:List Span) (y x:Span):Cy (out++[y]) x=if x.lo≤y.hi+1 then out++[⟨y.lo,max y.hi x.hi⟩] else out++[y]++[x]:=by
 simp[Cy]
theorem Ei (l:List Span):l=[]∨∃ m y,l=m++[y]:=by
 rcases List.eq_nil_or_concat l with h|⟨m,y,h⟩
 · exact .inl h
 · exact .inr ⟨m,y,by simpa using h⟩
theorem E6 {m:List Span} {y:Span}:Plain (m++[y])↔Plain m∧y.lo≤y.hi∧∀ s∈m,s.hi+1<y.lo:=by
 simp only[Plain,List.pairwise_append,List.mem_append,List.mem_singleton,List.pairwise_singleton,true_and,or_imp,forall_and,forall_eq];constructor
 · rintro⟨⟨h1,h2⟩,h3,h4⟩;exact⟨⟨h1,h3⟩,h2,h4⟩
 · rintro⟨⟨h1,h3⟩,h2,h4⟩;exact⟨⟨h1,h2⟩,h3,h4⟩
def Before (l:List Span) (x:Int):Prop:=∀ s∈l,s.lo≤x
theorem Xr {out:List Span} {x:Span} (h:Plain out) (hx:x.lo≤x.hi) (hb:Before out x.lo):Plain (Cy out x)∧Before (Cy out x) x.lo∧∀ v,memL (Cy out x) v↔memL out v∨(x.lo≤v∧v≤x.hi):=by
 rcases Ei out with rfl|⟨m,y,rfl⟩
 · refine⟨⟨by simp[Eh,hx],by simp[Eh]⟩,by simp[Eh,Before],fun v=>?_⟩
   rw[Eh,Am];constructor
   · rintro (h|h)
     · exact .inr h
     · exact absurd h (Bb _)
   · rintro (h|h)
     · exact absurd h (Bb _)
     · exact .inl h
 · rw[Jp]
   obtain⟨h1,h2,h3⟩:=E6.1 h;have hy:y.lo≤x.lo:=hb y (by simp);split
   · rename_i hle
     refine⟨E6.2 ⟨h1,by simp only;omega,fun s hs=>h3 s hs⟩,?_,fun v=>?_⟩
     · intro s hs
       rcases List.mem_append.1 hs with hs|hs
       · exact hb s (by simp[hs])
       · simp only[List.mem_singleton] at hs;subst hs;exact hy
     · rw[Df,Df,Am,Am]
       simp only[Bb,or_false];constructor
       · rintro (h|h)
         · exact .inl (.inl h)
         · by_cases hv:v≤y.hi
           · exact .inl (.inr ⟨h.1,hv⟩)
           · exact .inr ⟨by omega,by omega⟩
       · rintro ((h|h)|h)
         · exact .inl h
         · exact .inr ⟨h.1,by omega⟩
         · exact .inr ⟨by omega,by omega⟩
   · rename_i hle
     refine⟨E6.2 ⟨h,hx,fun s hs=>?_⟩,?_,fun v=>?_⟩
     · rcases List.mem_append.1 hs with hs|hs
       · have:=h3 s hs;omega
       · simp only[List.mem_singleton] at hs;subst hs;omega
     · intro s hs
       rcases List.mem_append.1 hs with hs|hs
       · exact hb s hs
       · simp only[List.mem_singleton] at hs;subst hs;exact Int.le_refl _
     · rw[Df,Am]
       simp only[Bb,or_false]
theorem Gb:∀ (l out:List Span),Plain out→(∀ s∈l,s.lo≤s.hi)→l.Pairwise (fun a b=>a.lo≤b.lo)→(∀ s∈l,Before out s.lo)→Plain (l.foldl Cy out)∧∀ v,memL (l.foldl Cy out) v↔memL out v∨memL l v
 | [],out,h,_,_,_=>⟨h,fun v=>by simp only[List.foldl_nil,Bb,or_false]⟩
 | x::l,out,h,h1,h2,h3=>by
   obtain⟨p1,p2,p3⟩:=Xr h (h1 x (by simp)) (h3 x (by simp));rw[List.pairwise_cons] at h2;obtain⟨q1,q2⟩:=Gb l (Cy out x) p1 (fun s hs=>h1 s (by simp[hs])) h2.2 (fun s hs t ht=>Int.le_trans (p2 t ht) (h2.1 s hs));refine⟨q1,fun v=>?_⟩;rw[List.foldl_cons,q2 v,p3 v,Am,or_assoc]
theorem z41 (out:List Span) (x:Span):(Cy out x).length≤out.length+1:=by
 rcases Ei out with rfl|⟨m,y,rfl⟩
 · simp[Eh]
 · rw[Jp];split<;>simp
theorem Sf:∀ (l out:List Span),(l.foldl Cy out).length≤out.length+l.length
 | [],out=>by simp
 | x::l,out=>by
   have h1:=Sf l (Cy out x);have h2:=z41 out x;simp only[List.foldl_cons,List.length_cons];omega
def Jq (s:Span):Span:=⟨max s.lo (-1073741824),min s.hi 1073741824⟩
def inN (l:List Span):List Span:=(l.map Jq).filter fun s=>decide (s.lo≤s.hi)
theorem z7y {l:List Span} {x:Int}:memL (inN l) x↔memL l x∧-1073741824≤x∧x≤1073741824:=by
 constructor
 · rintro⟨s,hs,h1,h2⟩
   simp only[inN,List.mem_filter,List.mem_map] at hs;obtain⟨⟨t,ht,rfl⟩,_⟩:=hs;simp only[Jq] at h1 h2;exact⟨⟨t,ht,by omega,by omega⟩,by omega,by omega⟩
 · rintro⟨⟨t,ht,h1,h2⟩,h3,h4⟩
   refine⟨Jq t,?_,by simp only[Jq];omega,by simp only[Jq];omega⟩;simp only[inN,List.mem_filter,List.mem_map,decide_eq_true_eq];exact⟨⟨t,ht,rfl⟩,by simp only[Jq];omega⟩
theorem Zx {l:List Span}:∀ s∈inN l,s.lo≤s.hi:=fun s hs=>by
 simp only[inN,List.mem_filter,decide_eq_true_eq] at hs;exact hs.2
theorem Nw {l m:List Span} (h:l.Perm m) (x:Int):memL l x↔memL m x :=
 ⟨fun⟨s,hs,hx⟩=>⟨s,h.mem_iff.1 hs,hx⟩,fun⟨s,hs,hx⟩=>⟨s,h.mem_iff.2 hs,hx⟩⟩
def Ar (l:List Span):List Span:=((inN l).mergeSort fun a b=>decide (a.lo≤b.lo)).foldl Cy []
theorem zcs {l m:List Span} (hp:m.Perm (inN l)) (hs:m.Pairwise fun a b=>a.lo≤b.lo):m.foldl Cy []=Ar l:=by
 have hq:((inN l).mergeSort fun a b=>decide (a.lo≤b.lo)).Perm (inN l):=List.mergeSort_perm _ _
 have hs':((inN l).mergeSort fun a b=>decide (a.lo≤b.lo)).Pairwise fun a b=>a.lo≤b.lo:=by
   have:=List.pairwise_mergeSort (le:=fun a b:Span=>decide (a.lo≤b.lo)) (fun a b c h1 h2=>by simp at *;omega) (fun a b=>by simp;omega) (inN l);simpa using this
 obtain⟨a1,a2⟩:=Gb m [] ⟨by simp,by simp⟩ (fun s h=>Zx s (hp.mem_iff.1 h)) hs (fun s _ t ht=>by cases ht);obtain⟨b1,b2⟩:=Gb _ [] ⟨by simp,by simp⟩ (fun s h=>Zx s (hq.mem_iff.1 h)) hs' (fun s _ t ht=>by cases ht);refine Ho a1 b1 fun x=>?_;rw[Ar,a2 x,b2 x,Nw hp x,Nw hq x]
theorem Ao (l:List Span):Plain (Ar l)∧∀ x,memL (Ar l) x↔memL l x∧-1073741824≤x∧x≤1073741824:=by
 have hq:((inN l).mergeSort fun a b=>decide (a.lo≤b.lo)).Perm (inN l):=List.mergeSort_perm _ _
 have hs':((inN l).mergeSort fun a b=>decide (a.lo≤b.lo)).Pairwise fun a b=>a.lo≤b.lo:=by
   have:=List.pairwise_mergeSort (le:=fun a b:Span=>decide (a.lo≤b.lo)) (fun a b c h1 h2=>by simp at *;omega) (fun a b=>by simp;omega) (inN l);simpa using this
 obtain⟨b1,b2⟩:=Gb _ [] ⟨by simp,by simp⟩ (fun s h=>Zx s (hq.mem_iff.1 h)) hs' (fun s _ t ht=>by cases ht);refine⟨b1,fun x=>?_⟩;rw[Ar,b2 x,Nw hq x,z7y];simp only[Bb,false_or]
theorem Xs (l:List Span):(inN l).length≤l.length:=by
 have:=List.length_filter_le (fun s:Span=>decide (s.lo≤s.hi)) (l.map Jq);simpa [inN] using this
theorem Dm (l:List Span):(Ar l).length≤l.length:=by
 have h1:=Sf ((inN l).mergeSort fun a b=>decide (a.lo≤b.lo)) [];have h2:=Xs l;rw[List.length_mergeSort] at h1;simp only[List.length_nil] at h1;rw[Ar];omega
end Go.Proofs.Ytbcjoeadpjfcfaa
namespace Go.Proofs.Ytbcjoeadpjfcfaa.Abs
mutual
def valOf:AV→Value
 | .int k a=>.int k a
 | .bool b=>.bool b
 | .agg xs=>.agg (zfc xs).toArray
 | _=>undef
def zfc:List AV→List Value
 | []=>[]
 | x::xs=>valOf x::zfc xs
end
def Flat (x:AV):Prop:=∀ S:MS,VRel S x (valOf x)
abbrev encI (r:List AV):Array Value:=(r.map valOf).toArray
def Clo (J:Nat→(Nat→Prop)→World→Prop):Prop :=
 ∀ k O W W',J k O W→W'.os=W.os→W'.tape=W.tape→W'.output=W.output→W.heap.size≤W'.heap.size →
   (∀ b,b<W.heap.size→¬O b→W'.heap[b]? = W.heap[b]?)→J k (fun b=>O b∨(W.heap.size≤b∧b<W'.heap.size)) W'
def Zy (P:Program) (gf:Nat) (caps:List AV) (rows:List (List AV)):Prop :=
 Enters P gf∧∀ (m l:Nat) (S:MS) (lb:List Value) (J Jx:Nat→(Nat→Prop)→World→Prop),
   SRel S Ac.nil→Ad S caps lb→Clo J→Clo Jx→J 0 (fun _=>False) S.w →
   (∀ k O W,J k O W∨Jx k O W→(∀ b,S.im b→¬O b∧W.heap[b]? = S.w.heap[b]?)∧(W.os=S.w.os∧W.tape=S.w.tape∧W.output=S.w.output)∧S.w.heap.size≤W.heap.size∧∀ b,O b→S.w.heap.size≤b∧b<W.heap.size) →
   (∀ k row O W,rows[k]? = some row→J k O W→YieldAt Fence.wide m P l (encI row) W fun e W'=>W.heap.size≤W'.heap.size∧(∀ b,O b→W'.heap[b]? = W.heap[b]?)∧(e=.returned (.bool true)∧J (k+1) O W'∨e=.returned (.bool false)∧Jx (k+1) O W')) →
   CallsIn Fence.wide (m+1) P gf (#[.func (.yield l) #[] #[]]++lb.toArray) S.w fun e W'=>(∃ v,e=.returned v)∧((∃ O,J rows.length O W')∨∃ k O,Jx k O W')
def setL:Env→List Nat→List AV→Env
 | env,p::ps,x::r=>setL (env.put (some p) x) ps r
 | env,_,_=>env
section
variable {P:Program} {n b:Nat} {env:Env} {H:Ac} {Q:Ex→Env→Ac→Prop}
theorem SRel.turn2 {S S':MS} {H:Ac} (h:SRel S H) (hw:∀ b,S.im b→S'.w.heap[b]? = S.w.heap[b]?) (hi:S'.im=S.im) (hn:S'.n=S.n) (hc:S'.cur=S.cur) (hp:S'.place=S.place) (hcap:S'.cap=S.cap) (hwid:S'.wid=S.wid)
   (hk:∀ b,S'.keep b→S.keep b∨S.w.heap.size≤b) (hkb:∀ b,S'.keep b→b<S'.w.heap.size) (hg:∀ b,¬(S.im b∨S.keep b)→b<S.w.heap.size→S'.w.heap[b]? = S.w.heap[b]?) (hsz:S.w.heap.size≤S'.w.heap.size):SRel S' H:=by
 have ev:=Evi.of hw hi hn hc hp hcap hwid;refine⟨hn.trans h.n,fun g hgn=>?_,fun g g' h1 h2 h3 h4 h5=>?_,fun b hb=>?_⟩
 · have hG:=h.grp g hgn
   have hni:¬(S.im (S.place g)∨S.keep (S.place g))→S.place g<S.w.heap.size→¬(S'.im (S'.place g)∨S'.keep (S'.place g)):=fun hn hlt hh=>by
     rw[hi,hp] at hh;rcases hh with hh|hh
     · exact hn (.inl hh)
     · rcases hk _ hh with hh|hh
       · exact hn (.inr hh)
       · omega
   refine⟨by rw[hc];exact hG.ver,by rw[hwid];exact hG.wid,fun hw0 hc0=>?_,fun hw0=>by rw[hcap];exact hG.len hw0,fun hw0 he=>by rw[hcap];exact hG.full hw0 he,fun hw0 he=>?_⟩
   · rw[hcap] at hc0 ⊢
     obtain⟨⟨cells,T,vs,a1,a2,a3,a4⟩,a5⟩:=hG.live hw0 hc0;exact⟨⟨cells,T,vs,by rw[hp,hg _ a5 (hG.lt hw0 hc0)];exact a1,a2,Ad.moni ev _ a3,a4⟩,hni a5 (hG.lt hw0 hc0)⟩
   · obtain⟨⟨es,clock,a1,a2⟩,a5⟩:=hG.mlive hw0 he
     exact⟨⟨es,clock,by rw[hp,hg _ a5 (hG.mlt hw0 he)];exact a1,Ad.moni ev _ a2⟩,hni a5 (hG.mlt hw0 he)⟩
 · rw[hp]
   rw[hcap] at h4 h5;exact h.apart g g' h1 h2 h3 h4 h5
 · rcases hb with hb|hb
   · rw[hi] at hb;exact Nat.lt_of_lt_of_le (h.im b (.inl hb)) hsz
   · exact hkb b hb
theorem Zz {S:MS} {ds:List Deferred} (hd:Marks S ds):∀ {ps:List Nat} {row:List AV} {env:Env} {tmps:Array Value} {ds':List Deferred},FRel S n env { tmps:=tmps,defers:=ds' }→(∀ p∈ps,p<n)→(∀ x∈row,Flat x) →
   FRel S n (setL env ps row) { tmps:=(ps.zip (row.map valOf)).foldl (fun t (p,v)=>t.setIfInBounds p v) tmps,defers:=ds }
 | [],row,env,tmps,_,hF,_,_=>by
   rw[show setL env [] row=env from by cases row<;>rfl];exact⟨hF.size,hd,hF.val⟩
 | p::ps,[],env,tmps,_,hF,_,_=>⟨hF.size,hd,hF.val⟩
 | p::ps,x::row,env,tmps,ds',hF,hp,hx=>by
   have:=hF.put (dst:=some p) (by simpa using hp p (by simp)) (x:=x) (v:=valOf x) (hx x (by simp) S);exact Zz hd (ps:=ps) (row:=row) this (fun q hq=>hp q (by simp[hq])) (fun y hy=>hx y (by simp[hy]))
def codeOf:Ex→Code
 | .normal=>.skip
 | .exit id=>.exit id
 | .ret=>.ret
structure Lo (S:MS) (rec:LoopState→Option Code→Loop) (W1:Nat) (st:LoopState) (pe:Option Code) (O:Nat→Prop) (S':MS) (H':Ac):Prop where
 evo:Evo S S'
 rel:SRel S' H'
 own:∀ b,O b→S'.keep b∧¬S'.im b∧W1≤b∧b<S'.w.heap.size
 size:W1≤S'.w.heap.size
 loop:S'.w.heap[S.w.heap.size+1]? = some (.loop (rec st pe))
 defd:S'.w.heap[S.w.heap.size]? = some (.deferred (some []))
 k1:S'.keep S.w.heap.size∧¬S'.im S.w.heap.size
 k2:S'.keep (S.w.heap.size+1)∧¬S'.im (S.w.heap.size+1)
theorem Lo.clo {S S':MS} {rec:LoopState→Option Code→Loop} {st:LoopState} {pe:Option Code} {O:Nat→Prop} {H':Ac} (hS:∀ b,S.im b∨S.keep b→b<S.w.heap.size) (h:Lo S rec (S.w.heap.size+2) st pe O S' H') {W':World}
   (h1:W'.os=S'.w.os) (h2:W'.tape=S'.w.tape) (h3:W'.output=S'.w.output) (h4:S'.w.heap.size≤W'.heap.size) (h5:∀ b,b<S'.w.heap.size→¬O b→W'.heap[b]? = S'.w.heap[b]?) :
   ∃ S'':MS,S''.w=W'∧Lo S rec (S.w.heap.size+2) st pe (fun b=>O b∨(S'.w.heap.size≤b∧b<W'.heap.size)) S'' H':=by
 obtain⟨S'',hd⟩:∃ S'':MS,S''={ S' with w:=W',keep:=fun b=>S'.keep b∨(S'.w.heap.size≤b∧b<W'.heap.size) }:=⟨_,rfl⟩;have him:∀ b,S'.im b→b<S'.w.heap.size:=fun b hb=>h.rel.im b (.inl hb);have hio:∀ b,S'.im b→¬O b:=fun b hb ho=>(h.own b ho).2.1 hb;have hlt:∀ b,S.im b∨S.keep b→¬O b:=fun b hb ho=>by have:=(h.own b ho).2.2.1;have:=hS b hb;omega
 have hsz:=h.size;refine⟨S'',by rw[hd],?_⟩
 have hrel:SRel S'' H':=by
   subst hd
   exact h.rel.turn2 (fun b hb=>h5 b (him b hb) (hio b hb)) rfl rfl rfl rfl rfl rfl (fun b hb=>hb.imp id And.left) (fun b hb=>hb.elim (fun hh=>Nat.lt_of_lt_of_le (h.rel.im b (.inr hh)) h4) And.right)
     (fun b hb hl=>h5 b hl (fun ho=>hb (.inr (h.own b ho).1))) h4
 have hevo:Evo S S'':=by
   have e:=h.evo;subst hd;refine⟨e.base,h1.trans e.os,h2.trans e.tape,h3.trans e.output,Nat.le_trans e.size h4,fun b hb=>?_,e.im,fun b hb=>.inl (e.keep b hb),e.fresh,e.n,e.cur,e.same⟩;exact (h5 b (Nat.lt_of_lt_of_le (hS b hb) e.size) (hlt b hb)).trans (e.kept b hb)
 have hw:S''.w=W':=by rw[hd]
 have hkeep:S''.keep=fun b=>S'.keep b∨(S'.w.heap.size≤b∧b<W'.heap.size):=by rw[hd]
 have himm:S''.im=S'.im:=by rw[hd]
 have hnO:∀ b,b<S.w.heap.size+2→¬O b:=fun b hb ho=>by have:=(h.own b ho).2.2.1;omega
 refine⟨hevo,hrel,fun b hb=>?_,by rw[hw];omega,?_,?_,?_,?_⟩
 · rw[hkeep,himm,hw]
   rcases hb with hb|⟨hb1,hb2⟩
   · obtain⟨q1,q2,q3,q4⟩:=h.own b hb
     exact⟨.inl q1,q2,q3,by omega⟩
   · exact⟨.inr ⟨hb1,hb2⟩,fun hi=>by have:=him b hi;omega,by omega,hb2⟩
 · rw[hw,h5 _ (by omega) (hnO _ (by omega))];exact h.loop
 · rw[hw,h5 _ (by omega) (hnO _ (by omega))];exact h.defd
 · rw[hkeep,himm];exact⟨.inl h.k1.1,h.k1.2⟩
 · rw[hkeep,himm];exact⟨.inl h.k2.1,h.k2.2⟩
theorem Lo.turn {S S':MS} {rec:LoopState→Option Code→Loop} {st:LoopState} {pe:Option Code} {O:Nat→Prop} {H':Ac} (hS:∀ b,S.im b∨S.keep b→b<S.w.heap.size) (h:Lo S rec (S.w.heap.size+2) st pe O S' H') (st':LoopState) (pe':Option Code) :
   ∃ S'':MS,S''.w=S'.w.putObj (S.w.heap.size+1) (.loop (rec st' pe'))∧Lo S rec (S.w.heap.size+2) st' pe' O S'' H'∧Evi S' S''∧S''.n=S'.n∧S''.base=S'.base∧S''.keep=S'.keep∧S''.im=S'.im:=by
 obtain⟨S'',hd⟩:∃ S'':MS,S''={ S' with w:=S'.w.putObj (S.w.heap.size+1) (.loop (rec st' pe')) }:=⟨_,rfl⟩;have hne:∀ b,S'.im b→b≠S.w.heap.size+1:=fun b hb hh=>h.k2.2 (hh ▸ hb);have hsz:=h.size;have hw:S''.w=S'.w.putObj (S.w.heap.size+1) (.loop (rec st' pe')):=by rw[hd]
 refine⟨S'',hw,⟨?_,?_,fun b hb=>?_,by rw[hw,World.putObj_size];exact hsz,?_,?_,?_,?_⟩,?_,by rw[hd],by rw[hd],by rw[hd],by rw[hd]⟩
 · have e:=h.evo
   subst hd;refine⟨e.base,e.os,e.tape,e.output,by show _≤(World.putObj _ _ _).heap.size;rw[World.putObj_size];exact e.size,fun b hb=>?_,e.im,e.keep,e.fresh,e.n,e.cur,e.same⟩;show (World.putObj _ _ _).heap[b]? = _;rw[World.putObj_heap_other (by have:=hS b hb;omega)];exact e.kept b hb
 · subst hd
   refine h.rel.turn (fun b hb=>World.putObj_heap_other (hne b hb)) rfl rfl rfl rfl rfl rfl (fun _ h=>h) (fun b hb _=>World.putObj_heap_other fun hh=>hb (.inr (hh ▸ h.k2.1))) (by show _≤(World.putObj _ _ _).heap.size;rw[World.putObj_size];exact Nat.le_refl _)
 · obtain⟨q1,q2,q3,q4⟩:=h.own b hb
   rw[hd];exact⟨q1,q2,q3,by show _<(World.putObj _ _ _).heap.size;rw[World.putObj_size];exact q4⟩
 · rw[hw];exact World.putObj_heap_same (by omega)
 · rw[hw,World.putObj_heap_other (by omega)];exact h.defd
 · rw[hd];exact h.k1
 · rw[hd];exact h.k2
 · subst hd
   exact Evi.of (fun b hb=>World.putObj_heap_other (hne b hb)) rfl rfl rfl rfl rfl rfl
theorem Lo.on {S S' S2:MS} {rec:LoopState→Option Code→Loop} {W1:Nat} {st:LoopState} {pe:Option Code} {O:Nat→Prop} {H' H2:Ac} (h:Lo S rec W1 st pe O S' H') (e:BEvo S.n S' S2) (hr:SRel S2 H2):Lo S rec W1 st pe O S2 H2∧∀ b,O b→S2.w.heap[b]? = S'.w.heap[b]? := by
 have hk:∀ b,S'.keep b→¬S'.im b→S2.keep b∧¬S2.im b∧S2.w.heap[b]? = S'.w.heap[b]? := fun b h1 h2=>⟨e.keep b h1,fun hi=>(e.fresh b hi).elim h2 (fun hh=>hh h1),e.kept b (.inr h1)⟩;refine⟨⟨((h.evo.down (Nat.le_refl _)).trans e).up,hr,fun b hb=>?_,Nat.le_trans h.size e.size,?_,?_,?_,?_⟩,fun b hb=>?_⟩
 · obtain⟨q1,q2,q3,q4⟩:=h.own b hb
   obtain⟨r1,r2,_⟩:=hk b q1 q2;exact⟨r1,r2,q3,Nat.lt_of_lt_of_le q4 e.size⟩
 · rw[(hk _ h.k2.1 h.k2.2).2.2];exact h.loop
 · rw[(hk _ h.k1.1 h.k1.2).2.2];exact h.defd
 · obtain⟨r1,r2,_⟩:=hk _ h.k1.1 h.k1.2;exact⟨r1,r2⟩
 · obtain⟨r1,r2,_⟩:=hk _ h.k2.1 h.k2.2;exact⟨r1,r2⟩
 · obtain⟨q1,q2,_,_⟩:=h.own b hb
   exact (hk b q1 q2).2.2
theorem T_rng {f:AArg} {ps:List Nat} {asg body:AC} {gf:Nat} {caps:List AV} (hf:f.eval env=.fn gf caps) (hpure:Ap caps=true) (hfr1:asg.free=true) (hfr2:body.free=true) {rows:List (List AV)} (hit:Zy P gf caps rows) (hfl:∀ r∈rows,∀ x∈r,Flat x)
   (hps:∀ r∈rows,r.length=ps.length) (hpn:∀ p∈ps,p<n) (Inv:Nat→Ac→Prop) (Qx:Ex→Ac→Prop) (h0:Inv 0 H) (hn:∀ k H',Inv k H'→H'.n=H.n) (hnx:∀ x H',Qx x H'→H'.n=H.n)
   (round:∀ k row H1,rows[k]? = some row→Inv k H1→T P n H.n asg (setL env ps row) H1 (fun x env1 H2=>x=.normal∧T P n H.n body env1 H2 (fun x _ H3=>(x=.normal∧Inv (k+1) H3)∨(x≠.normal∧Qx x H3))))
   (done:∀ H1,Inv rows.length H1→Q .normal env H1) (out:∀ x H1,Qx x H1→Q x env H1):T P n b (.rng f ps asg body) env H Q:=T_of fun rd mm hrd code hc hs S a hb hS hF=>by
 obtain rfl:rd=none:=by
   rcases hrd with h|h
   · cases h
   · exact h
 cases code<;>simp only[Cv,reduceCtorEq,Option.some.injEq] at hc
 case rangeFunc g pps asgc bodyc =>
   split at hc
   · rename_i z x y hz hx hy
     cases hc;have hSim:=hS.im;have hv:=Ry hF hz;rw[hf] at hv;obtain⟨lb,hgv,hlb⟩:=hv;obtain⟨hent,hit⟩:=hit;have hFn:S.n=H.n:=hS.n;refine wpIn_rangeFunc (F:=fen none) fun fn _=>?_;obtain⟨rec,hrec⟩:∃ rec:LoopState→Option Code→Loop,rec=fun st pe=>{ state:=st,pending:=pe,fn,tmps:=a.tmps,params:=pps,assign:=asgc,body:=bodyc,defers:=S.w.heap.size }:=⟨_,rfl⟩;obtain⟨W1,hW1⟩:∃ W1,(S.w.alloc (.deferred (some []))).alloc (.loop (rec .ready none))=W1:=⟨_,rfl⟩;have hW1s:W1.heap.size=S.w.heap.size+2:=by rw[←hW1,size_alloc,size_alloc]
     have hW1o:∀ b,b<S.w.heap.size→W1.heap[b]? = S.w.heap[b]? := fun b hb=>by
       rw[←hW1,heap_alloc_lt _ _ _ (by rw[size_alloc];omega),heap_alloc_lt _ _ _ hb]
     have hL1:W1.heap[S.w.heap.size+1]? = some (.loop (rec .ready none)):=by
       rw[←hW1];have:=heap_alloc_new (S.w.alloc (.deferred (some []))) (.loop (rec .ready none));rwa [size_alloc] at this
     have hK1:W1.heap[S.w.heap.size]? = some (.deferred (some [])):=by
       rw[←hW1,heap_alloc_lt _ _ _ (by rw[size_alloc];omega)];exact heap_alloc_new _ _
     -- the state at the loop's beginning
     obtain⟨S1,hS1d⟩:∃ S1:MS,S1={ S with w:=W1,keep:=fun b=>S.keep b∨b=S.w.heap.size∨b=S.w.heap.size+1 }:=⟨_,rfl⟩;have hw1:S1.w=W1:=by rw[hS1d]
     have hlo:Lo S rec (S.w.heap.size+2) .ready none (fun _=>False) S1 H:=by
       refine⟨?_,?_,fun b hb=>hb.elim,by rw[hw1,hW1s];exact Nat.le_refl _,by rw[hw1];exact hL1,by rw[hw1];exact hK1,?_,?_⟩
       · subst hS1d hW1
         exact⟨rfl,rfl,rfl,rfl,by rw[hW1s];omega,fun b hb=>hW1o b (hSim b hb),fun _ h=>h,fun _ h=>.inl h,fun _ h=>.inl h,Nat.le_refl _,fun _ _=>Nat.le_refl _,fun _ _ _=>⟨rfl,rfl,rfl⟩⟩
       · subst hS1d
         exact hS.turn2 (fun b hb=>hW1o b (hSim b (.inl hb))) rfl rfl rfl rfl rfl rfl (fun b hb=>hb.imp id (fun h=>by omega)) (fun b hb=>by
           show b<W1.heap.size;rw[hW1s];rcases hb with hb|hb
           · have:=hSim b (.inr hb);omega
           · omega) (fun b _ hl=>hW1o b hl) (by show _≤W1.heap.size;rw[hW1s];omega)
       · rw[hS1d];exact⟨.inr (.inl rfl),fun hi=>by have:=hSim _ (.inl hi);omega⟩
       · rw[hS1d];exact⟨.inr (.inr rfl),fun hi=>by have:=hSim _ (.inl hi);omega⟩
     obtain⟨Sit,hSid⟩:∃ Sit:MS,Sit={ S1 with n:=0,keep:=fun _=>False }:=⟨_,rfl⟩
     have hSit:SRel Sit Ac.nil:=by
       subst hSid;exact⟨rfl,fun g hg=>absurd hg (Nat.not_lt_zero _),fun g _ hg=>absurd hg (Nat.not_lt_zero _),fun b hb=>hlo.rel.im b (hb.imp id False.elim)⟩
     have hlb':Ad Sit caps lb:=by
       have:=Ad.mono hlo.evo _ hlb;subst hSid;exact Ad.of_pure (S:=S1) (S':={ S1 with n:=0,keep:=fun _=>False }) rfl (fun _ h=>h) hpure this
     have hwit:Sit.w=W1:=by rw[hSid];exact hw1
     have himit:Sit.im=S.im:=by rw[hSid,hS1d]
     refine⟨S.w.heap.size+1,[mark S.w.heap.size],W1,{ target:=.fn (.func gf) lb.toArray,args:=#[.func (.yield (S.w.heap.size+1)) #[] #[]] },W1,gf,#[.func (.yield (S.w.heap.size+1)) #[] #[]]++lb.toArray,W1,?_,?_,fun _ _=>trivial,?_,fun h=>(by cases h),?_⟩
     · rw[←hW1,hrec];exact run_enterLoop_outer _ _ _ _ _
     · simp only[rangeCall,resolve,hgv]
       simp[go_sem,Act.eval]
     · simpa [invoke,go_sem] using hent (Value.func (.yield (S.w.heap.size+1)) #[] #[]::lb).toArray W1
     -- the iterator
     have hcall:=hit (mm+1) (S.w.heap.size+1) Sit lb
       (fun k O W=>∃ S' H',S'.w=W∧Lo S rec (S.w.heap.size+2) .ready none O S' H'∧Inv k H')
       (fun k O W=>∃ x S' H',S'.w=W∧Lo S rec (S.w.heap.size+2) .done (some (codeOf x)) O S' H'∧x≠.normal∧Qx x H')
       hSit hlb'
       (fun k O W W' ⟨S',H',hw,hl,hi⟩ h1 h2 h3 h4 h5=>by
         subst hw;obtain⟨S'',hw',hl'⟩:=hl.clo hSim h1 h2 h3 h4 h5
         exact⟨S'',H',hw',hl',hi⟩)
       (fun k O W W' ⟨x,S',H',hw,hl,hi⟩ h1 h2 h3 h4 h5=>by
         subst hw;obtain⟨S'',hw',hl'⟩:=hl.clo hSim h1 h2 h3 h4 h5
         exact⟨x,S'',H',hw',hl',hi⟩)
       ⟨S1,H,by rw[hwit,hw1],hlo,h0⟩
       (fun k O W hJ=>by
         have hW1e:W1.os=S.w.os∧W1.tape=S.w.tape∧W1.output=S.w.output:=by rw[←hW1];exact⟨rfl,rfl,rfl⟩
         have key:∀ {st:LoopState} {pe:Option Code} {S':MS} {H':Ac},Lo S rec (S.w.heap.size+2) st pe O S' H'→(∀ b,Sit.im b→¬O b∧S'.w.heap[b]? = Sit.w.heap[b]?)∧(S'.w.os=Sit.w.os∧S'.w.tape=Sit.w.tape∧S'.w.output=Sit.w.output)∧Sit.w.heap.size≤S'.w.heap.size∧∀ b,O b→Sit.w.heap.size≤b∧b<S'.w.heap.size:=fun hl=>by
           refine⟨fun b hb=>?_,by rw[hwit,hW1e.1,hW1e.2.1,hW1e.2.2];exact⟨hl.evo.os,hl.evo.tape,hl.evo.output⟩,by rw[hwit,hW1s];exact hl.size,fun b hb=>?_⟩
           · rw[himit] at hb
             refine⟨fun ho=>by have:=(hl.own b ho).2.2.1;have:=hSim b (.inl hb);omega,?_⟩;rw[hwit,hW1o b (hSim b (.inl hb))];exact hl.evo.kept b (.inl hb)
           · obtain⟨_,_,q3,q4⟩:=hl.own b hb
             rw[hwit,hW1s];exact⟨q3,q4⟩
         rcases hJ with⟨S',H',hw,hl,_⟩|⟨x,S',H',hw,hl,_,_⟩
         · subst hw;exact key hl
         · subst hw;exact key hl)
       (fun k row O W hrow ⟨S',H',hw,hl,hi⟩=>by
         subst hw
         have hlen:(encI row).size=(rec .ready none).params.size:=by
           rw[hrec];have:=hps row (List.mem_of_getElem? hrow);simp[this]
         refine⟨_,_,_,_,run_yield hl.loop hlen,?_⟩;have hrf:rec .ready none={ state:=.ready,pending:=none,fn,tmps:=a.tmps,params:=pps,assign:=asgc,body:=bodyc,defers:=S.w.heap.size }:=by rw[hrec]
         rw[hrf];refine roundIn_of_wpIn (F:=Fence.wide) trivial ?_;have hF':FRel S' n env a:=hF.mono hl.evo;have hFr:=Zz (n:=n) (Marks.nil hF'.defers.1) (ps:=pps.toList) (row:=row) (env:=env) (tmps:=a.tmps) (ds':=a.defers) hF' hpn (hfl row (List.mem_of_getElem? hrow));have hTa':=(round k row H' hrow hi) (some (S.w.heap.size+1)) (mm+1) (.inl hfr1) asgc hx S' _ (by rw[hl.rel.n,hn k H' hi];exact Nat.le_refl _) hl.rel hFr
         have hzip:(pps.zip (encI row)).foldl (fun t (p,v)=>t.setIfInBounds p v) a.tmps=(pps.toList.zip (row.map valOf)).foldl (fun t (p,v)=>t.setIfInBounds p v) a.tmps:=by
           rw[←Array.foldl_toList];simp
         rw[hzip];refine wpIn_mono hTa' fun e a1 w1 hh=>?_;obtain⟨S2,env1,H2,x1,rfl,e2,hS2,hF2,rfl,rfl,hbody⟩:=hh;have hn':H'.n=H.n:=hn k H' hi;have hsz2:=hl.size;obtain⟨hl2,ho2⟩:=hl.on (by rw[hFn];exact e2) hS2;obtain⟨S3,hw3,hl3,ev3,hn3,hb3,hk3,hi3⟩:=hl2.turn hSim .busy none;have hbr:=run_beginRound (P:=P) hl2.loop (by rw[hrec]);have hrb:({ rec .ready none with state:=.busy }:Loop)=rec .busy none:=by rw[hrec]
         rw[hrb] at hbr;refine⟨_,hbr,?_⟩;rw[←hw3]
         have hMs:Marks S3 a1.defers:=by
           obtain⟨q0,Ds,q1,q2,q3⟩:=hF2.defers;refine⟨by rw[hb3,hw3,World.putObj_size];exact q0,Ds,q1,q2,fun D hD=>?_⟩;obtain⟨r1,r2,r3,r4⟩:=q3 D hD;refine⟨by rw[hb3];exact r1,by rw[hk3];exact r2,by rw[hi3];exact r3,?_⟩;rw[hw3,World.putObj_heap_other,r4];intro hDl;rw[hDl,hl2.loop] at r4;cases r4
         have hF3:FRel S3 n env1 a1:=⟨hF2.size,hMs,fun i hi=>VRel.moni ev3 _ (hF2.val i hi)⟩;have hTb:=hbody (some (S.w.heap.size+1)) (mm+1) (.inl hfr2) bodyc hy S3 a1 (by rw[←hFn];exact hl3.evo.n) hl3.rel hF3;refine wpIn_mono hTb fun e a4 w4 hh=>?_;obtain⟨S4,env4,H4,x4,rfl,e4,hS4,hF4,rfl,hx4⟩:=hh;obtain⟨hl4,ho4⟩:=hl3.on (by rw[hFn];exact e4) hS4
         have hob:∀ b,O b→S4.w.heap[b]? = S'.w.heap[b]? := fun b hb=>by
           have hne:b≠S.w.heap.size+1:=by have:=(hl.own b hb).2.2.1;omega
           rw[ho4 b hb,hw3,World.putObj_heap_other hne,ho2 b hb]
         have hput:∀ (o:Obj) b,O b→(S4.w.putObj (S.w.heap.size+1) o).heap[b]? = S'.w.heap[b]? := fun o b hb=>by
           have hne:b≠S.w.heap.size+1:=by have:=(hl.own b hb).2.2.1;omega
           rw[World.putObj_heap_other hne,hob b hb]
         have hend:=fun j=>run_endRound (P:=P) j hl4.loop
         have hgrow:∀ o:Obj,S'.w.heap.size≤(S4.w.putObj (S.w.heap.size+1) o).heap.size:=fun o=>by
           have g1:=e2.size;have g2:=e4.size;rw[hw3,World.putObj_size] at g2;rw[World.putObj_size];omega
         have hr1:({ rec .busy none with state:=.ready,pending:=none }:Loop)=rec .ready none:=by rw[hrec]
         have hr2:∀ c,({ rec .busy none with state:=.done,pending:=some c }:Loop)=rec .done (some c):=fun c=>by rw[hrec]
         rcases hx4 with⟨rfl,hinv⟩|⟨hxn,hqx⟩
         · obtain⟨S5,hw5,hl5,_⟩:=hl4.turn hSim .ready none
           have:=hend none;simp only[Option.isNone_none,if_true,hr1] at this;exact⟨_,_,this,hgrow _,hput _,.inl ⟨rfl,S5,H4,hw5,hl5,hinv⟩⟩
         · obtain⟨S5,hw5,hl5,_⟩:=hl4.turn hSim .done (some (codeOf x4))
           have:=hend (some (codeOf x4));simp only[Option.isNone_some,Bool.false_eq_true,if_false,hr2] at this;cases x4 with
           | normal=>exact absurd rfl hxn
           | exit id=>exact⟨_,_,this,hgrow _,hput _,.inr ⟨rfl,.exit id,S5,H4,hw5,hl5,hxn,hqx⟩⟩
           | ret=>exact⟨_,_,this,hgrow _,hput _,.inr ⟨rfl,.ret,S5,H4,hw5,hl5,hxn,hqx⟩⟩)
     rw[hwit] at hcall
     have hmk:∀ (S':MS) (H':Ac),Evo S S'→SRel S' H'→S'.keep S.w.heap.size∧¬S'.im S.w.heap.size→S'.w.heap[S.w.heap.size]? = some (.deferred (some []))→FRel S' n env { a with defers:=[mark S.w.heap.size]++a.defers }:=fun S' H' ev _ hk hd=>by
       have hF':=hF.mono ev;refine⟨hF'.size,?_,hF'.val⟩;obtain⟨q0,Ds,q1,q2,q3⟩:=hF'.defers;obtain⟨_,Ds',p1,_,p3⟩:=hF.defers
       have hDs:Ds'=Ds:=by
         rw[q1] at p1
         have hinj:∀ {l l':List Nat},l.map mark=l'.map mark→l=l':=by
           intro l
           induction l with
           | nil=>intro l' h;cases l' with
             | nil=>rfl
             | cons=>simp at h
           | cons x l ih=>intro l' h;cases l' with
             | nil=>simp at h
             | cons y l' =>
               simp only[List.map_cons,List.cons.injEq,mark,Deferred.mk.injEq,and_true,Target.collected.injEq] at h;rw[h.1,ih h.2]
         exact (hinj p1).symm
       subst hDs;refine⟨q0,S.w.heap.size::Ds',by rw[q1];rfl,List.nodup_cons.2 ⟨fun hm=>by have:=hSim _ (.inr (p3 _ hm).2.1);omega,q2⟩,fun D hD=>?_⟩;rcases List.mem_cons.1 hD with rfl|hD
       · exact⟨by rw[ev.base];exact hF.defers.1,hk.1,hk.2,hd⟩
       · exact q3 D hD
     refine CallsIn.mono (callsIn_wide.2 (callsIn_wide.1 hcall)) fun e w3 hh=>?_;obtain⟨⟨v,rfl⟩,hh⟩:=hh;rcases hh with⟨O,S',H',rfl,hl,hinv⟩|⟨k,O,x,S',H',rfl,hl,hxn,hqx⟩
     · obtain⟨S5,hw5,hl5,_⟩:=hl.turn hSim .exhausted none
       have:=run_endLoop (P:=P) hl.loop (by rw[hrec];intro hh;cases hh);have hr1:({ rec .ready none with state:=.exhausted }:Loop)=rec .exhausted none:=by rw[hrec]
       rw[hr1] at this;have hpn':(rec .ready none).pending=none:=by rw[hrec]
       rw[hpn'] at this;exact⟨_,_,this,S5,env,H',.normal,hw5,hl5.evo.down hb,hl5.rel,hmk S5 H' hl5.evo hl5.rel hl5.k1 hl5.defd,rfl,done H' hinv⟩
     · obtain⟨S5,hw5,hl5,_⟩:=hl.turn hSim .exhausted (some (codeOf x))
       have:=run_endLoop (P:=P) hl.loop (by rw[hrec];intro hh;cases hh);have hr1:({ rec .done (some (codeOf x)) with state:=.exhausted }:Loop)=rec .exhausted (some (codeOf x)):=by rw[hrec]
       rw[hr1] at this;have hpn':(rec .done (some (codeOf x))).pending=some (codeOf x):=by rw[hrec]
       rw[hpn'] at this;refine⟨_,_,this,?_⟩
       have hAft:After S n b Q (Ex.up x) { a with defers:=[mark S.w.heap.size]++a.defers } (S'.w.putObj (S.w.heap.size+1) (.loop (rec .exhausted (some (codeOf x))))) :=
         ⟨S5,env,H',x,hw5,hl5.evo.down hb,hl5.rel,hmk S5 H' hl5.evo hl5.rel hl5.k1 hl5.defd,rfl,out x H' hqx⟩
       cases x with
       | normal=>exact absurd rfl hxn
       | exit id=>exact wpIn_exit hAft
       | ret=>exact wpIn_ret hAft
   · cases hc
 case region=>exact absurd hc B9
 case seq=>split at hc<;>cases hc
 case cond=>split at hc<;>cases hc
 case block=>obtain⟨_,_,h⟩:=Option.map_eq_some_iff.1 hc;cases h
 case loop=>obtain⟨_,_,h⟩:=Option.map_eq_some_iff.1 hc;cases h
 case scope d=>exact absurd rfl (hs d)
end
section
variable {P:Program} {n b:Nat} {env:Env} {H:Ac} {Q:Ex→Env→Ac→Prop}
theorem Z0 {a:Act}:∀ (ws:List Nat) {S:MS} {l:List Grp},(∀ w∈ws,0<w)→SRel S (hl l)→FRel S n env a→∃ S',S'.w=S.w∧Evo S S'∧SRel S' (hl (l++ws.map Hb))∧FRel S' n env a
 | [],S,l,_,hS,hF=>⟨S,rfl,.refl S,by simpa using hS,hF⟩
 | w::ws,S,l,hw,hS,hF=>by
   have h1:=hS.virt w (hw w (by simp));rw[Dj] at h1;obtain⟨S',e1,e2,e3,e4⟩:=Z0 ws (S:=S.virt w) (l:=l++[Hb w]) (fun w' h'=>hw w' (by simp[h'])) h1 ⟨hF.size,hF.defers.mono (Evo.virt _),fun j hj=>VRel.mono (Evo.virt _) _ (hF.val j hj)⟩;exact⟨S',e1,(Evo.virt _).trans e2,by simpa using e3,e4⟩
theorem zct {srcs:List Src} {live:List (Nat × AV)} {heap:List Grp} {S:MS} {a:Act} (hh:Head b env H srcs live heap) (hbS:b≤S.n) (hS:SRel S H) (hF:FRel S n env a) :
   ∃ S',S'.w=S.w∧BEvo b S S'∧SRel S' (hl heap)∧FRel S' n (C2 live) a:=by
 obtain⟨hb,hh⟩:=hh;have hgn:H.groups.length=H.n:=by simp[Ac.groups]
 have hS1:SRel S (hl H.groups):=hS.congr hgn (fun g hg=>by
   show H.groups.getD g default=_
   simp[Ac.groups,List.getD,hg])
 obtain⟨S2,e1,e2,e3,e4⟩:=Z0 (D6 H.n srcs).2 (Il hh.1) hS1 hF;replace hh:=hh.2;generalize hl1:H.groups++(D6 H.n srcs).2.map Hb=l1 at *;obtain⟨h1,h2,h3,h4⟩:=hh;have hb1:b≤l1.length:=by rw[←hl1,List.length_append];omega
 have hbS2:b≤S2.n:=Nat.le_trans hbS e2.n;obtain⟨k1,k2⟩:=Nb (ks:=(D6 H.n srcs).1) hb1;have hev:=Ii (ks:=(D6 H.n srcs).1) e3 hbS2;have hrel:=(Kt (ks:=(D6 H.n srcs).1) 6 e3 hb1 (fun k hk=>Ms h1 k hk) (Gn h2)).congr k1 k2;have hF3:FRel (S2.repack b (hl l1) (D6 H.n srcs).1) n (fun i=>rnV b (hl l1) (D6 H.n srcs).1 6 (env i)) a:=⟨e4.size,e4.defers.of hev.base hev.size hev.keep hev.fresh (fun b hb=>hev.kept b (.inr hb)),fun j hj=>z3m e3 6 (e4.val j hj)⟩;exact⟨S2.repack b (hl l1) (D6 H.n srcs).1,e1,(e2.down hbS).trans hev,Ik hrel h4,⟨hF3.size,hF3.defers,Nc hrel hF3 h3⟩⟩
theorem zmz {c:AC} {Q':Ex→Env→Ac→Prop} (h:T P n b c env H Q') (hq:∀ x env' H',Q' x env' H'→∃ srcs live heap,Head b env' H' srcs live heap∧Q x (C2 live) (hl heap)):T P n b c env H Q :=
 fun rd mm hrd code hc S a hb hS hF=>wpIn_mono (h rd mm hrd code hc S a hb hS hF) fun e a w hh=>by
   obtain⟨S',env',H',x,e1,e2,e3,e4,e5,e6⟩:=hh;obtain⟨srcs,live,heap,k1,k2⟩:=hq _ _ _ e6;obtain⟨S2,q1,q2,q3,q4⟩:=zct k1 e2.n e3 e4;exact⟨S2,_,_,x,q1.trans e1,e2.trans q2,q3,q4,e5,k2⟩
theorem z7z {σ:Type} (Fact:Nat→σ→Prop) (live:List (Nat × AV)) (heap:σ→List Grp) (srcs:List Src) (N:Nat) {f:AArg} {ps:List Nat} {asg body:AC} {gf:Nat} {caps:List AV} {rows:List (List AV)} (s0:σ)
   (hit:Zy P gf caps rows) (he:Head b env H srcs live (heap s0)) (hN:∀ s,(heap s).length=N) (hf:f.eval (C2 live)=.fn gf caps) (hpure:Ap caps=true) (hfr1:asg.free=true) (hfr2:body.free=true)
   (hfl:∀ r∈rows,∀ x∈r,Flat x) (hps:∀ r∈rows,r.length=ps.length) (hpn:∀ p∈ps,p<n) (h0:Fact 0 s0)
   (round:∀ k row s,rows[k]? = some row→Fact k s→T P n N asg (setL (C2 live) ps row) (hl (heap s)) (fun x env1 H2=>x=.normal∧T P n N body env1 H2 (Ex.then (fun env3 H3=>∃ s',Head N env3 H3 [] [] (heap s')∧Fact (k+1) s') (fun _ _ _=>False))))
   (done:∀ s,Fact rows.length s→Q .normal (C2 live) (hl (heap s))):T P n b (.rng f ps asg body) env H Q:=by
 refine Zu he ?_;refine T_rng hf hpure hfr1 hfr2 hit hfl hps hpn (fun k H'=>∃ s,H'=hl (heap s)∧Fact k s) (fun _ _=>False) ⟨s0,rfl,h0⟩ (fun k H' hh=>?_) (fun _ _ hh=>hh.elim) (fun k row H1 hrow hh=>?_) (fun H1 hh=>?_) (fun _ _ hh=>hh.elim)
 · obtain⟨s,rfl,_⟩:=hh
   show (heap s).length=(heap s0).length;rw[hN,hN]
 · obtain⟨s,rfl,hs⟩:=hh
   have hn0:(hl (heap s0)).n=N:=hN s0;rw[hn0];refine T.mono (round k row s hrow hs) fun x env1 H2 hh=>⟨hh.1,?_⟩;refine zmz hh.2 fun x env3 H3 hq=>?_;cases x with
   | normal =>
     obtain⟨s',q1,q2⟩:=hq;exact⟨[],[],heap s',q1,.inl ⟨rfl,s',rfl,q2⟩⟩
   | exit id=>exact hq.elim
   | ret=>exact hq.elim
 · obtain⟨s,rfl,hs⟩:=hh
   exact done s hs
theorem Xt {f:AArg} {ps:List Nat} {asg body:AC} (h:T P n b (.rng f ps asg body) env H Q):@I3 ⟨T P n b (.rng f ps asg body) env H Q⟩:=h
end
mutual
def ren (σ:Nat→Nat):AV→AV
 | .any=>.any
 | .bool b=>.bool b
 | .int k n=>.int k n
 | .str s=>.str s
 | .nilS=>.nilS
 | .nul=>.nul
 | .emp=>.emp
 | .lst w xs=>.lst w xs
 | .full w xs=>.full w xs
 | .map g v=>.map (σ g) v
 | .ref g v o n=>.ref (σ g) v o n
 | .cptr x=>.cptr x
 | .ptr g v i o=>.ptr (σ g) v i o
 | .nilP=>.nilP
 | .agg cs=>.agg (renL σ cs)
 | .tup cs=>.tup (renL σ cs)
 | .fn f cs=>.fn f (renL σ cs)
 | .nilF=>.nilF
 | .yld l=>.yld l
def renL (σ:Nat→Nat):List AV→List AV
 | []=>[]
 | x::xs=>ren σ x::renL σ xs
end
mutual
def ltV (m:Nat):AV→Prop
 | .map g _|.ref g _ _ _|.ptr g _ _ _=>g<m
 | .agg cs|.tup cs|.fn _ cs=>ltL m cs
 | .any|.bool _|.int ..|.str _|.nilS|.nul|.emp|.lst ..|.full ..|.cptr _|.nilP|.nilF|.yld _=>True
def ltL (m:Nat):List AV→Prop
 | []=>True
 | x::xs=>ltV m x∧ltL m xs
end
def renG (σ:Nat→Nat) (G:Grp):Grp:=⟨G.w,G.ver,G.exact,renL σ G.xs⟩
mutual
theorem zfd {A B:MS} {σ:Nat→Nat} (hw:B.w=A.w) (hi:∀ b,A.im b→B.im b) (hg:∀ g,g<A.n→σ g<B.n∧B.cur (σ g)=A.cur g∧B.place (σ g)=A.place g∧B.cap (σ g)=A.cap g∧B.wid (σ g)=A.wid g):∀ (x:AV) {v:Value},VRel A x v→VRel B (ren σ x) v
 | .any,_,_=>trivial
 | .bool _,_,h=>h
 | .int _ _,_,h=>h
 | .str _,_,h=>h
 | .nilS,_,h=>h
 | .nul,_,h=>h
 | .emp,_,h=>h
 | .nilP,_,h=>h
 | .nilF,_,h=>h
 | .yld _,_,h=>h
 | .lst wd xs,v,h=>by
   obtain⟨hp,h0,a,cap,vs,hv,hc,hl,hr⟩:=h;refine⟨hp,h0,a,cap,vs,hv,hc,Ad.of_pure hw hi hp hl,fun hne=>?_⟩;obtain⟨b,o,ha,hb,hrow⟩:=hr hne;exact⟨b,o,ha,hi b hb,by rw[hw];exact hrow⟩
 | .full wd xs,v,h=>by
   obtain⟨hp,h0,a,vs,hv,hc,hl,hr⟩:=h;refine⟨hp,h0,a,vs,hv,hc,Ad.of_pure hw hi hp hl,fun hne=>?_⟩;obtain⟨b,o,ha,hb,hrow⟩:=hr hne;exact⟨b,o,ha,hi b hb,by rw[hw];exact hrow⟩
 | .cptr x,v,h=>by
   obtain⟨hp,b,o,u,hv,hb,hx,hl⟩:=h;exact⟨hp,b,o,u,hv,hi b hb,VRel.of_pure hw hi hp hx,by rw[hw];exact hl⟩
 | .map g vn,v,h=>by
   obtain⟨hs,hgn,hc,hv⟩:=h;obtain⟨k1,k2,k3,k4,k5⟩:=hg g hgn;exact⟨hs,k1,by rw[k2];exact hc,fun h'=>by rw[k3];exact hv (by rw[←k2];exact h')⟩
 | .ref g vn off len,v,h=>by
   obtain⟨hs,hgn,hc,hv⟩:=h;obtain⟨k1,k2,k3,k4,k5⟩:=hg g hgn;exact⟨hs,k1,by rw[k2];exact hc,fun h'=>by rw[k3,k4,k5];exact hv (by rw[←k2];exact h')⟩
 | .ptr g vn i o,v,h=>by
   obtain⟨hs,hgn,hc,hv⟩:=h;obtain⟨k1,k2,k3,k4,k5⟩:=hg g hgn;exact⟨hs,k1,by rw[k2];exact hc,fun h'=>by rw[k3,k5];exact hv (by rw[←k2];exact h')⟩
 | .agg cs,v,h=>by obtain⟨vs,hv,h⟩:=h;exact⟨vs,hv,Kx hw hi hg cs h⟩
 | .tup cs,v,h=>by obtain⟨vs,hv,h⟩:=h;exact⟨vs,hv,Kx hw hi hg cs h⟩
 | .fn f cs,v,h=>by obtain⟨vs,hv,h⟩:=h;exact⟨vs,hv,Kx hw hi hg cs h⟩
theorem Kx {A B:MS} {σ:Nat→Nat} (hw:B.w=A.w) (hi:∀ b,A.im b→B.im b) (hg:∀ g,g<A.n→σ g<B.n∧B.cur (σ g)=A.cur g∧B.place (σ g)=A.place g∧B.cap (σ g)=A.cap g∧B.wid (σ g)=A.wid g):∀ (xs:List AV) {vs:List Value},Ad A xs vs→Ad B (renL σ xs) vs
 | [],_,h=>h
 | x::xs,_,h=>by
   obtain⟨v,r,hv,h1,h2⟩:=h;exact⟨v,r,hv,zfd hw hi hg x h1,Kx hw hi hg xs h2⟩
end
mutual
theorem Z1 {A B:MS} {σ:Nat→Nat} {m:Nat} (hw:A.w=B.w) (hi:∀ b,B.im b→A.im b) (hg:∀ g,g<m→g<A.n∧B.cur (σ g)=A.cur g∧B.place (σ g)=A.place g∧B.cap (σ g)=A.cap g∧B.wid (σ g)=A.wid g):∀ (x:AV) {v:Value},ltV m x→VRel B (ren σ x) v→VRel A x v
 | .any,_,_,_=>trivial
 | .bool _,_,_,h=>h
 | .int _ _,_,_,h=>h
 | .str _,_,_,h=>h
 | .nilS,_,_,h=>h
 | .nul,_,_,h=>h
 | .emp,_,_,h=>h
 | .nilP,_,_,h=>h
 | .nilF,_,_,h=>h
 | .yld _,_,_,h=>h
 | .lst wd xs,v,_,h=>by
   obtain⟨hp,h0,a,cap,vs,hv,hc,hl,hr⟩:=h;refine⟨hp,h0,a,cap,vs,hv,hc,Ad.of_pure hw hi hp hl,fun hne=>?_⟩;obtain⟨b,o,ha,hb,hrow⟩:=hr hne;exact⟨b,o,ha,hi b hb,by rw[hw];exact hrow⟩
 | .full wd xs,v,_,h=>by
   obtain⟨hp,h0,a,vs,hv,hc,hl,hr⟩:=h;refine⟨hp,h0,a,vs,hv,hc,Ad.of_pure hw hi hp hl,fun hne=>?_⟩;obtain⟨b,o,ha,hb,hrow⟩:=hr hne;exact⟨b,o,ha,hi b hb,by rw[hw];exact hrow⟩
 | .cptr x,v,_,h=>by
   obtain⟨hp,b,o,u,hv,hb,hx,hl⟩:=h;exact⟨hp,b,o,u,hv,hi b hb,VRel.of_pure hw hi hp hx,by rw[hw];exact hl⟩
 | .map g vn,v,hm,h=>by
   obtain⟨hs,hgn,hc,hv⟩:=h;obtain⟨k1,k2,k3,k4,k5⟩:=hg g hm;exact⟨hs,k1,by rw[←k2];exact hc,fun h'=>by rw[←k3];exact hv (by rw[k2];exact h')⟩
 | .ref g vn off len,v,hm,h=>by
   obtain⟨hs,hgn,hc,hv⟩:=h;obtain⟨k1,k2,k3,k4,k5⟩:=hg g hm;exact⟨hs,k1,by rw[←k2];exact hc,fun h'=>by rw[←k3,←k4,←k5];exact hv (by rw[k2];exact h')⟩
 | .ptr g vn i o,v,hm,h=>by
   obtain⟨hs,hgn,hc,hv⟩:=h;obtain⟨k1,k2,k3,k4,k5⟩:=hg g hm;exact⟨hs,k1,by rw[←k2];exact hc,fun h'=>by rw[←k3,←k5];exact hv (by rw[k2];exact h')⟩
 | .agg cs,v,hm,h=>by obtain⟨vs,hv,h⟩:=h;exact⟨vs,hv,Er hw hi hg cs hm h⟩
 | .tup cs,v,hm,h=>by obtain⟨vs,hv,h⟩:=h;exact⟨vs,hv,Er hw hi hg cs hm h⟩
 | .fn f cs,v,hm,h=>by obtain⟨vs,hv,h⟩:=h;exact⟨vs,hv,Er hw hi hg cs hm h⟩
theorem Er {A B:MS} {σ:Nat→Nat} {m:Nat} (hw:A.w=B.w) (hi:∀ b,B.im b→A.im b) (hg:∀ g,g<m→g<A.n∧B.cur (σ g)=A.cur g∧B.place (σ g)=A.place g∧B.cap (σ g)=A.cap g∧B.wid (σ g)=A.wid g):∀ (xs:List AV) {vs:List Value},ltL m xs→Ad B (renL σ xs) vs→Ad A xs vs
 | [],_,_,h=>h
 | x::xs,_,hm,h=>by
   obtain⟨v,r,hv,h1,h2⟩:=h;exact⟨v,r,hv,Z1 hw hi hg x hm.1 h1,Er hw hi hg xs hm.2 h2⟩
end
theorem Kc {σ:Nat→Nat}:∀ xs:List AV,(renL σ xs).length=xs.length
 | []=>rfl
 | x::xs=>by simp[renL,Kc xs]
def sg (ks:List Nat) (N i:Nat):Nat:=if i<ks.length then ks.getD i 0 else N+(i-ks.length)
def iv (ks:List Nat) (N g:Nat):Nat:=if g<N then ks.idxOf g else ks.length+(g-N)
def setG:List Nat→List Grp→List Grp→List Grp
 | [],r,l=>l++r
 | _::_,[],l=>l
 | k::ks,G::r,l=>setG ks r (l.set k G)
theorem Z2:∀ {ks:List Nat} {r l:List Grp},ks.length≤r.length→(setG ks r l).length=l.length+(r.length-ks.length)
 | [],r,l,_=>by simp[setG]
 | k::ks,[],l,h=>by simp at h
 | k::ks,G::r,l,h=>by
   rw[setG,Z2 (by simpa using h)];simp
theorem Ky:∀ {ks:List Nat} {r l:List Grp} {g:Nat},g<l.length→g∉ks→(setG ks r l).getD g default=l.getD g default
 | [],r,l,g,hg,_=>by simp[setG,List.getD,List.getElem?_append_left hg]
 | k::ks,[],l,g,_,_=>rfl
 | k::ks,G::r,l,g,hg,hk=>by
   simp only[List.mem_cons,not_or] at hk;rw[setG,Ky (by simpa using hg) hk.2];simp[List.getD,List.getElem?_set_ne (fun h=>hk.1 h.symm)]
theorem z80:∀ {ks:List Nat} {r l:List Grp} {i:Nat},ks.Nodup→(∀ k∈ks,k<l.length)→i<r.length→(setG ks r l).getD (sg ks l.length i) default=r.getD i default
 | [],r,l,i,_,_,hi=>by
   simp only[setG,sg,List.length_nil,Nat.not_lt_zero,if_false,Nat.sub_zero,List.getD];rw[List.getElem?_append_right (by omega),Nat.add_sub_cancel_left]
 | k::ks,[],l,i,_,_,hi=>by simp at hi
 | k::ks,G::r,l,0,hn,hk,_=>by
   rw[List.nodup_cons] at hn;have h1:k<l.length:=hk k (by simp);have e:sg (k::ks) l.length 0=k:=by simp[sg]
   rw[e,setG,Ky (by simpa using h1) hn.1];simp[List.getD,List.getElem?_set_self h1]
 | k::ks,G::r,l,i+1,hn,hk,hi=>by
   rw[List.nodup_cons] at hn;have e:sg (k::ks) l.length (i+1)=sg ks (l.set k G).length i:=by simp[sg]
   rw[e,setG,z80 hn.2 (fun k' h'=>by simpa using hk k' (by simp[h'])) (by simpa using hi)];simp
theorem sg_lt {ks:List Nat} {N i n:Nat} (hk:∀ k∈ks,k<N) (hi:i<n) (hm:ks.length≤n):sg ks N i<N+(n-ks.length):=by
 unfold sg;split
 · rename_i h
   have:ks.getD i 0∈ks:=by rw[List.getD_eq_getElem?_getD,List.getElem?_eq_getElem h];exact List.getElem_mem h
   have:=hk _ this;omega
 · omega
theorem zj5 {ks:List Nat} {N i:Nat} (hn:ks.Nodup) (hk:∀ k∈ks,k<N):iv ks N (sg ks N i)=i:=by
 unfold sg;split
 · rename_i h
   have hmem:ks.getD i 0∈ks:=by rw[List.getD_eq_getElem?_getD,List.getElem?_eq_getElem h];exact List.getElem_mem h
   rw[iv,if_pos (hk _ hmem),List.getD_eq_getElem?_getD,List.getElem?_eq_getElem h];exact hn.idxOf_getElem i h
 · rw[iv,if_neg (by omega)];omega
theorem z81 {ks:List Nat} {N g:Nat} (hg:g∈ks):∃ i,i<ks.length∧sg ks N i=g:=by
 obtain⟨i,hi,he⟩:=List.getElem_of_mem hg;exact⟨i,hi,by rw[sg,if_pos hi,List.getD_eq_getElem?_getD,List.getElem?_eq_getElem hi];exact he⟩
theorem zcu {ks:List Nat} {N g n:Nat} (hm:ks.length≤n) (hg:g<N+(n-ks.length)) (h:¬(g<N∧g∉ks)):∃ i,i<n∧sg ks N i=g:=by
 by_cases hgN:g<N
 · have hmem:g∈ks:=by
     by_cases hh:g∈ks
     · exact hh
     · exact absurd ⟨hgN,hh⟩ h
   obtain⟨i,hi,he⟩:=z81 (N:=N) hmem;exact⟨i,by omega,he⟩
 · exact⟨ks.length+(g-N),by omega,by rw[sg,if_neg (by omega)];omega⟩
theorem L2 {σ:Nat→Nat} {l:List Grp} {i:Nat} (h:i<l.length):(l.map (renG σ)).getD i default=renG σ (l.getD i default):=by
 simp[List.getD,List.getElem?_eq_getElem h]
theorem U9 {P:Program} {f:Nat} {xs0 xs:List AV} {l0 l:List Grp} {K0 K:AV→Ac→Prop} (ks:List Nat) (h:Bj P f xs0 (hl l0) K0) (hxs:renL (sg ks l.length) xs0=xs)
   (hl0:l0.map (renG (sg ks l.length))=ks.map (fun k=>l.getD k default)) (hn:ks.Nodup) (hk:∀ k∈ks,k<l.length) (hlt:ltL ks.length xs0) (hltG:∀ G∈l0,ltL ks.length G.xs)
   (hK:∀ y H',K0 y H'→∃ l',H'=hl l'∧ks.length≤l'.length∧K (ren (sg ks l.length) y) (hl (setG ks (l'.map (renG (sg ks l.length))) l))):Bj P f xs (hl l) K:=by
 refine⟨h.1,fun S cargs hS hx=>?_⟩;have hm:l0.length=ks.length:=by simpa using congrArg List.length hl0
 have hSn:S.n=l.length:=hS.n;have hinj:∀ i j,sg ks l.length i=sg ks l.length j→i=j:=fun i j e=>by rw[←zj5 (i:=i) hn hk,e,zj5 hn hk]
 have hin:∀ i,i<ks.length→sg ks l.length i<l.length∧sg ks l.length i∈ks:=fun i hi=>by
   have e:sg ks l.length i=ks[i]:=by rw[sg,if_pos hi,List.getD_eq_getElem?_getD,List.getElem?_eq_getElem hi];rfl
   rw[e];exact⟨hk _ (List.getElem_mem hi),List.getElem_mem hi⟩
 have hat:∀ i,i<ks.length→l.getD (sg ks l.length i) default=renG (sg ks l.length) (l0.getD i default):=fun i hi=>by
   rw[←L2 (by omega),hl0,sg,if_pos hi];simp[List.getD,List.getElem?_eq_getElem hi]
 have hG:∀ i,i<ks.length→GRel S (renG (sg ks l.length) (l0.getD i default)) (sg ks l.length i):=fun i hi=>by
   have:=hS.grp (sg ks l.length i) (hin i hi).1
   rwa [Cg,hat i hi] at this
 obtain⟨O,hO⟩:∃ O:Nat→Prop,∀ b,O b↔∃ g,g<l.length∧g∉ks∧(l.getD g default).has (S.cap g)∧S.place g=b:=⟨_,fun _=>Iff.rfl⟩
 have hOfree:∀ b,O b→¬(S.im b∨S.keep b):=fun b hb=>by
   obtain⟨g,h1,h2,h3,rfl⟩:=(hO b).1 hb;exact (hS.grp g h1).has_ni (by rw[Cg];exact h3)
 obtain⟨S0,hS0d⟩:∃ S0:MS,S0={ S with keep:=fun b=>S.keep b∨O b,n:=ks.length,place:=fun i=>S.place (sg ks l.length i),cur:=fun i=>S.cur (sg ks l.length i),cap:=fun i=>S.cap (sg ks l.length i),wid:=fun i=>S.wid (sg ks l.length i) }:=⟨_,rfl⟩
 have hdn:∀ g,g<ks.length→g<S0.n∧S.cur (sg ks l.length g)=S0.cur g∧S.place (sg ks l.length g)=S0.place g∧S.cap (sg ks l.length g)=S0.cap g∧S.wid (sg ks l.length g)=S0.wid g:=fun g hg=>by
   subst hS0d;exact⟨hg,rfl,rfl,rfl,rfl⟩
 have hw0:S0.w=S.w:=by subst hS0d;rfl
 have hi0:∀ b,S.im b→S0.im b:=fun b hb=>by subst hS0d;exact hb
 have hrel0:SRel S0 (hl l0):=by
   refine⟨by subst hS0d;exact hm.symm,fun i hi=>?_,fun i j hi hj hne h1 h2=>?_,fun b hb=>?_⟩
   · have hi':i<ks.length:=by rw[←hm];exact hi
     have hg:=hG i hi';have hmem:l0.getD i default∈l0:=by rw[List.getD_eq_getElem?_getD,List.getElem?_eq_getElem (show i<l0.length from hi)];exact List.getElem_mem _
     have hlg:=hltG _ hmem;rw[Cg]
     have hnO:(l0.getD i default).has (S.cap (sg ks l.length i))→¬O (S.place (sg ks l.length i)):=fun hh ho=>by
       obtain⟨g,a1,a2,a3,a4⟩:=(hO _).1 ho;exact hS.apart g (sg ks l.length i) a1 (hin i hi').1 (fun e=>a2 (e ▸ (hin i hi').2)) (by rw[Cg];exact a3) (by rw[Cg,hat i hi'];exact hh) a4
     refine⟨by subst hS0d;exact hg.ver,by subst hS0d;exact hg.wid,fun hw hc=>?_,fun hw=>by have:=hg.len hw;subst hS0d;simpa [renG,Kc] using this,fun hw he=>by have:=hg.full hw he;subst hS0d;simpa [renG,Kc] using this,fun hw he=>?_⟩
     · have hc':0<S.cap (sg ks l.length i):=by subst hS0d;exact hc
       obtain⟨⟨cells,T,vs,b1,b2,b3,b4⟩,ni⟩:=hg.live hw hc';refine⟨⟨cells,T,vs,by subst hS0d;exact b1,by subst hS0d;exact b2,Er hw0 hi0 hdn _ hlg b3,b4⟩,fun hh=>?_⟩;have hno:=hnO (.inl ⟨hw,hc'⟩);subst hS0d;exact hh.elim (fun hh=>ni (.inl hh)) (fun hh=>hh.elim (fun hh=>ni (.inr hh)) hno)
     · obtain⟨⟨es,clock,b1,b2⟩,ni⟩:=hg.mlive hw he
       refine⟨⟨es,clock,by subst hS0d;exact b1,Er hw0 hi0 hdn _ hlg b2⟩,fun hh=>?_⟩;have hno:=hnO (.inr ⟨hw,he⟩);subst hS0d;exact hh.elim (fun hh=>ni (.inl hh)) (fun hh=>hh.elim (fun hh=>ni (.inr hh)) hno)
   · have hi':i<ks.length:=by rw[←hm];exact hi
     have hj':j<ks.length:=by rw[←hm];exact hj
     rw[Cg] at h1 h2;have:=hS.apart (sg ks l.length i) (sg ks l.length j) (hin i hi').1 (hin j hj').1 (fun e=>hne (hinj _ _ e)) (by rw[Cg,hat i hi'];subst hS0d;exact h1) (by rw[Cg,hat j hj'];subst hS0d;exact h2);subst hS0d;exact this
   · subst hS0d
     rcases hb with hb|hb|hb
     · exact hS.im b (.inl hb)
     · exact hS.im b (.inr hb)
     · obtain⟨g,a1,a2,a3,rfl⟩:=(hO _).1 hb
       exact (hS.grp g a1).has_lt (by rw[Cg];exact a3)
 have hx0:Ad S0 xs0 cargs:=Er hw0 hi0 hdn xs0 hlt (by rw[hxs];exact hx);have hsz:S0.w.heap=S.w.heap:=by rw[hw0]
 have hcall:=h.2 S0 cargs hrel0 hx0;rw[hw0] at hcall;refine hcall.mono fun e w' hh=>?_;obtain⟨v,S1,y,H',he,hw1,ev,hS1,hv,hk0⟩:=hh;obtain⟨l',rfl,hml,hK'⟩:=hK y H' hk0;have hn1:S1.n=l'.length:=hS1.n
 have hnot:∀ i,¬(sg ks l.length i<l.length∧sg ks l.length i∉ks):=fun i hh=>by
   by_cases hi:i<ks.length
   · exact hh.2 (hin i hi).2
   · have:sg ks l.length i=l.length+(i-ks.length):=by rw[sg,if_neg hi]
     omega
 obtain⟨S',hS'd⟩:∃ S':MS,S'={ w:=S1.w,im:=S1.im,keep:=fun b=>S1.keep b∧¬O b,n:=l.length+(l'.length-ks.length),place:=fun g=>if g<l.length∧g∉ks then S.place g else S1.place (iv ks l.length g),cur:=fun g=>if g<l.length∧g∉ks then S.cur g else S1.cur (iv ks l.length g),cap:=fun g=>if g<l.length∧g∉ks then S.cap g else S1.cap (iv ks l.length g),wid:=fun g=>if g<l.length∧g∉ks then S.wid g else S1.wid (iv ks l.length g),base:=S1.base }:=⟨_,rfl⟩
 have hoth:∀ g,g<l.length→g∉ks→S'.place g=S.place g∧S'.cur g=S.cur g∧S'.cap g=S.cap g∧S'.wid g=S.wid g:=fun g h1 h2=>by
   subst hS'd;exact⟨if_pos ⟨h1,h2⟩,if_pos ⟨h1,h2⟩,if_pos ⟨h1,h2⟩,if_pos ⟨h1,h2⟩⟩
 have hour:∀ i,S'.place (sg ks l.length i)=S1.place i∧S'.cur (sg ks l.length i)=S1.cur i∧S'.cap (sg ks l.length i)=S1.cap i∧S'.wid (sg ks l.length i)=S1.wid i:=fun i=>by
   subst hS'd;refine⟨?_,?_,?_,?_⟩<;>simp only[if_neg (hnot i),zj5 hn hk]
 have hn':S'.n=l.length+(l'.length-ks.length):=by subst hS'd;rfl
 have hwS':S'.w=S1.w:=by subst hS'd;rfl
 have hup:∀ g,g<S1.n→sg ks l.length g<S'.n∧S'.cur (sg ks l.length g)=S1.cur g∧S'.place (sg ks l.length g)=S1.place g∧S'.cap (sg ks l.length g)=S1.cap g∧S'.wid (sg ks l.length g)=S1.wid g:=fun g hg=>by
   obtain⟨a1,a2,a3,a4⟩:=hour g;exact⟨by rw[hn'];exact sg_lt hk (by omega) hml,a2,a1,a3,a4⟩
 have hiS':∀ b,S1.im b→S'.im b:=fun b hb=>by subst hS'd;exact hb
 have hkS0:∀ b,O b→S0.keep b:=fun b hb=>by subst hS0d;exact .inr hb
 have hn0:S0.n=ks.length:=by subst hS0d;rfl
 have hevo:Evo S S':=by
   refine⟨?_,?_,?_,?_,?_,fun b hb=>?_,fun b hb=>?_,fun b hb=>?_,fun b hb=>?_,?_,fun g hg=>?_,fun g hg he=>?_⟩
   · have:=ev.base;subst hS'd;subst hS0d;exact this
   · have:=ev.os;rw[hw0] at this;rw[hwS'];exact this
   · have:=ev.tape;rw[hw0] at this;rw[hwS'];exact this
   · have:=ev.output;rw[hw0] at this;rw[hwS'];exact this
   · have:=ev.size;rw[hw0] at this;rw[hwS'];exact this
   · have:=ev.kept b (by subst hS0d;exact hb.imp id .inl);rw[hw0] at this;rw[hwS'];exact this
   · exact hiS' b (ev.im b (hi0 b hb))
   · have h1:=ev.keep b (by subst hS0d;exact .inl hb)
     subst hS'd;exact⟨h1,fun ho=>hOfree b ho (.inr hb)⟩
   · have h1:=ev.fresh b (by subst hS'd;exact hb)
     subst hS0d;exact h1.imp id fun hh h2=>hh (.inl h2)
   · rw[hn',hSn];omega
   · rw[hSn] at hg
     by_cases hmem:g∈ks
     · obtain⟨i,hi,rfl⟩:=z81 (N:=l.length) hmem
       rw[(hour i).2.1];have:=ev.cur i (by rw[hn0];exact hi);subst hS0d;exact this
     · rw[(hoth g hg hmem).2.1];exact Nat.le_refl _
   · rw[hSn] at hg
     by_cases hmem:g∈ks
     · obtain⟨i,hi,rfl⟩:=z81 (N:=l.length) hmem
       obtain⟨a1,a2,a3,a4⟩:=hour i;rw[a1,a3,a4];rw[a2] at he;have:=ev.same i (by rw[hn0];exact hi) (by subst hS0d;exact he);subst hS0d;exact this
     · obtain⟨a1,a2,a3,a4⟩:=hoth g hg hmem
       exact⟨a1,a3,a4⟩
 have hlen:(setG ks (l'.map (renG (sg ks l.length))) l).length=l.length+(l'.length-ks.length):=by rw[Z2 (by simpa using hml)];simp
 have hatO:∀ g,g<l.length→g∉ks→(setG ks (l'.map (renG (sg ks l.length))) l).getD g default=l.getD g default:=fun g h1 h2=>Ky h1 h2
 have hatI:∀ i,i<l'.length→(setG ks (l'.map (renG (sg ks l.length))) l).getD (sg ks l.length i) default=renG (sg ks l.length) (l'.getD i default):=fun i hi=>by
   rw[z80 hn hk (by simpa using hi),L2 hi]
 have hrel':SRel S' (hl (setG ks (l'.map (renG (sg ks l.length))) l)):=by
   have hcov:∀ g,g<(setG ks (l'.map (renG (sg ks l.length))) l).length→(g<l.length∧g∉ks)∨∃ i,i<l'.length∧sg ks l.length i=g:=fun g hg=>by
     by_cases hh:g<l.length∧g∉ks
     · exact .inl hh
     · exact .inr (zcu hml (by rw[←hlen];exact hg) hh)
   have hfree1:∀ i,i<l'.length→(l'.getD i default).has (S1.cap i)→¬S1.keep (S1.place i):=fun i hi hh hkk=>(hS1.grp i hi).has_ni (by rw[Cg];exact hh) (.inr hkk);refine⟨by rw[hn'];exact hlen.symm,fun g hg=>?_,fun g g' hg hg' hne h1 h2=>?_,fun b hb=>?_⟩
   · rcases hcov g hg with⟨h1,h2⟩|⟨i,hi,rfl⟩
     · have hr:=hS.grp g h1
       obtain⟨a1,a2,a3,a4⟩:=hoth g h1 h2;rw[Cg] at hr ⊢;rw[hatO g h1 h2]
       have hblk:(l.getD g default).has (S.cap g)→S'.w.heap[S.place g]? = S.w.heap[S.place g]? := fun hh=>by
         have:=ev.kept (S.place g) (.inr (hkS0 _ ((hO _).2 ⟨g,h1,h2,hh,rfl⟩)));rw[hw0] at this;rw[hwS'];exact this
       have hnik:(l.getD g default).has (S.cap g)→¬(S'.im (S.place g)∨S'.keep (S.place g)):=fun hh hik=>by
         have ho:O (S.place g):=(hO _).2 ⟨g,h1,h2,hh,rfl⟩;rcases hik with hik|hik
         · rcases ev.fresh (S.place g) (by subst hS'd;exact hik) with h3|h3
           · exact hOfree _ ho (.inl (by subst hS0d;exact h3))
           · exact h3 (hkS0 _ ho)
         · subst hS'd;exact hik.2 ho
       refine⟨by rw[a2];exact hr.ver,by rw[a4];exact hr.wid,fun hw hc=>?_,fun hw=>by rw[a3];exact hr.len hw,fun hw he=>by rw[a3];exact hr.full hw he,fun hw he=>?_⟩
       · rw[a3] at hc
         obtain⟨⟨cells,T,vs,b1,b2,b3,b4⟩,ni⟩:=hr.live hw hc;rw[a1,a3];exact⟨⟨cells,T,vs,by rw[hblk (.inl ⟨hw,hc⟩)];exact b1,b2,b3.mono hevo,b4⟩,hnik (.inl ⟨hw,hc⟩)⟩
       · obtain⟨⟨es,clock,b1,b2⟩,ni⟩:=hr.mlive hw he
         rw[a1];exact⟨⟨es,clock,by rw[hblk (.inr ⟨hw,he⟩)];exact b1,b2.mono hevo⟩,hnik (.inr ⟨hw,he⟩)⟩
     · have hr:=hS1.grp i hi
       obtain⟨a1,a2,a3,a4⟩:=hour i;rw[Cg] at hr ⊢;rw[hatI i hi]
       have hnik:¬(S1.im (S1.place i)∨S1.keep (S1.place i))→¬(S'.im (S1.place i)∨S'.keep (S1.place i)):=fun hh hik=>by
         subst hS'd;exact hh (hik.imp id fun h3=>h3.1)
       refine⟨by rw[a2];exact hr.ver,by rw[a4];exact hr.wid,fun hw hc=>?_,fun hw=>by rw[a3];have:=hr.len hw;simpa [renG,Kc] using this,fun hw he=>by rw[a3];have:=hr.full hw he;simpa [renG,Kc] using this,fun hw he=>?_⟩
       · rw[a3] at hc
         obtain⟨⟨cells,T,vs,b1,b2,b3,b4⟩,ni⟩:=hr.live hw hc;rw[a1,a3];exact⟨⟨cells,T,vs,by rw[hwS'];exact b1,b2,Kx hwS' hiS' hup _ b3,b4⟩,hnik ni⟩
       · obtain⟨⟨es,clock,b1,b2⟩,ni⟩:=hr.mlive hw he
         rw[a1];exact⟨⟨es,clock,by rw[hwS'];exact b1,Kx hwS' hiS' hup _ b2⟩,hnik ni⟩
   · have hmix:∀ g i,g<l.length→g∉ks→i<l'.length→(l.getD g default).has (S.cap g)→(l'.getD i default).has (S1.cap i)→S.place g≠S1.place i:=fun g i b1 b2 b3 b4 b5 e=>by
       have h3:=ev.keep _ (hkS0 _ ((hO _).2 ⟨g,b1,b2,b4,rfl⟩));rw[e] at h3;exact hfree1 i b3 b5 h3
     rw[Cg] at h1 h2;rcases hcov g hg with⟨c1,c2⟩|⟨i,hi,rfl⟩<;>rcases hcov g' hg' with⟨d1,d2⟩|⟨j,hj,rfl⟩
     · rw[hatO g c1 c2,(hoth g c1 c2).2.2.1] at h1
       rw[hatO g' d1 d2,(hoth g' d1 d2).2.2.1] at h2;rw[(hoth g c1 c2).1,(hoth g' d1 d2).1];exact hS.apart g g' c1 d1 hne (by rw[Cg];exact h1) (by rw[Cg];exact h2)
     · rw[hatO g c1 c2,(hoth g c1 c2).2.2.1] at h1
       rw[hatI j hj,(hour j).2.2.1] at h2;rw[(hoth g c1 c2).1,(hour j).1];exact hmix g j c1 c2 hj h1 h2
     · rw[hatI i hi,(hour i).2.2.1] at h1
       rw[hatO g' d1 d2,(hoth g' d1 d2).2.2.1] at h2;rw[(hoth g' d1 d2).1,(hour i).1];exact fun e=>hmix g' i d1 d2 hi h2 h1 e.symm
     · rw[hatI i hi,(hour i).2.2.1] at h1
       rw[hatI j hj,(hour j).2.2.1] at h2;rw[(hour i).1,(hour j).1];exact hS1.apart i j hi hj (fun e=>hne (by rw[e])) (by rw[Cg];exact h1) (by rw[Cg];exact h2)
   · rw[hwS']
     refine hS1.im b ?_;subst hS'd;exact hb.imp id fun h3=>h3.1
 exact⟨v,S',_,_,he,by rw[hwS'];exact hw1,hevo,hrel',zfd hwS' hiS' hup y hv,hK'⟩
mutual
theorem zcv (σ:Nat→Nat):∀ (x:AV),x.pure=true→ren σ x=x
 | .any,_=>rfl
 | .bool _,_=>rfl
 | .int _ _,_=>rfl
 | .str _,_=>rfl
 | .nilS,_=>rfl
 | .nul,_=>rfl
 | .emp,_=>rfl
 | .lst _ _,_=>rfl
 | .full _ _,_=>rfl
 | .cptr _,_=>rfl
 | .nilP,_=>rfl
 | .nilF,_=>rfl
 | .yld _,_=>rfl
 | .map _ _,h=>by cases h
 | .ref _ _ _ _,h=>by cases h
 | .ptr _ _ _ _,h=>by cases h
 | .agg cs,h=>by rw[ren,Hp σ cs h]
 | .tup cs,h=>by rw[ren,Hp σ cs h]
 | .fn f cs,h=>by rw[ren,Hp σ cs h]
theorem Hp (σ:Nat→Nat):∀ (xs:List AV),Ap xs=true→renL σ xs=xs
 | [],_=>rfl
 | x::xs,h=>by
   simp only[Ap,Bool.and_eq_true] at h;rw[renL,zcv σ x h.1,Hp σ xs h.2]
end
mutual
theorem C0 (m:Nat):∀ (x:AV),x.pure=true→ltV m x
 | .any,_=>trivial
 | .bool _,_=>trivial
 | .int _ _,_=>trivial
 | .str _,_=>trivial
 | .nilS,_=>trivial
 | .nul,_=>trivial
 | .emp,_=>trivial
 | .lst _ _,_=>trivial
 | .full _ _,_=>trivial
 | .cptr _,_=>trivial
 | .nilP,_=>trivial
 | .nilF,_=>trivial
 | .yld _,_=>trivial
 | .map _ _,h=>by cases h
 | .ref _ _ _ _,h=>by cases h
 | .ptr _ _ _ _,h=>by cases h
 | .agg cs,h=>C3 m cs h
 | .tup cs,h=>C3 m cs h
 | .fn f cs,h=>C3 m cs h
theorem C3 (m:Nat):∀ (xs:List AV),Ap xs=true→ltL m xs
 | [],_=>trivial
 | x::xs,h=>by
   simp only[Ap,Bool.and_eq_true] at h;exact⟨C0 m x h.1,C3 m xs h.2⟩
end
def renM (σ:Nat→Nat) (xs:List AV):List AV:=renL σ xs
def ltM (m:Nat) (xs:List AV):Prop:=ltL m xs
section
variable {ks:List Nat} {N i m g k v o n w f:Nat} {x:AV} {xs cs:List AV} {e:Bool} {G:Grp} {r l:List Grp}
theorem zj6:renL (sg ks N) xs=bif Ap xs then xs else renM (sg ks N) xs:=by
 cases h:Ap xs
 · rfl
 · exact Hp _ xs h
theorem zn0:ltL m xs=ifB (Ap xs) (ltM m xs):=propext ⟨fun h=>.inr h,fun h=>h.elim (C3 m xs) id⟩
theorem zcw:renM (sg ks N) []=[]:=rfl
theorem z82:renM (sg ks N) (x::xs)=ren (sg ks N) x::renM (sg ks N) xs:=rfl
theorem zj7:ltM m []=True:=rfl
theorem zcx:ltM m (x::xs)=(ltV m x∧ltM m xs):=rfl
theorem zn1:ren (sg ks N) .any=.any:=rfl
theorem zj8 {b:Bool}:ren (sg ks N) (.bool b)=.bool b:=rfl
theorem zn2 {q:IntKind} {z:Int}:ren (sg ks N) (.int q z)=.int q z:=rfl
theorem zn3 {s:List UInt8}:ren (sg ks N) (.str s)=.str s:=rfl
theorem zj9:ren (sg ks N) .nilS=.nilS:=rfl
theorem zn4:ren (sg ks N) .nul=.nul:=rfl
theorem zn5:ren (sg ks N) .emp=.emp:=rfl
theorem zja:ren (sg ks N) .nilP=.nilP:=rfl
theorem zjb:ren (sg ks N) .nilF=.nilF:=rfl
theorem zn6:ren (sg ks N) (.lst w xs)=.lst w xs:=rfl
theorem zjc:ren (sg ks N) (.full w xs)=.full w xs:=rfl
theorem zjd:ren (sg ks N) (.cptr x)=.cptr x:=rfl
theorem zn7:ren (sg ks N) (.ref g v o n)=.ref (sg ks N g) v o n:=rfl
theorem zn8:ren (sg ks N) (.ptr g v i o)=.ptr (sg ks N g) v i o:=rfl
theorem zn9:ren (sg ks N) (.map g v)=.map (sg ks N g) v:=rfl
theorem zna:ren (sg ks N) (.agg cs)=.agg (renL (sg ks N) cs):=rfl
theorem znb:ren (sg ks N) (.tup cs)=.tup (renL (sg ks N) cs):=rfl
theorem re_fn:ren (sg ks N) (.fn f cs)=.fn f (renL (sg ks N) cs):=rfl
theorem znc:ltV m .any=True:=rfl
theorem zje {b:Bool}:ltV m (.bool b)=True:=rfl
theorem znd {q:IntKind} {z:Int}:ltV m (.int q z)=True:=rfl
theorem zne {s:List UInt8}:ltV m (.str s)=True:=rfl
theorem zjf:ltV m .nilS=True:=rfl
theorem znf:ltV m .nul=True:=rfl
theorem zng:ltV m .emp=True:=rfl
theorem zjg:ltV m .nilP=True:=rfl
theorem zjh:ltV m .nilF=True:=rfl
theorem znh:ltV m (.lst w xs)=True:=rfl
theorem zji:ltV m (.full w xs)=True:=rfl
theorem zjj:ltV m (.cptr x)=True:=rfl
theorem zni:ltV m (.ref g v o n)=(g<m):=rfl
theorem znj:ltV m (.ptr g v i o)=(g<m):=rfl
theorem znk:ltV m (.map g v)=(g<m):=rfl
theorem znl:ltV m (.agg cs)=ltL m cs:=rfl
theorem znm:ltV m (.tup cs)=ltL m cs:=rfl
theorem lv_fn:ltV m (.fn f cs)=ltL m cs:=rfl
theorem sg_eq:sg ks N i=if i<ks.length then ks.getD i 0 else N+(i-ks.length):=rfl
theorem reG {σ:Nat→Nat}:renG σ ⟨w,v,e,xs⟩=⟨w,v,e,renL σ xs⟩:=rfl
theorem znn:setG [] r l=l++r:=rfl
theorem z83:setG (k::ks) (G::r) l=setG ks r (l.set k G):=rfl
end
attribute [push_cast] zj6 zn0 zcw z82 zj7 zcx zn1 zj8 zn2 zn3 zj9 zn4 zn5 zja zjb zn6 zjc zjd zn7 zn8 zn9 zna znb re_fn
attribute [push_cast] znc zje znd zne zjf znf zng zjg zjh znh zji zjj zni znj znk znl znm lv_fn sg_eq reG znn z83 List.set_cons_zero List.set_cons_succ List.getD_cons_zero List.getD_cons_succ
theorem Xu {P:Program} {f:Nat} {xs0 xs:List AV} {l0 l:List Grp} {K0 K:AV→Ac→Prop} (ks:List Nat) (h:Bj P f xs0 (hl l0) K0) (hn:ks.Nodup) (hk:∀ k∈ks,k<l.length) (hxs:renL (sg ks l.length) xs0=xs)
   (hl0:l0.map (renG (sg ks l.length))=ks.map (fun k=>l.getD k default)) (hlt:ltL ks.length xs0) (hltG:∀ G∈l0,ltL ks.length G.xs)
   (hK:∀ y H',K0 y H'→∃ l',H'=hl l'∧ks.length≤l'.length∧@nx (ren (sg ks l.length) y) (hl (setG ks (l'.map (renG (sg ks l.length))) l)) ⟨K⟩):@R4 P f xs (hl l) ⟨K⟩ :=
 U9 ks h hxs hl0 hn hk hlt hltG hK
section
variable {P:Program} {n b:Nat} {env:Env} {H:Ac}
theorem Qh {S:MS} {l2:List Grp} {H1:Ac} {ks:List Nat} {val:Nat→Value} (hS:SRel S (hl l2)) (hF:∀ i,VRel S (rnV b H1 ks 6 (env i)) (val i)):∀ {live:List (Nat × AV)},Ld l2 H1 b ks env live→∀ i,VRel S (C2 live i) (val i)
 | [],_,i=>trivial
 | (t,y)::r,h,i=>by
   show VRel S (if i=t then y else C2 r i) _;split
   · rename_i hit
     subst hit;exact Uj (.inl hS) _ h.1 (hF i)
   · exact Qh hS hF h.2 i
theorem Sg:∀ (ws:List Nat) {S:MS} {l:List Grp} {val:Nat→Value},(∀ w∈ws,0<w)→SRel S (hl l)→(∀ i,VRel S (env i) (val i))→∃ S',S'.w=S.w∧Evo S S'∧SRel S' (hl (l++ws.map Hb))∧∀ i,VRel S' (env i) (val i)
 | [],S,l,val,_,hS,hF=>⟨S,rfl,.refl S,by simpa using hS,hF⟩
 | w::ws,S,l,val,hw,hS,hF=>by
   have h1:=hS.virt w (hw w (by simp));rw[Dj] at h1;obtain⟨S',e1,e2,e3,e4⟩:=Sg ws (S:=S.virt w) (l:=l++[Hb w]) (fun w' h'=>hw w' (by simp[h'])) h1 (fun j=>VRel.mono (Evo.virt _) _ (hF j));exact⟨S',e1,(Evo.virt _).trans e2,by simpa using e3,e4⟩
theorem zcy {srcs:List Src} {live:List (Nat × AV)} {heap:List Grp} {S:MS} {val:Nat→Value} (hh:Head b env H srcs live heap) (hbS:b≤S.n) (hS:SRel S H) (hF:∀ i,VRel S (env i) (val i)) :
   ∃ S',S'.w=S.w∧BEvo b S S'∧SRel S' (hl heap)∧∀ i,VRel S' (C2 live i) (val i):=by
 obtain⟨hb,hh⟩:=hh;have hgn:H.groups.length=H.n:=by simp[Ac.groups]
 have hS1:SRel S (hl H.groups):=hS.congr hgn (fun g hg=>by
   show H.groups.getD g default=_
   simp[Ac.groups,List.getD,hg])
 obtain⟨S2,e1,e2,e3,e4⟩:=Sg (D6 H.n srcs).2 (Il hh.1) hS1 hF;replace hh:=hh.2;generalize hl1:H.groups++(D6 H.n srcs).2.map Hb=l1 at *;obtain⟨h1,h2,h3,h4⟩:=hh;have hb1:b≤l1.length:=by rw[←hl1,List.length_append];omega
 have hbS2:b≤S2.n:=Nat.le_trans hbS e2.n;obtain⟨k1,k2⟩:=Nb (ks:=(D6 H.n srcs).1) hb1;have hev:=Ii (ks:=(D6 H.n srcs).1) e3 hbS2;have hrel:=(Kt (ks:=(D6 H.n srcs).1) 6 e3 hb1 (fun k hk=>Ms h1 k hk) (Gn h2)).congr k1 k2;exact⟨S2.repack b (hl l1) (D6 H.n srcs).1,e1,(e2.down hbS).trans hev,Ik hrel h4,Qh hrel (fun j=>z3m e3 6 (e4 j)) h3⟩
def Drop (b:Nat) (y:AV) (H:Ac) [K:HK]:Prop:=∃ srcs y' heap,Head b (C2 [(0,y)]) H srcs [(0,y')] heap∧K.f y' (hl heap)
theorem zfe {y:AV} {K:AV→Ac→Prop} (srcs:List Src) (y':AV) (heap:List Grp) (h1:Head b (C2 [(0,y)]) H srcs [(0,y')] heap) (h2:K y' (hl heap)):@Drop b y H ⟨K⟩:=⟨srcs,y',heap,h1,h2⟩
theorem Nx {f:Nat} {xs:List AV} {l:List Grp} {K:AV→Ac→Prop} (h:Bj P f xs (hl l) (fun y H'=>@Drop l.length y H' ⟨K⟩)):Bj P f xs (hl l) K :=
 ⟨h.1,fun S cargs hS hx=>(h.2 S cargs hS hx).mono fun e w' hh=>by
   obtain⟨v,S1,y,H',he,hw,ev,hS1,hv,srcs,y',heap,h1,h2⟩:=hh;have hn:S.n=l.length:=hS.n
   obtain⟨S2,q1,q2,q3,q4⟩:=zcy (S:=S1) (val:=fun i=>if i=0 then v else undef) h1 (by rw[←hn];exact ev.n) hS1 (fun i=>by
     show VRel S1 (if i=0 then y else .any) _;split
     · exact hv
     · trivial)
   have hb:=(ev.down (b:=l.length) (by omega)).trans q2
   exact⟨v,S2,y',_,he,q1.trans hw,⟨hb.base,hb.os,hb.tape,hb.output,hb.size,hb.kept,hb.im,hb.keep,hb.fresh,by rw[hn];exact hb.n,fun g hg=>hb.cur g (by omega),fun g hg=>hb.same g (by omega)⟩,q3,q4 0,h2⟩⟩
theorem zcz {f m np b:Nat} {xs:List AV} {l:List Grp} {K:AV→Ac→Prop} {res:List ARes} {B:AC} (hf:Ax P f xs.length=some ⟨m,np,res,B⟩) (hb:b=l.length) (h:W P m b B (entry xs) (hl l) (Ret P res fun y H'=>@Drop b y H' ⟨K⟩)):Bj P f xs (hl l) K:=by
 subst hb;exact Nx (Zl hf (W_T h))
end
theorem zd0 (env:Env):setL env [] []=env:=rfl
theorem z84 (env:Env) (p:Nat) (ps:List Nat) (x:AV) (r:List AV):setL env (p::ps) (x::r)=setL (env.put (some p) x) ps r:=rfl
attribute [push_cast] zd0 z84
section
variable {P:Program} {n b:Nat} {S:MS} {H:Ac}
theorem put_defers (a:Act) (d:Option Nat) (v:Value):(a.put d v).defers=a.defers:=by cases d<;>rfl
theorem zno (hS:SRel S H) {env:Env} {a:Act} (hF:FRel S n env a) {o:Oper} {q:AOp} {ops:Array Oper} (h:Bp P n ops o=some q) {K:AV→Ac→Prop} (hst:Ae P q.k H (q.vals env) K)
   {N:Act→World→Prop} {Q:Exit→Act→World→Prop} (hN:∀ S' H' x a',Evo S S'→SRel S' H'→FRel S' n (env.put q.dst x) a'→a'.defers=a.defers→K x H'→N a' S'.w) (r:Option Nat) (m:Nat):o.wpIn (fen r) m P a S.w N Q:=by
 obtain⟨h1,h2,h3,h4,_⟩:=A9 h;have hargs:=If hF h2;have h1':=Gi h1 fun e=>by rw[e] at hst;simp[Ae] at hst
 have hsem:o.semAt (fen r).round a.eval=execOp a.eval o:=Oper.semAt_eq _ _ _ fun c hc=>by rw[hc] at h1';cases h1'
 rcases Ps hS o h1 (ρ:=a.eval) hargs hst with⟨v,S',x,H',hr,e,hS',hv,hK⟩|⟨f,cargs,hr,hc⟩
 · have hN':=fun v' (hv':VRel S' x v')=>hN S' H' x (a.put o.dst v') e hS' (by rw[h3];exact (hF.mono e).put h4 hv') (put_defers _ _ _) hK
   refine⟨fun _ _=>trivial,?_⟩;rw[hsem];rcases hr with hr|⟨hr,rfl⟩<;>rw[hr]
   · exact hN' v hv
   · exact hN' undef hv
 · refine⟨fun _ _=>trivial,?_⟩
   rw[hsem,hr,Oper.uponIn_enter];refine⟨fun h=>(by cases h),M1 (hc.mono fun e w' hh=>?_)⟩;obtain⟨v,S',x,H',rfl,rfl,ev,hS',hv,hK⟩:=hh;exact hN S' H' x (a.put o.dst v) ev hS' (by rw[h3];exact (hF.mono ev).put h4 hv) (put_defers _ _ _) hK
theorem Gc {ops:Array Oper} {Q:Exit→Act→World→Prop} {rd:Option Nat} {m:Nat} (tl:List Nat):∀ (l:List Oper) (l':List AOp) (k:Nat),(∀ j,j<l.length→l[j]? = ops[k+j]?)→l.mapM (Bp P n ops)=some l'→∀ {S:MS} {H:Ac} {env:Env} {a:Act} {K:Env→Ac→Prop},
   SRel S H→FRel S n env a→runK P l' env H K→(∀ S' H' env' a',Evo S S'→SRel S' H'→FRel S' n env' a'→a'.defers=a.defers→K env' H'→wpOpsIn (fen rd) m P ops Q tl a' S'.w)→wpOpsIn (fen rd) m P ops Q (List.range' k l.length++tl) a S.w
 | [],l',k,_,hm,S,H,env,a,K,hS,hF,hr,hQ=>by
   simp at hm;subst hm;exact hQ S H env a (.refl S) hS hF rfl hr
 | o::l,l',k,hl,hm,S,H,env,a,K,hS,hF,hr,hQ=>by
   rw[List.mapM_cons] at hm;simp only[Option.bind_eq_bind,Option.bind_eq_some_iff,Option.pure_def,Option.some.injEq] at hm;obtain⟨q,hq,r,hrr,rfl⟩:=hm;have h0:ops[k]? = some o:=by simpa using (hl 0 (by simp)).symm
   have hl':∀ j,j<l.length→l[j]? = ops[k+1+j]? := fun j hj=>by have:=hl (j+1) (by simp;omega);simpa [Nat.add_assoc,Nat.add_comm 1 j] using this
   have hg:=M0 hq hF hr;rw[show List.range' k (o::l).length++tl=k::(List.range' (k+1) l.length++tl) from rfl];simp only[wpOpsIn,h0];cases hw:Region.wanted o (yielded ops a.tmps)
   · rw[hw] at hg
     simp only[Bool.false_eq_true,if_false] at hg ⊢;obtain⟨_,_,h3,h4,_⟩:=A9 hq;exact⟨fun _ _=>trivial,Gc tl l r (k+1) hl' hrr hS (by rw[h3];exact hF.put h4 Hf) hg (fun S' H' env' a' e hS' hF' hd=>hQ S' H' env' a' e hS' hF' (hd.trans (put_defers _ _ _)))⟩
   · rw[hw] at hg
     simp only[if_true] at hg ⊢;refine zno hS hF hq hg (fun S' H' x a' e hS' hF' hd hK=>?_) rd m;exact Gc tl l r (k+1) hl' hrr hS' hF' hK (fun S2 H2 env2 a2 e2 hS2 hF2 hd2 hK2=>hQ S2 H2 env2 a2 (e.trans e2) hS2 hF2 (hd2.trans hd) hK2)
end
structure Itr where
 P:Program
 l:Nat
 m:Nat
 rows:List (List AV)
 S0:MS
 J:Nat→(Nat→Prop)→World→Prop
 Jx:Nat→(Nat→Prop)→World→Prop
 cJ:Clo J
 cx:Clo Jx
 fact:∀ k O W,J k O W∨Jx k O W→(∀ b,S0.im b→¬O b∧W.heap[b]? = S0.w.heap[b]?)∧(W.os=S0.w.os∧W.tape=S0.w.tape∧W.output=S0.w.output)∧S0.w.heap.size≤W.heap.size∧∀ b,O b→S0.w.heap.size≤b∧b<W.heap.size
 round:∀ k row O W,rows[k]? = some row→J k O W→YieldAt Fence.wide m P l (encI row) W fun e W'=>W.heap.size≤W'.heap.size∧(∀ b,O b→W'.heap[b]? = W.heap[b]?)∧(e=.returned (.bool true)∧J (k+1) O W'∨e=.returned (.bool false)∧Jx (k+1) O W')
namespace Itr
def at_ (I:Itr):Option Nat→(Nat→Prop)→World→Prop
 | some k,O,W=>I.J k O W
 | none,O,W=>∃ k,I.Jx k O W
structure Now (I:Itr) (s:Option Nat) (X:Nat→Prop) (S:MS) (H:Ac):Prop where
 rel:SRel S H
 base:S.base≤S.w.heap.size
 keep:∀ b,X b→S.keep b
 im:∀ b,I.S0.im b→S.im b
 apart:∀ b,S.im b→I.S0.im b∨¬X b
 st:I.at_ s (fun b=>b<S.w.heap.size∧¬X b∧¬I.S0.im b) S.w
theorem Now.on {I:Itr} {s:Option Nat} {X:Nat→Prop} {S S':MS} {H H':Ac} (h:I.Now s X S H) (e:Evo S S') (hr:SRel S' H'):I.Now s X S' H':=by
 have hX:∀ b,X b→b<S.w.heap.size:=fun b hb=>h.rel.im b (.inr (h.keep b hb));have hi0:∀ b,I.S0.im b→b<S.w.heap.size:=fun b hb=>h.rel.im b (.inl (h.im b hb));refine⟨hr,by rw[e.base];exact Nat.le_trans h.base e.size,fun b hb=>e.keep b (h.keep b hb),fun b hb=>e.im b (h.im b hb),fun b hb=>?_,?_⟩
 · rcases e.fresh b hb with hh|hh
   · exact h.apart b hh
   · exact .inr fun hx=>hh (h.keep b hx)
 · have ho:(fun b=>b<S'.w.heap.size∧¬X b∧¬I.S0.im b)=fun b=>(b<S.w.heap.size∧¬X b∧¬I.S0.im b)∨(S.w.heap.size≤b∧b<S'.w.heap.size):=by
     funext b;refine propext ⟨fun⟨h1,h2,h3⟩=>?_,fun hh=>?_⟩
     · rcases Nat.lt_or_ge b S.w.heap.size with hl|hl
       · exact .inl ⟨hl,h2,h3⟩
       · exact .inr ⟨hl,h1⟩
     · rcases hh with⟨h1,h2,h3⟩|⟨h1,h2⟩
       · exact⟨Nat.lt_of_lt_of_le h1 e.size,h2,h3⟩
       · exact⟨h2,fun hx=>by have:=hX b hx;omega,fun hx=>by have:=hi0 b hx;omega⟩
   rw[ho]
   have hk:∀ b,b<S.w.heap.size→¬(b<S.w.heap.size∧¬X b∧¬I.S0.im b)→S'.w.heap[b]? = S.w.heap[b]? := fun b hb hn=>by
     by_cases hx:X b
     · exact e.kept b (.inr (h.keep b hx))
     · by_cases hi:I.S0.im b
       · exact e.kept b (.inl (h.im b hi))
       · exact absurd ⟨hb,hx,hi⟩ hn
   cases s with
   | some k=>exact I.cJ k _ _ _ h.st e.os e.tape e.output e.size hk
   | none=>obtain⟨k,hj⟩:=h.st;exact⟨k,I.cx k _ _ _ hj e.os e.tape e.output e.size hk⟩
theorem Now.round {I:Itr} {k:Nat} {X:Nat→Prop} {S:MS} {H:Ac} (h:I.Now (some k) X S H) {W':World} {s':Option Nat} (hsz:S.w.heap.size≤W'.heap.size) (ho:∀ b,b<S.w.heap.size∧¬X b∧¬I.S0.im b→W'.heap[b]? = S.w.heap[b]?)
   (hi:∀ b,I.S0.im b→W'.heap[b]? = S.w.heap[b]?) (hst:I.at_ s' (fun b=>b<S.w.heap.size∧¬X b∧¬I.S0.im b) W') :
   ∃ S',S'.w=W'∧I.Now s' (fun b=>X b∨(S.w.heap.size≤b∧b<W'.heap.size)) S' H∧Evi S S':=by
 obtain⟨S',hd⟩:∃ S':MS,S'={ S with w:=W',keep:=fun b=>S.keep b∨(S.w.heap.size≤b∧b<W'.heap.size) }:=⟨_,rfl⟩;have hX:∀ b,X b→b<S.w.heap.size:=fun b hb=>h.rel.im b (.inr (h.keep b hb));have him:∀ b,S.im b→b<S.w.heap.size:=fun b hb=>h.rel.im b (.inl hb);have hi0:∀ b,I.S0.im b→b<S.w.heap.size:=fun b hb=>him b (h.im b hb)
 have hw:∀ b,S.im b→W'.heap[b]? = S.w.heap[b]? := fun b hb=>by
   by_cases h0:I.S0.im b
   · exact hi b h0
   · exact ho b ⟨him b hb,(h.apart b hb).resolve_left h0,h0⟩
 refine⟨S',by rw[hd],⟨?_,?_,?_,?_,?_,?_⟩,?_⟩
 · subst hd
   exact h.rel.turn2 hw rfl rfl rfl rfl rfl rfl (fun b hb=>hb.imp id And.left) (fun b hb=>hb.elim (fun hh=>Nat.lt_of_lt_of_le (h.rel.im b (.inr hh)) hsz) And.right)
     (fun b hb hl=>ho b ⟨hl,fun hx=>hb (.inr (h.keep b hx)),fun hx=>hb (.inl (h.im b hx))⟩) hsz
 · subst hd;exact Nat.le_trans h.base hsz
 · subst hd;exact fun b hb=>hb.imp (h.keep b) id
 · subst hd;exact h.im
 · subst hd
   intro b hb;rcases h.apart b hb with hh|hh
   · exact .inl hh
   · exact .inr fun hx=>hx.elim hh fun hx=>by have:=him b hb;omega
 · subst hd
   have e:(fun b=>b<W'.heap.size∧¬(X b∨(S.w.heap.size≤b∧b<W'.heap.size))∧¬I.S0.im b)=fun b=>b<S.w.heap.size∧¬X b∧¬I.S0.im b:=by
     funext b;refine propext ⟨fun⟨h1,h2,h3⟩=>⟨?_,fun hx=>h2 (.inl hx),h3⟩,fun⟨h1,h2,h3⟩=>⟨by omega,fun hx=>hx.elim h2 (fun hh=>by omega),h3⟩⟩;rcases Nat.lt_or_ge b S.w.heap.size with hl|hl
     · exact hl
     · exact absurd (.inr ⟨hl,h1⟩) h2
   show I.at_ s' _ W';rw[e];exact hst
 · subst hd
   exact Evi.of hw rfl rfl rfl rfl rfl rfl
end Itr
def Kd (I:Itr) (n:Nat) (Q:Option Nat→Ex→Env→Ac→Prop) (e:Exit) (a:Act) (w:World):Prop :=
 ∃ S' env H' x s X,S'.w=w∧I.Now s X S' H'∧FRel S' n env a∧a.defers=[]∧e=Ex.up x∧Q s x env H'
def TI (I:Itr) (n:Nat) (c:AC) (s:Option Nat) (env:Env) (H:Ac) (Q:Option Nat→Ex→Env→Ac→Prop):Prop :=
 ∀ code,Cv I.P n code=some c→∀ S a X,I.Now s X S H→FRel S n env a→a.defers=[]→code.wpIn (fen none) (I.m+1) I.P (Kd I n Q) a S.w
section
variable {I:Itr} {n:Nat} {s:Option Nat} {env:Env} {H:Ac} {Q:Option Nat→Ex→Env→Ac→Prop}
theorem zd1 {F:Fence} {mm:Nat} {c:Code} {a:Act} {w:World} (h:c.wpIn F mm I.P (Kd I n Q) a w):(Code.scope c).wpIn F mm I.P (Kd I n Q) a w:=by
 refine Fb (wpIn_mono h fun e a w hh=>?_);obtain⟨S2,env,H',y,s,X,h1,h2,h3,h4,h5,h6⟩:=hh;subst h5;cases y<;>exact⟨S2,env,H',_,s,X,h1,h2,h3,h4,rfl,h6⟩
theorem Si {c:AC} (h:∀ code,Cv I.P n code=some c→(∀ d,code≠.scope d)→∀ S a X,I.Now s X S H→FRel S n env a→a.defers=[]→code.wpIn (fen none) (I.m+1) I.P (Kd I n Q) a S.w):TI I n c s env H Q:=by
 intro code
 induction code with
 | scope d ih=>exact fun hc S a X hN hF hd=>zd1 (ih (by simpa [Cv] using hc) S a X hN hF hd)
 | skip=>exact fun hc=>h _ hc (by simp)
 | region=>exact fun hc=>h _ hc (by simp)
 | seq=>exact fun hc=>h _ hc (by simp)
 | cond=>exact fun hc=>h _ hc (by simp)
 | block=>exact fun hc=>h _ hc (by simp)
 | loop=>exact fun hc=>h _ hc (by simp)
 | rangeFunc=>exact fun hc=>h _ hc (by simp)
 | exit=>exact fun hc=>h _ hc (by simp)
 | label=>exact fun hc=>h _ hc (by simp)
 | goto=>exact fun hc=>h _ hc (by simp)
 | ret=>exact fun hc=>h _ hc (by simp)
 | refuse=>exact fun hc=>h _ hc (by simp)
theorem zjk (h:Q s .normal env H):TI I n .skip s env H Q:=Si fun code hc hs S a X hN hF hd=>by
 have hA:Kd I n Q .normal a S.w:=⟨S,env,H,.normal,s,X,rfl,hN,hF,hd,rfl,h⟩;cases code<;>simp only[Cv,reduceCtorEq,Option.some.injEq] at hc
 case skip=>exact wpIn_skip hA
 case label=>exact wpIn_label hA
 case region=>exact absurd hc B9
 case seq=>split at hc<;>cases hc
 case cond=>split at hc<;>cases hc
 case block=>obtain⟨_,_,h⟩:=Option.map_eq_some_iff.1 hc;cases h
 case loop=>obtain⟨_,_,h⟩:=Option.map_eq_some_iff.1 hc;cases h
 case rangeFunc=>split at hc<;>cases hc
 case scope d=>exact absurd rfl (hs d)
theorem zjl {id:Nat} (h:Q s (.exit id) env H):TI I n (.exit id) s env H Q:=Si fun code hc hs S a X hN hF hd=>by
 cases code<;>simp only[Cv,reduceCtorEq,Option.some.injEq] at hc
 case exit k=>cases hc;exact wpIn_exit ⟨S,env,H,.exit id,s,X,rfl,hN,hF,hd,rfl,h⟩
 case region=>exact absurd hc B9
 case seq=>split at hc<;>cases hc
 case cond=>split at hc<;>cases hc
 case block=>obtain⟨_,_,h⟩:=Option.map_eq_some_iff.1 hc;cases h
 case loop=>obtain⟨_,_,h⟩:=Option.map_eq_some_iff.1 hc;cases h
 case rangeFunc=>split at hc<;>cases hc
 case scope d=>exact absurd rfl (hs d)
theorem znp (h:Q s .ret env H):TI I n .ret s env H Q:=Si fun code hc hs S a X hN hF hd=>by
 cases code<;>simp only[Cv,reduceCtorEq,Option.some.injEq] at hc
 case ret=>exact wpIn_ret ⟨S,env,H,.ret,s,X,rfl,hN,hF,hd,rfl,h⟩
 case region=>exact absurd hc B9
 case seq=>split at hc<;>cases hc
 case cond=>split at hc<;>cases hc
 case block=>obtain⟨_,_,h⟩:=Option.map_eq_some_iff.1 hc;cases h
 case loop=>obtain⟨_,_,h⟩:=Option.map_eq_some_iff.1 hc;cases h
 case rangeFunc=>split at hc<;>cases hc
 case scope d=>exact absurd rfl (hs d)
def Ex.thenI (K:Option Nat→Env→Ac→Prop) (Q:Option Nat→Ex→Env→Ac→Prop):Option Nat→Ex→Env→Ac→Prop
 | s,.normal,env,H=>K s env H
 | s,x,env,H=>Q s x env H
theorem Jb {x y:AC} (h:TI I n x s env H (Ex.thenI (fun s' env' H'=>TI I n y s' env' H' Q) Q)):TI I n (.seq x y) s env H Q:=Si fun code hc hs S a X hN hF hd=>by
 cases code<;>simp only[Cv,reduceCtorEq,Option.some.injEq] at hc
 case seq c d =>
   split at hc
   · rename_i x' y' hx hy
     cases hc;refine wpIn_seq (wpIn_mono (h c hx S a X hN hF hd) fun e a' w' hh=>?_);obtain⟨S2,env2,H2,z,s2,X2,rfl,hN2,hF2,hd2,rfl,hq⟩:=hh;cases z with
     | normal=>exact hq d hy S2 a' X2 hN2 hF2 hd2
     | exit id=>exact⟨S2,env2,H2,.exit id,s2,X2,rfl,hN2,hF2,hd2,rfl,hq⟩
     | ret=>exact⟨S2,env2,H2,.ret,s2,X2,rfl,hN2,hF2,hd2,rfl,hq⟩
   · cases hc
 case region=>exact absurd hc B9
 case cond=>split at hc<;>cases hc
 case block=>obtain⟨_,_,h⟩:=Option.map_eq_some_iff.1 hc;cases h
 case loop=>obtain⟨_,_,h⟩:=Option.map_eq_some_iff.1 hc;cases h
 case rangeFunc=>split at hc<;>cases hc
 case scope d=>exact absurd rfl (hs d)
theorem zjm {c:AArg} {x y:AC} {q:Bool} (hc:c.eval env=.bool q) (ht:q=true→TI I n x s env H Q) (hf:q=false→TI I n y s env H Q):TI I n (.cond c x y) s env H Q:=Si fun code hcc hs S a X hN hF hd=>by
 cases code<;>simp only[Cv,reduceCtorEq,Option.some.injEq] at hcc
 case cond z p q' =>
   split at hcc
   · rename_i z' p2 q2 hz hp hq
     cases hcc;have hv:=Ry hF hz;rw[hc] at hv;exact wpIn_cond_split (t:=q) hv (fun hbb=>ht hbb p hp S a X hN hF hd) (fun hbb=>hf hbb q' hq S a X hN hF hd)
   · cases hcc
 case region=>exact absurd hcc B9
 case seq=>split at hcc<;>cases hcc
 case block=>obtain⟨_,_,h⟩:=Option.map_eq_some_iff.1 hcc;cases h
 case loop=>obtain⟨_,_,h⟩:=Option.map_eq_some_iff.1 hcc;cases h
 case rangeFunc=>split at hcc<;>cases hcc
 case scope d=>exact absurd rfl (hs d)
def Ex.inBlockI (id:Nat) (Q:Option Nat→Ex→Env→Ac→Prop):Option Nat→Ex→Env→Ac→Prop
 | s,.exit k,env,H=>if k=id then Q s .normal env H else Q s (.exit k) env H
 | s,x,env,H=>Q s x env H
theorem Ke {id:Nat} {c:AC} (h:TI I n c s env H (Ex.inBlockI id Q)):TI I n (.block id c) s env H Q:=Si fun code hc hs S a X hN hF hd=>by
 cases code<;>simp only[Cv,reduceCtorEq,Option.some.injEq] at hc
 case block k d =>
   obtain⟨x,hx,hh⟩:=Option.map_eq_some_iff.1 hc;cases hh;refine wpIn_block (wpIn_mono (h d hx S a X hN hF hd) fun e a' w' hh=>?_);obtain⟨S2,env2,H2,z,s2,X2,h1,hN2,hF2,hd2,rfl,hq⟩:=hh;cases z with
   | normal=>exact⟨S2,env2,H2,.normal,s2,X2,h1,hN2,hF2,hd2,rfl,hq⟩
   | exit j =>
     simp only[Ex.up,Exit.inBlock];simp only[Ex.inBlockI] at hq;split
     · rename_i hj;rw[if_pos hj] at hq;exact⟨S2,env2,H2,.normal,s2,X2,h1,hN2,hF2,hd2,rfl,hq⟩
     · rename_i hj;rw[if_neg hj] at hq;exact⟨S2,env2,H2,.exit j,s2,X2,h1,hN2,hF2,hd2,rfl,hq⟩
   | ret=>exact⟨S2,env2,H2,.ret,s2,X2,h1,hN2,hF2,hd2,rfl,hq⟩
 case region=>exact absurd hc B9
 case seq=>split at hc<;>cases hc
 case cond=>split at hc<;>cases hc
 case loop=>obtain⟨_,_,h⟩:=Option.map_eq_some_iff.1 hc;cases h
 case rangeFunc=>split at hc<;>cases hc
 case scope d=>exact absurd rfl (hs d)
theorem z85 {σ:Type} (Inv:σ→Option Nat→Env→Ac→Prop) (μ:σ→Nat) {c:AC} (s0:σ) (h0:Inv s0 s env H)
   (round:∀ t s env H,Inv t s env H→TI I n c s env H (Ex.thenI (fun s' env' H'=>∃ t',Inv t' s' env' H'∧μ t'<μ t) Q)):TI I n (.loop c) s env H Q:=Si fun code hc hs S a X hN hF hd=>by
 cases code<;>simp only[Cv,reduceCtorEq,Option.some.injEq] at hc
 case loop d =>
   obtain⟨x,hx,hh⟩:=Option.map_eq_some_iff.1 hc;cases hh;refine wpIn_loop_ghost (fun k a w=>∃ S' t s env H X,S'.w=w∧I.Now s X S' H∧FRel S' n env a∧a.defers=[]∧Inv t s env H∧μ t=k) (μ s0) ⟨S,s0,s,env,H,X,rfl,hN,hF,hd,h0,rfl⟩ ?_;rintro k a w ⟨S1,t,s1,env1,H1,X1,rfl,hN1,hF1,hd1,hI,rfl⟩;refine wpIn_mono (round t s1 env1 H1 hI d hx S1 a X1 hN1 hF1 hd1) fun e a' w' hh=>?_;obtain⟨S2,env2,H2,z,s2,X2,rfl,hN2,hF2,hd2,rfl,hq⟩:=hh;cases z with
   | normal =>
     obtain⟨t',h1,h2⟩:=hq;exact⟨μ t',h2,S2,t',s2,env2,H2,X2,rfl,hN2,hF2,hd2,h1,rfl⟩
   | exit id=>exact⟨S2,env2,H2,.exit id,s2,X2,rfl,hN2,hF2,hd2,rfl,hq⟩
   | ret=>exact⟨S2,env2,H2,.ret,s2,X2,rfl,hN2,hF2,hd2,rfl,hq⟩
 case region=>exact absurd hc B9
 case seq=>split at hc<;>cases hc
 case cond=>split at hc<;>cases hc
 case block=>obtain⟨_,_,h⟩:=Option.map_eq_some_iff.1 hc;cases h
 case rangeFunc=>split at hc<;>cases hc
 case scope d=>exact absurd rfl (hs d)
theorem znq {ops:List AOp} (h:runK I.P ops env H fun env' H'=>Q s .normal env' H'):TI I n (.reg ops) s env H Q:=Si fun code hc hs S a X hN hF hd=>by
 cases code<;>simp only[Cv,reduceCtorEq,Option.some.injEq] at hc
 case region id l draw =>
   split at hc
   · rename_i r hr
     obtain⟨hd',rfl⟩:=Jl hc;subst hd';refine wpIn_region ?_;have:=Gc (ops:=l) (rd:=none) (m:=I.m+1) (Q:=Kd I n Q) [] l.toList ops 0 (by simp) hr hN.rel hF h (fun S' H' env' a' e hS' hF' hdd hK=>⟨S',env',H',.normal,s,X,rfl,hN.on e hS',hF',hdd.trans hd,rfl,hK⟩);rw[List.range_eq_range'];simpa using this
   · cases hc
 case seq=>split at hc<;>cases hc
 case cond=>split at hc<;>cases hc
 case block=>obtain⟨_,_,h⟩:=Option.map_eq_some_iff.1 hc;cases h
 case loop=>obtain⟨_,_,h⟩:=Option.map_eq_some_iff.1 hc;cases h
 case rangeFunc=>split at hc<;>cases hc
 case scope d=>exact absurd rfl (hs d)
theorem Qi {α β:Type} {f:α→Option β}:∀ (p:List β) {l:List α} {y:β} {q:List β},l.mapM f=some (p++y::q)→∃ l1 o l2,l=l1++o::l2∧l1.mapM f=some p∧f o=some y∧l2.mapM f=some q
 | [],l,y,q,h=>by
   cases l with
   | nil=>simp at h
   | cons o l =>
     rw[List.mapM_cons] at h;simp only[Option.bind_eq_bind,Option.bind_eq_some_iff,Option.pure_def,Option.some.injEq,List.nil_append,List.cons.injEq] at h;obtain⟨y',hy,r,hr,rfl,rfl⟩:=h;exact⟨[],o,l,rfl,rfl,hy,hr⟩
 | z::p,l,y,q,h=>by
   cases l with
   | nil=>simp at h
   | cons o l =>
     rw[List.mapM_cons] at h;simp only[Option.bind_eq_bind,Option.bind_eq_some_iff,Option.pure_def,Option.some.injEq,List.cons_append,List.cons.injEq] at h;obtain⟨z',hz,r,hr,rfl,rfl⟩:=h;obtain⟨l1,o',l2,rfl,h1,h2,h3⟩:=Qi p hr;exact⟨o::l1,o',l2,rfl,by rw[List.mapM_cons,hz,h1];rfl,h2,h3⟩
theorem z42 {P:Program} {op:Op} (h:Tm P op=some .call):∃ g args argTypes,op=.call { callee:=.value g,args,argTypes }:=by
 replace h:=Gi h (by simp);cases op
 case call c =>
   obtain⟨callee,args,argTypes⟩:=c;cases callee<;>simp only[C4,C9,reduceCtorEq] at h
   case value g=>exact⟨g,args,argTypes,rfl⟩
   case builtin b =>
     repeat' split at h
     all_goals first
       | (cases h;done)
       | (simp at h;done)
 all_goals simp only[C4,reduceCtorEq] at h
 all_goals repeat' split at h
 all_goals first
   | contradiction
   | (cases h;done)
   | (obtain⟨⟨_,_⟩,_,h⟩:=Option.map_eq_some_iff.1 h;cases h;done)
   | (obtain⟨_,_,h⟩:=Option.map_eq_some_iff.1 h;cases h;done)
   | (simp at h;done)
def znr (x:AV):Prop:=∀ S v,VRel S x v→v=valOf x
theorem Qj {S:MS}:∀ {xs:List AV} {vs:List Value},(∀ x∈xs,znr x)→Ad S xs vs→vs=xs.map valOf
 | [],vs,_,h=>h
 | x::xs,vs,hf,⟨v,r,hv,h1,h2⟩=>by
   rw[hv,hf x (by simp) S v h1,Qj (fun y hy=>hf y (by simp[hy])) h2];rfl
theorem zd2 {pre post:List AOp} {y:AOp} {k:Nat} (hk:y.k=.call) (hg:y.guard=none)
   (h:runK I.P pre env H fun env1 H1=>∃ row,y.vals env1=.yld I.l::row∧(∀ x∈row,znr x)∧I.rows[k]? = some row ∧
     runK I.P post (env1.put y.dst (.bool true)) H1 (fun env2 H2=>Q (some (k+1)) .normal env2 H2)∧runK I.P post (env1.put y.dst (.bool false)) H1 (fun env2 H2=>Q none .normal env2 H2)) :
   TI I n (.reg (pre++y::post)) (some k) env H Q:=Si fun code hc hs S a X hN hF hd=>by
 cases code<;>simp only[Cv,reduceCtorEq,Option.some.injEq] at hc
 case region id l draw =>
   split at hc
   · rename_i r hr
     obtain⟨hd',hrr⟩:=Jl hc;subst hrr;subst hd';refine wpIn_region ?_;obtain⟨l1,o,l2,hl,h1,h2,h3⟩:=Qi pre hr;have hsz:l.size=l1.length+(l2.length+1):=by rw[←Array.length_toList,hl];simp
     rw[List.range_eq_range',hsz,List.range'_append_1 |>.symm];have hat:∀ j:Nat,l[j]? = (l1++o::l2)[j]? := fun j=>by rw[←hl,Array.getElem?_toList]
     refine Gc (ops:=l) (rd:=none) (m:=I.m+1) (Q:=Kd I n Q) _ l1 pre 0 (fun j hj=>by rw[Nat.zero_add,hat,List.getElem?_append_left hj]) h1 hN.rel hF h (fun S1 H1 env1 a1 e1 hS1 hF1 hd1 hK=>?_);obtain⟨row,hv,hfx,hrow,ht,hff⟩:=hK;have hN1:=hN.on e1 hS1;have ho:l[l1.length]? = some o:=by rw[hat];simp
     rw[show List.range' (0+l1.length) (l2.length+1)=l1.length::List.range' (l1.length+1) l2.length from by rw[Nat.zero_add];rfl];simp only[wpOpsIn,ho];obtain⟨c1,c2,c3,c4,c5⟩:=A9 h2
     have hw:Region.wanted o (yielded l a1.tmps)=true:=by
       rcases c5 with⟨g1,_⟩|⟨j,want,d,g1,g2,_⟩
       · simp[Region.wanted,g1]
       · rw[hg] at g2;cases g2
     rw[hw];simp only[if_true];have hargs:=If hF1 c2;rw[show y.args.map (·.eval env1)=y.vals env1 from rfl,hv] at hargs;rw[hk] at c1;obtain⟨g,args,argTypes,hop⟩:=z42 c1;obtain⟨fn,tm,asg,bd,hy,hR⟩:=I.round k row _ _ hrow hN1.st
     have hrun:(o.semAt (fen none).round a1.eval).run I.P S1.w=.ok (.round I.l fn tm asg bd) S1.w:=by
       rw[show (fen none).round=none from rfl,Oper.semAt_none];rw[hop] at hargs;have hargs':Ad S1 (.yld I.l::row) (a1.eval g::args.toList.map a1.eval):=by simpa [Op.operands,Call.operands] using hargs
       obtain⟨v,vs,hvv,hv1,hv2⟩:=hargs';cases hvv;have hvs:=Qj hfx hv2;have hv1':a1.eval g=.func (.yield I.l) #[] #[]:=hv1;have e:args.map a1.eval=encI row:=by apply Array.ext';simp[hvs]
       have hex:execOp a1.eval o=(do let d ←Deferred.ofValue (a1.eval g) (args.map a1.eval);invoke d.target d.args:Sem Next):=by
         cases o;simp only at hop;subst hop;rfl
       rw[hex,e,hv1'];simp only[Deferred.ofValue,Sem.run_bind,Sem.run_pure,Result.andThen_ok,invoke];simpa using hy
     refine⟨fun _ _=>trivial,?_⟩;rw[hrun,Oper.uponIn_round];refine⟨fun h=>(by cases h),?_⟩;refine RoundIn.mono (F:=fen none) (n:=I.m) hR fun e W' hh=>?_;obtain⟨hsz',ho',hcase⟩:=hh;have hf0:=(I.fact k _ _ (.inl hN1.st)).1;have hdef:a1.defers=[]:=hd1.trans hd
     have hgo:∀ (bv:Bool) (s':Option Nat),I.at_ s' (fun b=>b<S1.w.heap.size∧¬X b∧¬I.S0.im b) W'→(∀ b,I.S0.im b→W'.heap[b]? = I.S0.w.heap[b]?) →
         runK I.P post (env1.put y.dst (.bool bv)) H1 (fun env2 H2=>Q s' .normal env2 H2)→wpOpsIn (fen none) (I.m+1) I.P l (Kd I n Q) (List.range' (l1.length+1) l2.length) (a1.put o.dst (.bool bv)) W':=fun bv s' hst him hrk=>by
       obtain⟨S2,hw2,hN2,ev2⟩:=hN1.round hsz' ho' (fun b hb=>(him b hb).trans ((hf0 b hb).2).symm) hst;have hF2:FRel S2 n env1 a1:=⟨hF1.size,by rw[hdef];exact Marks.nil hN2.base,fun i hi=>VRel.moni ev2 _ (hF1.val i hi)⟩;have hF3:=hF2.put (dst:=y.dst) (by rw[c3];exact c4) (x:=.bool bv) (v:=.bool bv) rfl;rw[c3] at hF3;rw[c3] at hrk;rw[←hw2]
       have:=Gc (ops:=l) (rd:=none) (m:=I.m+1) (Q:=Kd I n Q) [] l2 post (l1.length+1) (fun j hj=>by rw[hat,List.getElem?_append_right (by omega),show l1.length+1+j-l1.length=j+1 from by omega];rfl) h3 hN2.rel hF3 hrk
         (fun S' H' env' a' e hS' hF' hdd hK=>⟨S',env',H',.normal,s',_,rfl,hN2.on e hS',hF',hdd.trans ((put_defers _ _ _).trans hdef),rfl,hK⟩)
       simpa using this
     rcases hcase with⟨rfl,hj⟩|⟨rfl,hj⟩
     · exact hgo true (some (k+1)) hj (fun b hb=>((I.fact _ _ _ (.inl hj)).1 b hb).2) ht
     · exact hgo false none ⟨_,hj⟩ (fun b hb=>((I.fact _ _ _ (.inr hj)).1 b hb).2) hff
   · cases hc
 case seq=>split at hc<;>cases hc
 case cond=>split at hc<;>cases hc
 case block=>obtain⟨_,_,h⟩:=Option.map_eq_some_iff.1 hc;cases h
 case loop=>obtain⟨_,_,h⟩:=Option.map_eq_some_iff.1 hc;cases h
 case rangeFunc=>split at hc<;>cases hc
 case scope d=>exact absurd rfl (hs d)
theorem zjn {P:Program} {gf:Nat} {caps:List AV} {rows:List (List AV)} {fn:AFn} (hf:Ax P gf (caps.length+1)=some fn)
   (h:∀ I:Itr,I.P=P→I.rows=rows→TI I fn.n fn.body (some 0) (entry (.yld I.l::caps)) Ac.nil (fun s x env H=>Ret P fn.res (fun _ _=>True) x env H∧(s=some rows.length∨s=none))):Zy P gf caps rows:=by
 refine⟨enters_of hf,fun m l S0 lb J Jx hS0 hx0 cJ cx hj fact round=>?_⟩;obtain⟨F,c,hF,hb,hn,hc,hr,hnp,_⟩:=Jm hf;obtain⟨S,hSd⟩:∃ S:MS,S={ S0 with base:=S0.w.heap.size,keep:=fun b=>b<S0.w.heap.size∧¬S0.im b }:=⟨_,rfl⟩;have ev0:Evi S0 S:=by subst hSd;exact Evi.of (fun _ _=>rfl) rfl rfl rfl rfl rfl rfl
 have hw0:S.w=S0.w:=by rw[hSd]
 have hS:SRel S Ac.nil:=by
   subst hSd;exact⟨hS0.n,fun g hg=>absurd hg (Nat.not_lt_zero _),fun g _ hg=>absurd hg (Nat.not_lt_zero _),fun b hb=>hb.elim (fun h=>hS0.im b (.inl h)) And.left⟩
 have hx:Ad S caps lb:=Ad.moni ev0 _ hx0;have hlen:=hx.length
 let I:Itr:=⟨P,l,m,rows,S0,J,Jx,cJ,cx,fact,round⟩
 have hN:I.Now (some 0) (fun b=>b<S0.w.heap.size∧¬S0.im b) S Ac.nil:=by
   refine⟨hS,by rw[hSd];exact Nat.le_refl _,fun b hb=>by rw[hSd];exact hb,fun b hb=>by rw[hSd];exact hb,fun b hb=>.inl (by rw[hSd] at hb;exact hb),?_⟩
   have e:(fun b=>b<S.w.heap.size∧¬(b<S0.w.heap.size∧¬S0.im b)∧¬I.S0.im b)=fun _=>False:=by
     funext b;refine propext ⟨fun⟨h1,h2,h3⟩=>h2 ⟨by rw[hw0] at h1;exact h1,h3⟩,False.elim⟩
   rw[e,hw0];exact hj
 refine callsIn_of_wp_marks (F:=Fence.wide) (n:=m+1) hF hb trivial ?_
 have hfr:FRel S fn.n (entry (.yld l::caps)) { tmps:=(#[Value.func (.yield l) #[] #[]]++lb.toArray)++Array.replicate (F.ntmps-(#[Value.func (.yield l) #[] #[]]++lb.toArray).size) undef,defers:=[] }:=by
   have hx':Ad S (.yld l::caps) (.func (.yield l) #[] #[]::lb):=⟨_,_,rfl,rfl,hx⟩;refine⟨by simp;omega,Marks.nil hN.base,fun i hi=>?_⟩;by_cases hlt:i<(AV.yld l::caps).length
   · obtain⟨v,hv,hr⟩:=hx'.get (List.getElem?_eq_getElem hlt)
     have e1:entry (.yld l::caps) i=(AV.yld l::caps)[i]:=by simp[entry,List.getD,List.getElem?_eq_getElem hlt]
     have e2:((#[Value.func (.yield l) #[] #[]]++lb.toArray)++Array.replicate (F.ntmps-(#[Value.func (.yield l) #[] #[]]++lb.toArray).size) undef).getD i undef=v:=by
       have hsz:i<(#[Value.func (.yield l) #[] #[]]++lb.toArray).size:=by simp at hlt ⊢;omega
       rw[Array.getD_eq_getD_getElem?,Array.getElem?_append_left hsz];have:(#[Value.func (.yield l) #[] #[]]++lb.toArray)[i]? = (Value.func (.yield l) #[] #[]::lb)[i]? := by simp
       rw[this,hv];rfl
     rw[e1,e2];exact hr
   · have e1:entry (.yld l::caps) i=.any:=by simp[entry,List.getD,List.getElem?_eq_none (Nat.le_of_not_lt hlt)]
     rw[e1];trivial
 rw[←hw0];refine wpIn_mono (h I rfl rfl c hc S _ _ hN hfr rfl) fun e a w' hh=>?_;obtain⟨S2,env2,H2,z,s2,X2,rfl,hN2,hF2,hd2,rfl,⟨hq,hres⟩,hst⟩:=hh
 have fin:LeavesInM Fence.wide (m+1) P F a.tmps (fun e W'=>(∃ v,e=.returned v)∧((∃ O,J rows.length O W')∨∃ k O,Jx k O W')) a.defers .returning S2.w:=by
   rw[hd2];refine Hh [] S2.w List.nodup_nil (fun D hd=>by cases hd) ?_;obtain⟨vs,ys,h1,h2,h3⟩:=Ih hN2.rel hF2 hr hres;refine⟨if h:vs.toArray.size=1 then vs.toArray[0] else .tuple vs.toArray,?_,⟨_,rfl⟩,?_⟩
   · have e:results F a.tmps=(do let vs ←F.results.mapM (P6 a.tmps);pure (if h:vs.size=1 then vs[0] else .tuple vs)):=by
       unfold results;congr
     rw[e,Array.mapM_eq_mapM_toList];show Sem.run P _ S2.w=_;simp only[Sem.run_bind,Sem.run_map,h1,Result.andThen_ok,Sem.run_pure];rfl
   · have:=hN2.st
     rcases hst with rfl|rfl
     · exact .inl ⟨_,this⟩
     · obtain⟨k,hk⟩:=this;exact .inr ⟨k,_,hk⟩
 cases z with
 | normal=>exact fin
 | exit id=>exact hq.elim
 | ret=>exact fin
end
end Go.Proofs.Ytbcjoeadpjfcfaa.Abs
namespace Go.Proofs.Ytbcjoeadpjfcfaa
open Abs
def domL (s:Int):List Span:=if s=1 then [⟨0,255⟩] else if s=2 then [⟨0,55295⟩,⟨57344,1114111⟩] else []
theorem Io (a:Int):PC Try.prog 47 [.int .i64 a] (Cd ⟨a,0,21,0⟩):=by
 refine Bf U2 ?_;unfold Lt;(with_reducible repeat' (first|(simp(disch:=omega)only[push_cast,↓zz,seval])|refine And.intro ?_ ?_|(first|refine Ab ?_ ?_|refine Aa ?_ ?_)<;>intro hc<;>(try simp only[push_cast] at hc)|omega|intro _))
def Ej (p:Part):Bool:=decide (0≤p.drop∧p.drop<21∧1≤p.take∧p.take≤21∧0≤p.up∧p.up<21∧(p.up=0∨p.take≤6))
theorem Gd (p:Part):PC Try.prog 58 [Cd p] (.bool (Ej p)):=by
 refine Bf Xn ?_;unfold Nq;(with_reducible repeat' (first|(simp(disch:=omega)only[push_cast,↓zz,seval])|refine And.intro ?_ ?_|(first|refine Ab ?_ ?_|refine Aa ?_ ?_)<;>intro hc<;>(try simp only[push_cast] at hc)|omega|intro _))
 all_goals (unfold Ej;first|(refine zf7 ?_;omega)|(refine zf8 ?_;omega)|(refine W8 ?_;omega))
def Dx (p:Part) (n:Int):Bool:=decide (0≤p.at_∧p.at_<n)&&Ej p
theorem Ip (p:Part) (n:Int):PC Try.prog 46 [Cd p,.int .i64 n] (.bool (Dx p n)):=by
 refine Bf U1 ?_;unfold Ls;(with_reducible repeat' (first|(simp(disch:=omega)only[push_cast,↓zz,seval])|refine And.intro ?_ ?_|(first|refine Ab ?_ ?_|refine Aa ?_ ?_)<;>intro hc<;>(try simp only[push_cast] at hc)|(have q_:=Gd p;(first|refine eK q_ ?_|refine eQ q_ ?_|refine eG q_ ?_);clear q_)|(have q_:=Gd p;(first|refine cK q_ ?_|refine cQ q_ ?_|refine cG q_ ?_);clear q_;(simp(disch:=omega)only[push_cast,↓zz,seval]);(fail_if_success change False))|omega|intro _))
 all_goals (simp[Dx, *]<;>omega)
def valP (p:Part) (x:Int):Int:=x / 2 ^ p.drop.toNat % 2 ^ p.take.toNat * 2 ^ p.up.toNat
def valB (p:Part) (x:Int):Bool:=Ej p&&decide (0≤x∧x≤2097151)
def val1 (p:Part) (x:Int):Int:=if valB p x then valP p x else 0
abbrev valV (p:Part) (x:Int):AV:=.tup [.int .i64 (val1 p x),.bool (valB p x)]
theorem Kf {p:Part}:Ej p=true↔(0≤p.drop∧p.drop<21∧1≤p.take∧p.take≤21∧0≤p.up∧p.up<21∧(p.up=0∨p.take≤6)):=by simp[Ej]
theorem Mf (d:Nat) (h:d≤21):(1:Int)≤2 ^ d∧(2:Int) ^ d≤2097152 :=
 ⟨Int.pow_pos (by decide),by have:=Nat.pow_le_pow_right (n:=2) (by decide) h;have e:((2 ^ d:Nat):Int)=2 ^ d:=(by simp);rw[←e];omega⟩
theorem zd3 {p:Part} {x:Int} (hb:Ej p=true) (hx:0≤x∧x≤2097151) :
   IntKind.i64.wrap (I0 .and .i64 (x.fdiv (2 ^ min p.drop.toNat IntKind.i64.bits)) (IntKind.i64.wrap (IntKind.i64.wrap (1 * 2 ^ min p.take.toNat IntKind.i64.bits)-1)) * 2 ^ min p.up.toNat IntKind.i64.bits)=valP p x:=by
 rw[Kf] at hb;have e1:min p.drop.toNat IntKind.i64.bits=p.drop.toNat:=Nat.min_eq_left (by show _≤64;omega);have e2:min p.take.toNat IntKind.i64.bits=p.take.toNat:=Nat.min_eq_left (by show _≤64;omega);have e3:min p.up.toNat IntKind.i64.bits=p.up.toNat:=Nat.min_eq_left (by show _≤64;omega);rw[e1,e2,e3];have hd:=Mf p.drop.toNat (by omega);have ht:=Mf p.take.toNat (by omega);have hu:=Mf p.up.toNat (by omega);rw[Int.one_mul,IntWalk.i64_in (2 ^ p.take.toNat) (by omega),IntWalk.i64_in (2 ^ p.take.toNat-1) (by omega),z6b _ _ (by omega)];have q0:0≤x / 2 ^ p.drop.toNat:=Int.ediv_nonneg hx.1 (by omega);have q1:x / 2 ^ p.drop.toNat≤x:=Int.ediv_le_self _ hx.1;have m0:=Int.emod_nonneg (x / 2 ^ p.drop.toNat) (b:=2 ^ p.take.toNat) (by omega);have m1:=Int.emod_lt_of_pos (x / 2 ^ p.drop.toNat) (b:=2 ^ p.take.toNat) (by omega);rw[z6c p.take.toNat ⟨q0,by show _<(2:Int) ^ 64;omega⟩ (by show _≤64;omega) (IntWalk.i64_in _ (by omega))];refine IntWalk.i64_in _ ?_;have:x / 2 ^ p.drop.toNat % 2 ^ p.take.toNat * 2 ^ p.up.toNat≤2097152 * 2097152:=Int.mul_le_mul (by omega) (by omega) (by omega) (by omega);have:0≤x / 2 ^ p.drop.toNat % 2 ^ p.take.toNat * 2 ^ p.up.toNat:=Int.mul_nonneg (by omega) (by omega);omega
theorem Sj {p:Part} {x:Int} (hb:Ej p=true) (hx:0≤x∧x≤2097151):valB p x=true∧val1 p x=valP p x:=by
 have:valB p x=true:=by simp only[valB,hb,Bool.true_and,decide_eq_true_eq];exact hx
 exact⟨this,by rw[val1,this];rfl⟩
theorem zns {p:Part} {x:Int} (h:Ej p=false∨x<0∨2097151<x):valB p x=false∧val1 p x=0:=by
 have:valB p x=false:=by
   simp only[valB,Bool.and_eq_false_iff,decide_eq_false_iff_not];rcases h with h|h
   · exact .inl h
   · exact .inr (by omega)
 exact⟨this,by rw[val1,this];rfl⟩
theorem z86 {p:Part} {x:Int} (h:Ej p=false∨x<0∨2097151<x):valV p x=.tup [.int .i64 0,.bool false]:=by
 obtain⟨h1,h2⟩:=zns h;simp only[valV,h1,h2]
theorem zjo {p:Part} {x:Int} (hb:Ej p=true) (hx:0≤x∧x≤2097151):valV p x=.tup [.int .i64 (valP p x),.bool true]:=by
 obtain⟨h1,h2⟩:=Sj hb hx;simp only[valV,h1,h2]
theorem z43 (p:Part) (x:Int):PC Try.prog 80 [Cd p,.int .i64 x] (valV p x):=by
 refine Bf U8 ?_;unfold L1;(with_reducible repeat' (first|(simp(disch:=omega)only[push_cast,↓zz,seval])|refine And.intro ?_ ?_|(first|refine Ab ?_ ?_|refine Aa ?_ ?_)<;>intro hc<;>(try simp only[push_cast] at hc)|(have q_:=Gd p;(first|refine eK q_ ?_|refine eQ q_ ?_|refine eG q_ ?_);clear q_)|(have q_:=Gd p;(first|refine cK q_ ?_|refine cQ q_ ?_|refine cG q_ ?_);clear q_;(simp(disch:=omega)only[push_cast,↓zz,seval]);(fail_if_success change False))|omega|intro _))
 all_goals first|(have hb:=Kf.1 ‹Ej p=true›;omega)|(rw[z86 (.inl ‹_›)];(repeat' (first|(simp(disch:=omega)only[push_cast,↓zz,seval,Cf])|omega|(with_reducible refine And.intro ?_ ?_)));done)|(rw[z86 (.inr (by omega))];(repeat' (first|(simp(disch:=omega)only[push_cast,↓zz,seval,Cf])|omega|(with_reducible refine And.intro ?_ ?_)));done)|(rw[zjo ‹_› (by omega)];(repeat' (first|(simp(disch:=omega)only[push_cast,↓zz,seval,Cf])|omega|(with_reducible refine And.intro ?_ ?_)));exact zd3 ‹_› (by omega))
theorem Dn (s:Int):PC Try.prog 36 [.int .i64 s] (Ah (domL s)):=by
 refine Bf Sb ?_;unfold J9;(with_reducible repeat' (first|(simp(disch:=omega)only[push_cast,↓zz,seval])|refine And.intro ?_ ?_|(first|refine Ab ?_ ?_|refine Aa ?_ ?_)<;>intro hc<;>(try simp only[push_cast] at hc)|omega|intro _))
 all_goals (simp only[domL, *];rfl)
abbrev Term.outer (t:Term):Part:=⟨0,t.drop,t.take,t.up⟩
theorem Ge (t:Term):PC Try.prog 52 [B0 t] (Cd t.outer):=by
 refine Bf U5 ?_;unfold Lx;(with_reducible repeat' (first|(simp(disch:=omega)only[push_cast,↓zz,seval])|refine And.intro ?_ ?_|(first|refine Ab ?_ ?_|refine Aa ?_ ?_)<;>intro hc<;>(try simp only[push_cast] at hc)|omega|intro _))
def Z3 (t:Term):Bool:=decide (t.base=0∧t.drop=0∧t.take=21∧t.up=0)
def Hq (p:Part):Bool:=decide (p.drop=0∧p.take=21∧p.up=0)
theorem Qk (t:Term):PC Try.prog 48 [B0 t] (.bool (Z3 t)):=by
 refine Bf U3 ?_;unfold Lu;(with_reducible repeat' (first|(simp(disch:=omega)only[push_cast,↓zz,seval])|refine And.intro ?_ ?_|(first|refine Ab ?_ ?_|refine Aa ?_ ?_)<;>intro hc<;>(try simp only[push_cast] at hc)|(have q_:=Ge t;(first|refine eK q_ ?_|refine eQ q_ ?_|refine eG q_ ?_);clear q_)|(have q_:=Io 0;(first|refine eK q_ ?_|refine eQ q_ ?_|refine eG q_ ?_);clear q_)|(have q_:=Ge t;(first|refine cK q_ ?_|refine cQ q_ ?_|refine cG q_ ?_);clear q_;(simp(disch:=omega)only[push_cast,↓zz,seval]);(fail_if_success change False))|(have q_:=Io 0;(first|refine cK q_ ?_|refine cQ q_ ?_|refine cG q_ ?_);clear q_;(simp(disch:=omega)only[push_cast,↓zz,seval]);(fail_if_success change False))|omega|intro _))
 all_goals (simp[Z3,Hq,Term.outer, *])
def B4 (x:Int):Bool:=decide (-1114111≤x∧x≤1114111)
theorem Iq (x:Int):PC Try.prog 56 [.int .i64 x] (.bool (B4 x)):=by
 refine Bf U6 ?_;unfold Ly;(with_reducible repeat' (first|(simp(disch:=omega)only[push_cast,↓zz,seval])|refine And.intro ?_ ?_|(first|refine Ab ?_ ?_|refine Aa ?_ ?_)<;>intro hc<;>(try simp only[push_cast] at hc)|omega|intro _))
 all_goals (unfold B4;first|(refine zf7 ?_;omega)|(refine zf8 ?_;omega)|(refine W8 ?_;omega))
def L3:List Part→Bool
 | p::q::l=>decide (p.up<q.up)&&L3 (q::l)
 | _=>true
theorem Sk:∀ {l:List Part} {i:Nat},i+1<l.length→L3 (l.drop i)=(decide ((nth l i).up<(nth l (i+1)).up)&&L3 (l.drop (i+1)))
 | [],i,h=>by simp at h
 | [p],i,h=>by simp at h
 | p::q::l,0,_=>rfl
 | p::q::l,i+1,h=>by
   exact Sk (l:=q::l) (i:=i) (by simpa using h)
theorem z87 {l:List Part} {i:Nat} (h:l.length≤i+1):L3 (l.drop i)=true:=by
 match hl:l.drop i with
 | []=>rfl
 | [p]=>rfl
 | p::q::r=>have:=congrArg List.length hl;simp at this;omega
theorem Ny (l:List Part) (hl:l.length<1000000000000):PC Try.prog 57 [A8 l] (.bool (L3 l&&decide (l.length≤4))):=by
 refine Bf Sd ?_;unfold Kb;(with_reducible repeat' (first|(simp(disch:=omega)only[push_cast,↓zz,seval])|refine And.intro ?_ ?_|(first|refine Ab ?_ ?_|refine Aa ?_ ?_)<;>intro hc<;>(try simp only[push_cast] at hc)|omega|intro _));refine A5 (Be (fun (i:Nat)=>i≤l.length∧L3 l=L3 (l.drop (i-1))) (fun i=>l.length-i) (fun i=>[(0,A8 l),(5,A8 l),(6,.int .i64 l.length),(7,.int .i64 i)]) (fun _=>[]) (fun _ _=>[]) 0 (by simp) ?_ ?_)
 · (with_reducible repeat' (first|(simp(disch:=omega)only[push_cast,↓zz,seval])|refine And.intro ?_ ?_|(first|refine Ab ?_ ?_|refine Aa ?_ ?_)<;>intro hc<;>(try simp only[push_cast] at hc)|omega|intro _))
 rintro i ⟨hi,hr⟩;refine W_T ?_;(with_reducible repeat' (first|(simp(disch:=omega)only[push_cast,↓zz,seval])|refine And.intro ?_ ?_|(first|refine Ab ?_ ?_|refine Aa ?_ ?_)<;>intro hc<;>(try simp only[push_cast] at hc)|omega|intro _))
 · rename_i h1 h2
   rw[hr,Sk (i:=i-1) (by omega),show i-1+1=i by omega];have:¬(nth l (i-1)).up<(nth l i).up:=by omega
   simp[this]
 · refine⟨i+1,?_⟩
   (with_reducible repeat' (first|(simp(disch:=omega)only[push_cast,↓zz,seval])|refine And.intro ?_ ?_|(first|refine Ab ?_ ?_|refine Aa ?_ ?_)<;>intro hc<;>(try simp only[push_cast] at hc)|omega|intro _));rw[hr,Sk (i:=i-1) (by omega),show i-1+1=i by omega];have:(nth l (i-1)).up<(nth l i).up:=by omega
   simp[this]
 · refine⟨i+1,?_⟩
   (with_reducible repeat' (first|(simp(disch:=omega)only[push_cast,↓zz,seval])|refine And.intro ?_ ?_|(first|refine Ab ?_ ?_|refine Aa ?_ ?_)<;>intro hc<;>(try simp only[push_cast] at hc)|omega|intro _));obtain rfl:i=0:=by omega
   exact hr
 · rw[hr,z87 (i:=i-1) (by omega),Bool.true_and]
   exact W8 (by omega)
def Cz (t:Term):Bool:=B4 t.base&&B4 t.sum&&Ej t.outer&&(L3 t.parts&&decide (t.parts.length≤4))
theorem Xv (t:Term):Dx t.outer 1=Ej t.outer:=by simp[Dx]
theorem Nz (t:Term):PC Try.prog 46 [Cd t.outer,.int .i64 1] (.bool (Ej t.outer)):=by rw[←Xv];exact Ip t.outer 1
theorem Hr (t:Term) (hl:t.parts.length<1000000000000):PC Try.prog 45 [B0 t] (.bool (Cz t)):=by
 refine Bf Pj ?_;unfold I9;(with_reducible repeat' (first|(simp(disch:=omega)only[push_cast,↓zz,seval])|refine And.intro ?_ ?_|(first|refine Ab ?_ ?_|refine Aa ?_ ?_)<;>intro hc<;>(try simp only[push_cast] at hc)|(have q_:=Iq t.base;(first|refine eK q_ ?_|refine eQ q_ ?_|refine eG q_ ?_);clear q_)|(have q_:=Iq t.sum;(first|refine eK q_ ?_|refine eQ q_ ?_|refine eG q_ ?_);clear q_)|(have q_:=Ge t;(first|refine eK q_ ?_|refine eQ q_ ?_|refine eG q_ ?_);clear q_)|(have q_:=Nz t;(first|refine eK q_ ?_|refine eQ q_ ?_|refine eG q_ ?_);clear q_)|(have q_:=Ny t.parts hl;(first|refine eK q_ ?_|refine eQ q_ ?_|refine eG q_ ?_);clear q_)|(have q_:=Iq t.base;(first|refine cK q_ ?_|refine cQ q_ ?_|refine cG q_ ?_);clear q_;(simp(disch:=omega)only[push_cast,↓zz,seval]);(fail_if_success change False))|(have q_:=Iq t.sum;(first|refine cK q_ ?_|refine cQ q_ ?_|refine cG q_ ?_);clear q_;(simp(disch:=omega)only[push_cast,↓zz,seval]);(fail_if_success change False))|(have q_:=Ge t;(first|refine cK q_ ?_|refine cQ q_ ?_|refine cG q_ ?_);clear q_;(simp(disch:=omega)only[push_cast,↓zz,seval]);(fail_if_success change False))|(have q_:=Nz t;(first|refine cK q_ ?_|refine cQ q_ ?_|refine cG q_ ?_);clear q_;(simp(disch:=omega)only[push_cast,↓zz,seval]);(fail_if_success change False))|(have q_:=Ny t.parts hl;(first|refine cK q_ ?_|refine cQ q_ ?_|refine cG q_ ?_);clear q_;(simp(disch:=omega)only[push_cast,↓zz,seval]);(fail_if_success change False))|omega|intro _))
 all_goals (simp[Cz, *])
def zd4 (s:Int):Bool:=decide (s=1∨s=2)
def Ev (i n:Int) (l:List Part):Bool:=l.all fun p=>Dx p n&&(decide (i≠2)||Hq p)
def Ha (t:Term) (i o n:Int):Bool:=zd4 i&&zd4 o&&Cz t&&Ev i n t.parts&&(decide (i≠2)||decide (t.parts.length≤1))&&(decide (o≠2)||Z3 t)
theorem Sl (s:Int):decide (((domL s).length:Int)=0)=!zd4 s:=by
 unfold domL zd4;split
 · subst_vars;decide
 · split
   · subst_vars;decide
   · simp[*]
theorem znt (l:List Part):(l.length≤1)=((l.length:Int)≤1):=by simp only[eq_iff_iff];omega
theorem z44 (t:Term) (i o n:Int) (hl:t.parts.length<1000000000000):PC Try.prog 41 [B0 t,.int .i64 i,.int .i64 o,.int .i64 n] (.bool (Ha t i o n)):=by
 refine Bf Uz ?_;unfold Lq;(with_reducible repeat' (first|(simp(disch:=omega)only[push_cast,↓zz,seval,Sl])|refine And.intro ?_ ?_|(first|refine Ab ?_ ?_|refine Aa ?_ ?_)<;>intro hc<;>(try simp only[push_cast] at hc)|(have q_:=Dn i;(first|refine eK q_ ?_|refine eQ q_ ?_|refine eG q_ ?_);clear q_)|(have q_:=Dn o;(first|refine eK q_ ?_|refine eQ q_ ?_|refine eG q_ ?_);clear q_)|(have q_:=Hr t hl;(first|refine eK q_ ?_|refine eQ q_ ?_|refine eG q_ ?_);clear q_)|(have q_:=Dn i;(first|refine cK q_ ?_|refine cQ q_ ?_|refine cG q_ ?_);clear q_;(simp(disch:=omega)only[push_cast,↓zz,seval,Sl]);(fail_if_success change False))|(have q_:=Dn o;(first|refine cK q_ ?_|refine cQ q_ ?_|refine cG q_ ?_);clear q_;(simp(disch:=omega)only[push_cast,↓zz,seval,Sl]);(fail_if_success change False))|(have q_:=Hr t hl;(first|refine cK q_ ?_|refine cQ q_ ?_|refine cG q_ ?_);clear q_;(simp(disch:=omega)only[push_cast,↓zz,seval,Sl]);(fail_if_success change False))|omega|intro _))
 · simp[Ha, *]
 · have hn:Ha t i o n=(Ev i n t.parts&&(decide (i≠2)||decide ((t.parts.length:Int)≤1))&&(decide (o≠2)||Z3 t)):=by simp[Ha,znt, *]
   rw[hn];refine A5 (Be (fun (k:Nat)=>k≤t.parts.length∧Ev i n t.parts=Ev i n (t.parts.drop k)) (fun k=>t.parts.length-k) (fun k=>[(1,.int .i64 i),(2,.int .i64 o),(3,.int .i64 n),(4,.ptr 0 1 0 0),(27,A8 t.parts),(28,.int .i64 t.parts.length),(29,.int .i64 k)]) (fun _=>[⟨6,1,true,[B0 t]⟩]) (fun env _=>[Bi 0 (env 4)]) 0 (by simp) ?_ ?_)
   · (with_reducible repeat' (first|(simp(disch:=omega)only[push_cast,↓zz,seval])|refine And.intro ?_ ?_|(first|refine Ab ?_ ?_|refine Aa ?_ ?_)<;>intro hc<;>(try simp only[push_cast] at hc)|omega|intro _))
   rintro k ⟨hi,hr⟩;refine W_T ?_;(with_reducible repeat' (first|(simp(disch:=omega)only[push_cast,↓zz,seval])|refine And.intro ?_ ?_|(first|refine Ab ?_ ?_|refine Aa ?_ ?_)<;>intro hc<;>(try simp only[push_cast] at hc)|(have q_:=Ip (nth t.parts k) n;(first|refine eK q_ ?_|refine eQ q_ ?_|refine eG q_ ?_);clear q_)|(have q_:=Io (nth t.parts k).at_;(first|refine eK q_ ?_|refine eQ q_ ?_|refine eG q_ ?_);clear q_)|(have q_:=Qk t;(first|refine eK q_ ?_|refine eQ q_ ?_|refine eG q_ ?_);clear q_)|(have q_:=Ip (nth t.parts k) n;(first|refine cK q_ ?_|refine cQ q_ ?_|refine cG q_ ?_);clear q_;(simp(disch:=omega)only[push_cast,↓zz,seval]);(fail_if_success change False))|(have q_:=Io (nth t.parts k).at_;(first|refine cK q_ ?_|refine cQ q_ ?_|refine cG q_ ?_);clear q_;(simp(disch:=omega)only[push_cast,↓zz,seval]);(fail_if_success change False))|(have q_:=Qk t;(first|refine cK q_ ?_|refine cQ q_ ?_|refine cG q_ ?_);clear q_;(simp(disch:=omega)only[push_cast,↓zz,seval]);(fail_if_success change False))|omega|intro _))
   all_goals (first|(refine⟨k+1,?_⟩;(with_reducible repeat' (first|(simp(disch:=omega)only[push_cast,↓zz,seval])|refine And.intro ?_ ?_|(first|refine Ab ?_ ?_|refine Aa ?_ ?_)<;>intro hc<;>(try simp only[push_cast] at hc)|omega|intro _));(try (first|(rw[hr,drop_at (by omega)];simp[Ev,Hq, *];done)|(rw[hr,List.drop_of_length_le (by omega)];simp[Ev,Hq, *];done)|(simp[Ev,Hq, *];done)));done)|(first|(rw[hr,drop_at (by omega)];simp[Ev,Hq, *];done)|(rw[hr,List.drop_of_length_le (by omega)];simp[Ev,Hq, *];done)|(simp[Ev,Hq, *];done)))
 all_goals (simp[Ha, *])
theorem Xw (l:List Part) (hl:l.length≤1000000000000):PC Try.prog 25 [A8 l] (A8 l):=by
 by_cases h0:l=[]
 · subst h0
   refine zfa ?_ ?_
   · refine Bf Cc ?_
     unfold Bt;(with_reducible repeat' (first|(simp(disch:=omega)only[push_cast,↓zz,seval])|refine And.intro ?_ ?_|(first|refine Ab ?_ ?_|refine Aa ?_ ?_)<;>intro hc<;>(try simp only[push_cast] at hc)|omega|intro _))
   · refine Bf Cc ?_
     unfold Bt;(with_reducible repeat' (first|(simp(disch:=omega)only[push_cast,↓zz,seval])|refine And.intro ?_ ?_|(first|refine Ab ?_ ?_|refine Aa ?_ ?_)<;>intro hc<;>(try simp only[push_cast] at hc)|omega|intro _))
 · refine Bf Cc ?_
   unfold Bt;(with_reducible repeat' (first|(simp(disch:=omega)only[push_cast,↓zz,seval,h0])|refine And.intro ?_ ?_|(first|refine Ab ?_ ?_|refine Aa ?_ ?_)<;>intro hc<;>(try simp only[push_cast] at hc)|omega|intro _))
def sumP (w:List Int):List Part→Int→Option Int
 | [],a=>some a
 | p::l,a=>if Dx p w.length then sumP w l (IntKind.i64.wrap (a+val1 p (nth w p.at_.toNat))) else none
def symB (x:Int):Bool:=decide (0≤x∧x≤1114111)
def Ft (t:Term) (w:List Int):Option Int :=
 if w.all symB then
   match sumP w t.parts t.sum with
   | some x=>if valB t.outer x&&decide (x≤1114111) then some (IntKind.i64.wrap (t.base+valP t.outer x)) else none
   | none=>none
 else none
theorem Ai {p:Part} {n:Int} (h:Dx p n=true):0≤p.at_∧p.at_<n:=by
 simp only[Dx,Bool.and_eq_true,decide_eq_true_eq] at h;exact h.1
theorem z88 {x:Int}:B4 x=true ↔ -1114111≤x∧x≤1114111:=by simp[B4]
theorem Gq {x:Int} (h:B4 x=true):-1114111≤x∧x≤1114111:=z88.1 h
end Go.Proofs.Ytbcjoeadpjfcfaa
namespace Go.Proofs.Ytbcjoeadpjfcfaa
open Abs
theorem Ql {l m:List Part} {k:Nat} (h1:k<l.length) (h2:k<m.length):decide (l.drop k=m.drop k)=(decide (nth l k=nth m k)&&decide (l.drop (k+1)=m.drop (k+1))):=by
 rw[drop_at h1,drop_at h2];simp
theorem Xx (p q:Part):(decide (p.at_=q.at_)&&(decide (p.drop=q.drop)&&(decide (p.take=q.take)&&decide (p.up=q.up))))=decide (p=q):=by
 cases p;cases q;simp
theorem Z4 (a b:Term) (hl:a.parts.length≤1000000000000):PC Try.prog 27 [B0 a,B0 b] (.bool (decide (a=b))):=by
 refine Bf Ut ?_;unfold Lj;(with_reducible repeat' (first|(simp(disch:=omega)only[push_cast,↓zz,seval])|refine And.intro ?_ ?_|(first|refine Ab ?_ ?_|refine Aa ?_ ?_)<;>intro hc<;>(try simp only[push_cast] at hc)|omega|intro _))
 all_goals first
   | (have:a≠b:=by intro h;subst h;first|omega|simp_all
      simp[this];done)
   | skip
 have hab:decide (a=b)=decide (a.parts=b.parts):=by cases a;cases b;simp_all
 rw[hab]
 refine A5 (Be (fun (k:Nat)=>k≤a.parts.length∧decide (a.parts=b.parts)=decide (a.parts.drop k=b.parts.drop k)) (fun k=>a.parts.length-k)
   (fun k=>[(2,.ptr 0 1 0 0),(3,.ptr 1 1 0 0),(5,.int .i64 k)])
   (fun s=>[⟨6,1,true,[B0 a]⟩,⟨6,1,true,[B0 b]⟩])
   (fun env _=>[Bi 0 (env 2),Bi 0 (env 3)]) 0 (by simp) ?_ ?_)
 · (with_reducible repeat' (first|(simp(disch:=omega)only[push_cast,↓zz,seval])|refine And.intro ?_ ?_|(first|refine Ab ?_ ?_|refine Aa ?_ ?_)<;>intro hc<;>(try simp only[push_cast] at hc)|omega|intro _))
 rintro k ⟨hk,hr⟩;refine W_T ?_;(with_reducible repeat' (first|(simp(disch:=omega)only[push_cast,↓zz,seval,Xx])|refine And.intro ?_ ?_|(first|refine Ab ?_ ?_|refine Aa ?_ ?_)<;>intro hc<;>(try simp only[push_cast] at hc)|omega|intro _))
 · rw[hr,Ql (by omega) (by omega)];simp[*]
 · refine⟨k+1,?_⟩
   (with_reducible repeat' (first|(simp(disch:=omega)only[push_cast,↓zz,seval])|refine And.intro ?_ ?_|(first|refine Ab ?_ ?_|refine Aa ?_ ?_)<;>intro hc<;>(try simp only[push_cast] at hc)|omega|intro _));rw[hr,Ql (by omega) (by omega)];simp[*]
 · rw[hr,List.drop_of_length_le (by omega),List.drop_of_length_le (by omega)];simp
abbrev wr (n:Int):Int:=IntKind.i64.wrap n
theorem z89 (n:Int):wr n=(n+9223372036854775808) % 18446744073709551616-9223372036854775808:=by
 show IntKind.i64.wrap n=_;rw[IntWalk.i64_left];unfold RowKit.wrap64;rfl
theorem zjp {n:Int} (h:-9223372036854775808≤n∧n≤9223372036854775807):wr n=n:=by rw[z89];omega
theorem wr_wr (a b:Int):wr (wr a+b)=wr (a+b):=by rw[z89,z89 a,z89 (a+b)];omega
theorem wr_bd (a:Int):-9223372036854775808≤wr a∧wr a≤9223372036854775807:=by rw[z89];omega
def totP (w:List Int):List Part→Int
 | []=>0
 | p::l=>val1 p (nth w p.at_.toNat)+totP w l
def Kz (w:List Int) (l:List Part):Bool:=l.all fun p=>Dx p w.length
theorem z8a (w:List Int):∀ (l:List Part) (a:Int),wr a=a→sumP w l a=if Kz w l then some (wr (a+totP w l)) else none
 | [],a,h=>by simp[sumP,Kz,totP,h]
 | p::l,a,h=>by
   rw[sumP];cases hp:Dx p w.length
   · simp[Kz,hp]
   · have ih:=z8a w l (wr (a+val1 p (nth w p.at_.toNat))) (by rw[zjp (wr_bd _)])
     rw[if_pos rfl];have e:wr (wr (a+val1 p (nth w p.at_.toNat))+totP w l)=wr (a+totP w (p::l)):=by rw[wr_wr,totP];congr 1;omega
     rw[e] at ih;simp only[Kz,List.all_cons,hp,Bool.true_and] at ih ⊢;exact ih
theorem z8b {p:Part} {x:Int} (h:Hq p=true) (hx:0≤x∧x≤2097151):Ej p=true∧valB p x=true∧valP p x=x:=by
 simp only[Hq,decide_eq_true_eq] at h;obtain⟨h1,h2,h3⟩:=h;have hb:Ej p=true:=by simp[Ej,h1,h2,h3]
 refine⟨hb,(Sj hb hx).1,?_⟩;rw[valP,h1,h2,h3];show x / 2 ^ 0 % 2 ^ 21 * 2 ^ 0=x;omega
end Go.Proofs.Ytbcjoeadpjfcfaa
namespace Go.Proofs.Ytbcjoeadpjfcfaa
open Abs Go.RowKit
abbrev shI:Sh:=.int .i64
abbrev z8c:Sh:=.sl true [shI,shI]
abbrev Sm:Sh:=.sl false [z8c]
abbrev z8d:Sh:=.sl true [shI,shI,shI,shI]
abbrev z8e:List Sh:=[shI,shI,shI,shI,shI,z8d]
abbrev Xy:Sh:=.sl true z8e
abbrev z8f:List Sh:=[shI,shI,Sm,shI,Xy]
abbrev Z5:List Sh:=[shI,Sm,Xy]
abbrev z8g:List Sh:=[shI,shI,shI,shI,.sl true z8f,.sl true Z5]
theorem K1 {α:Type} {agg:Bool} {fs:List Sh} {x:AV} (f:α→AV) (Q:α→Prop) (hp:∀ l:List α,Ap (l.map f)=true) (hpos:0<fs.length)
   (he:∀ cs,IsL fs cs→∃ a,AV.le (if agg then .agg cs else cs.headD .any) (f a)∧Q a) (h:Is (.sl agg fs) x):∃ l:List α,AV.le x (.lst fs.length (l.map f))∧l.length≤maxLen∧∀ a∈l,Q a:=by
 rcases h with rfl|⟨xs,rfl,hl,hx⟩
 · exact⟨[],AV.le_nilS hpos,Nat.zero_le _,fun _ h=>by cases h⟩
 · have key:∀ xs:List AV,(∀ y∈xs,∃ cs,y=(if agg then AV.agg cs else cs.headD .any)∧IsL fs cs)→∃ l:List α,l.length=xs.length∧leL xs (l.map f)∧∀ a∈l,Q a:=by
     intro xs
     induction xs with
     | nil=>intro _;exact⟨[],rfl,D3,fun _ h=>by cases h⟩
     | cons y r ih =>
       intro hy;obtain⟨l,h1,h2,h3⟩:=ih fun z hz=>hy z (List.mem_cons_of_mem _ hz);obtain⟨cs,rfl,hcs⟩:=hy y (List.mem_cons_self ..);obtain⟨a,h4,h5⟩:=he cs hcs;refine⟨a::l,by simp[h1],As h4 h2,fun b hb=>?_⟩;rcases List.mem_cons.1 hb with rfl|hb
       · exact h5
       · exact h3 b hb
   obtain⟨l,h1,h2,h3⟩:=key xs hx;exact⟨l,AV.le_lst (by simp[h1]) (hp l) h2,by rw[h1];exact hl,h3⟩
def i64s (l:List Int):Prop:=∀ n∈l,(Lit.int .i64 n).wf=true
def Qm (s:Span):Prop:=i64s [s.lo,s.hi]
theorem zd5 {x:AV} (h:Is z8c x):∃ l:List Span,AV.le x (Ah l)∧l.length≤maxLen∧∀ s∈l,Qm s :=
 K1 Bz Qm Dq (by decide) (fun cs h=>by
   obtain⟨_,_,rfl,⟨a,rfl,ha⟩,_,_,rfl,⟨b,rfl,hb⟩,rfl⟩:=h
   exact⟨⟨a,b⟩,AV.le_refl _,by simp[Qm,i64s,ha,hb]⟩) h
theorem Va {x:AV} (h:Is Sm x):∃ l:List (List Span),AV.le x (Al l)∧l.length≤maxLen∧∀ g∈l,g.length≤maxLen∧∀ s∈g,Qm s :=
 K1 Ah (fun g=>g.length≤maxLen∧∀ s∈g,Qm s) Ag (by decide) (fun cs h=>by
   obtain⟨c,_,rfl,hc,_⟩:=h;obtain⟨l,h1,h2,h3⟩:=zd5 hc
   exact⟨l,h1,h2,h3⟩) h
def Z6 (p:Part):Prop:=i64s [p.at_,p.drop,p.take,p.up]
theorem zd6 {x:AV} (h:Is z8d x):∃ l:List Part,AV.le x (A8 l)∧l.length≤maxLen∧∀ s∈l,Z6 s :=
 K1 Cd Z6 Im (by decide) (fun cs h=>by
   obtain⟨_,_,rfl,⟨a,rfl,ha⟩,_,_,rfl,⟨b,rfl,hb⟩,_,_,rfl,⟨c,rfl,hc⟩,_,_,rfl,⟨d,rfl,hd⟩,rfl⟩:=h
   exact⟨⟨a,b,c,d⟩,AV.le_refl _,by simp[Z6,i64s,ha,hb,hc,hd]⟩) h
def Z7 (t:Term):Prop:=i64s [t.base,t.drop,t.take,t.up,t.sum]∧t.parts.length≤maxLen∧∀ p∈t.parts,Z6 p
theorem zd7 {cs:List AV} (h:IsL z8e cs):∃ t:Term,AV.le (.agg cs) (B0 t)∧Z7 t:=by
 obtain⟨_,_,rfl,⟨a,rfl,ha⟩,_,_,rfl,⟨b,rfl,hb⟩,_,_,rfl,⟨c,rfl,hc⟩,_,_,rfl,⟨d,rfl,hd⟩,_,_,rfl,⟨e,rfl,he⟩,x,_,rfl,hx,rfl⟩:=h;obtain⟨l,h1,h2,h3⟩:=zd6 hx;exact⟨⟨a,b,c,d,e,l⟩,AV.le_agg (As (AV.le_refl _) (As (AV.le_refl _) (As (AV.le_refl _) (As (AV.le_refl _) (As (AV.le_refl _) (As h1 D3)))))),by simp[i64s,ha,hb,hc,hd,he],h2,h3⟩
theorem Z8 {x:AV} (h:Is Xy x):∃ l:List Term,AV.le x (Bl l)∧l.length≤maxLen∧∀ t∈l,Z7 t :=
 K1 B0 Z7 Aq (by decide) (fun cs h=>by simpa using zd7 h) h
def Z9 (g:List (List Span)):Prop:=g.length≤maxLen∧∀ l∈g,l.length≤maxLen∧∀ s∈l,Qm s
def z8h (l:List Term):Prop:=l.length≤maxLen∧∀ t∈l,Z7 t
def z8i (r:Rule):Prop:=i64s [r.from_,r.to_,r.eat]∧Z9 r.guards∧z8h r.out
def Xz (f:C6):Prop:=i64s [f.from_]∧Z9 f.guards∧z8h f.out
theorem zjq {cs:List AV} (h:IsL z8f cs):∃ r:Rule,AV.le (.agg cs) (Ca r)∧z8i r:=by
 obtain⟨_,_,rfl,⟨a,rfl,ha⟩,_,_,rfl,⟨b,rfl,hb⟩,x,_,rfl,hx,_,_,rfl,⟨c,rfl,hc⟩,y,_,rfl,hy,rfl⟩:=h;obtain⟨g,g1,g2,g3⟩:=Va hx;obtain⟨o,o1,o2,o3⟩:=Z8 hy;exact⟨⟨a,b,g,c,o⟩,AV.le_agg (As (AV.le_refl _) (As (AV.le_refl _) (As g1 (As (AV.le_refl _) (As o1 D3))))),by simp[i64s,ha,hb,hc],⟨g2,g3⟩,o2,o3⟩
theorem zd8 {cs:List AV} (h:IsL Z5 cs):∃ r:C6,AV.le (.agg cs) (Bn r)∧Xz r:=by
 obtain⟨_,_,rfl,⟨a,rfl,ha⟩,x,_,rfl,hx,y,_,rfl,hy,rfl⟩:=h;obtain⟨g,g1,g2,g3⟩:=Va hx;obtain⟨o,o1,o2,o3⟩:=Z8 hy;exact⟨⟨a,g,o⟩,AV.le_agg (As (AV.le_refl _) (As g1 (As o1 D3))),by simp[i64s,ha],⟨g2,g3⟩,o2,o3⟩
def znu (d:Desc):Prop:=i64s [d.in_,d.out,d.states,d.start]∧(d.rules.length≤maxLen∧∀ r∈d.rules,z8i r)∧d.finals.length≤maxLen∧∀ f∈d.finals,Xz f
theorem zjr {x:AV} (h:IsP (.rcd z8g) x):∃ d:Desc,AV.le x (Cp d)∧znu d:=by
 obtain⟨_,rfl,_,_,rfl,⟨a,rfl,ha⟩,_,_,rfl,⟨b,rfl,hb⟩,_,_,rfl,⟨c,rfl,hc⟩,_,_,rfl,⟨e,rfl,he⟩,x,_,rfl,hx,y,_,rfl,hy,rfl⟩:=h;obtain⟨r,r1,r2,r3⟩:=K1 Ca z8i A7 (by decide) (fun cs h=>by simpa using zjq h) hx;obtain⟨f,f1,f2,f3⟩:=K1 Bn Xz A6 (by decide) (fun cs h=>by simpa using zd8 h) hy;exact⟨⟨a,b,c,e,r,f⟩,AV.le_agg (As (AV.le_refl _) (As (AV.le_refl _) (As (AV.le_refl _) (As (AV.le_refl _) (As r1 (As f1 D3)))))),by simp[i64s,ha,hb,hc,he],⟨r2,r3⟩,f2,f3⟩
end Go.Proofs.Ytbcjoeadpjfcfaa
namespace Go.Proofs.Ytbcjoeadpjfcfaa
open Abs
theorem zd9 {o:Option Int} (h:o.isSome=true):o=some (o.getD 0):=by cases o<;>simp_all
end Go.Proofs.Ytbcjoeadpjfcfaa
namespace Go.Proofs.Ytbcjoeadpjfcfaa.Abs
section
variable {P:Program} {n b:Nat} {Q:Ex→Env→Ac→Prop}
def N0 (P:Program) (n b:Nat) (c:AC) (Q:Ex→Env→Ac→Prop):Nat→Env→Ac→Prop
 | 0,_,_=>False
 | m+1,env,H=>T P n b c env H (Ex.then (N0 P n b c Q m) Q)
theorem Vb {c:AC} {d:Code} (hd:Cv P n d=some c) {rd:Option Nat} {mm:Nat} (hrd:c.free=true∨rd=none) {S0:MS}:∀ (m:Nat) (env:Env) (H:Ac) (S:MS) (a:Act),BEvo b S0 S→SRel S H→FRel S n env a→N0 P n b c Q m env H →
   Code.roundsIn (fen rd) mm P d (After S0 n b Q) m a S.w
 | 0,_,_,_,_,_,_,_,h=>h.elim
 | m+1,env,H,S,a,e0,hS,hF,h=>by
   rw[Code.roundsIn];refine wpIn_mono (h rd mm hrd d hd S a e0.n hS hF) fun e a' w' hh=>?_;obtain⟨S2,env2,H2,z,rfl,e2,hS2,hF2,rfl,hq⟩:=hh;cases z with
   | normal=>exact Vb hd hrd m env2 H2 S2 a' (e0.trans e2) hS2 hF2 hq
   | exit id=>exact⟨S2,env2,H2,.exit id,rfl,e0.trans e2,hS2,hF2,rfl,hq⟩
   | ret=>exact⟨S2,env2,H2,.ret,rfl,e0.trans e2,hS2,hF2,rfl,hq⟩
theorem z00 {c:AC} {env:Env} {H:Ac} (m:Nat) (h:N0 P n b c Q m env H):T P n b (.loop c) env H Q:=T_of fun rd mm hrd code hc hs S a hb hS hF=>by
 cases code<;>simp only[Cv,reduceCtorEq,Option.some.injEq] at hc
 case loop d =>
   obtain⟨x,hx,hh⟩:=Option.map_eq_some_iff.1 hc;cases hh;exact wpIn_loop_rounds m (Vb hx hrd m env H S a (.refl hb) hS hF h)
 case region=>exact absurd hc B9
 case seq=>split at hc<;>cases hc
 case cond=>split at hc<;>cases hc
 case block=>obtain⟨_,_,h⟩:=Option.map_eq_some_iff.1 hc;cases h
 case rangeFunc=>split at hc<;>cases hc
 case scope d=>exact absurd rfl (hs d)
theorem Ay {c:AC} {env:Env} {H:Ac} (m:Nat) (h:W P n b c env H (Ex.then (N0 P n b c Q m) Q)):@I3 ⟨T P n b (.loop c) env H Q⟩:=z00 (m+1) (W_T h)
theorem Bg {c:AC} {env:Env} {H:Ac} (m:Nat) (srcs:Env→List Src) (live:List (Nat × AV)) (heap:List Grp) (he:Head b env H (srcs env) live heap) (h:W P n b c (C2 live) (hl heap) (Ex.then (N0 P n b c Q m) Q)):@I3 ⟨T P n b (.loop c) env H Q⟩:=Zu he (z00 (m+1) (W_T h))
theorem Ak {c:AC} {env:Env} {H:Ac} {m:Nat} (h:W P n b c env H (Ex.then (N0 P n b c Q m) Q)):N0 P n b c Q (m+1) env H:=W_T h
end
theorem z01 {S:MS}:∀ {xs ys:List AV} {vs:List Value},Ad S (xs++ys) vs→∃ v1 v2,vs=v1++v2∧Ad S xs v1
 | [],ys,vs,h=>⟨[],vs,rfl,rfl⟩
 | x::xs,ys,vs,h=>by
   obtain⟨v,r,rfl,h1,h2⟩:=h;obtain⟨v1,v2,rfl,h3⟩:=z01 (xs:=xs) (ys:=ys) h2;exact⟨v::v1,v2,rfl,v,v1,rfl,h1,h3⟩
theorem z47 {S:MS} {w v:Nat} {ex:Bool} {xs ys:List AV} (hw:0<w) (hS:SRel S (hl [⟨w,v,ex,xs++ys⟩])):SRel S (hl [⟨w,v,false,xs⟩]):=by
 have h0:GRel S ⟨w,v,ex,xs++ys⟩ 0:=hS.grp 0 (by show 0<1;omega)
 have hg:GRel S ⟨w,v,false,xs⟩ 0:=by
   refine⟨h0.ver,h0.wid,fun _ hc=>?_,fun _=>?_,fun _ h=>(by cases h),fun h=>?_⟩
   · obtain⟨⟨cells,TT,vs,a1,a2,a3,a4⟩,a5⟩:=h0.live hw hc
     obtain⟨v1,v2,rfl,h1⟩:=z01 a3;refine⟨⟨cells,TT,v1,a1,a2,h1,fun i u hu=>a4 i u ?_⟩,a5⟩;obtain⟨hl1,_⟩:=List.getElem?_eq_some_iff.1 hu;rw[List.getElem?_append_left hl1];exact hu
   · have:=h0.len hw
     simp only[List.length_append] at this;show xs.length≤_;omega
   · simp only at h;omega
 refine⟨hS.n,fun g hg'=>?_,fun g g' a c hne=>?_,hS.im⟩
 · have hz:g<1:=hg'
   obtain rfl:g=0:=by omega
   exact hg
 · have a':g<1:=a
   have c':g'<1:=c;omega
theorem Vd {P:Program} {f:Nat} {args:List AV} {H:Ac} {w v:Nat} {ex:Bool} {xs:List AV} {y0:AV} (hw:0<w) (h:Bj P f args H fun y H'=>∃ ys,y=y0∧H'=hl [⟨w,v,ex,xs++ys⟩]):Bj P f args H fun y H'=>y=y0∧H'=hl [⟨w,v,false,xs⟩] :=
 ⟨h.1,fun S cargs hS hx=>(h.2 S cargs hS hx).mono fun e w' hh=>by
   obtain⟨v,S1,y,H',he,hw',ev,hS1,hv,ys,rfl,rfl⟩:=hh
   exact⟨v,S1,_,_,he,hw',ev,z47 hw hS1,hv,rfl,rfl⟩⟩
theorem zjs {P:Program} {f:Nat} {xs ys:List AV} {l:List Grp} {K:AV→Ac→Prop} (h1:okA 4 ((hl l).only (Bv xs)) xs) (h2:leSL [] (frA 4 ((hl l).only (Bv xs)) xs) ys) (h3:@R4 P f ys (hl (D5 0 (Bv xs) l)) ⟨K⟩):@R4 P f xs (hl l) ⟨K⟩ :=
 P7 4 (Bv xs) (Nh h1) (F8 (Jo h2) h3)
def B1 (i:Nat) (ks:List Nat):List Grp→List Grp→Prop
 | [],_=>True
 | _::_,[]=>False
 | G::l,G'::l'=>(i∈ks∨G=G')∧B1 (i+1) ks l l'
theorem B1.of {ks:List Nat}:∀ {i:Nat} {l l':List Grp},B1 i ks l l'→l.length≤l'.length∧∀ g,i+g∉ks→g<l.length→l'.getD g default=l.getD g default
 | _,[],_,_=>⟨by simp,fun g _ h=>absurd h (by simp)⟩
 | _,_::_,[],h=>h.elim
 | i,G::l,G'::l',h=>by
   obtain⟨h1,h2⟩:=B1.of h.2;refine⟨by simpa using h1,fun g hg hl=>?_⟩;cases g with
   | zero =>
     rcases h.1 with h3|h3
     · exact absurd h3 hg
     · simp[h3]
   | succ g =>
     have:=h2 g (by rwa [show i+1+g=i+(g+1) by omega]) (by simpa using hl);simpa using this
def effB (ks:List Nat):AK→List Grp→List Grp→Prop
 | .app ..,l,l'=>B1 0 ks l l'
 | .mkMap,l,l'=>B1 0 ks l l'
 | .mapSet,l,l'=>B1 0 ks l l'
 | _,_,_=>True
theorem z8j {ks:List Nat} {k:AK} {l l':List Grp} (h:effB ks k l l') (h2:k.eff=some 2):l.length≤l'.length∧∀ g,g∉ks→g<l.length→l'.getD g default=l.getD g default:=by
 have key:B1 0 ks l l':=by cases k<;>first|exact h|(simp[AK.eff] at h2)
 obtain⟨a,c⟩:=key.of;exact⟨a,fun g hg=>c g (by simpa using hg)⟩
def xk (P:Program) (ks:List Nat):List Bool→List AOp→Env→List Grp→(Env→List Grp→Prop)→Prop
 | _,[],env,l,K=>K env l
 | fl,⟨dst,args,none,k⟩::r,env,l,K=>(fl.headD false=true→Bc (·∉ks) (args.map (·.eval env)))∧@opG P k l (args.map (·.eval env)) ⟨fun x l'=>effB ks k l l'∧xk P ks fl.tail r (env.put dst x) l' K⟩
 | fl,⟨dst,args,some (d,want),k⟩::r,env,l,K=>@Dv (env d) want
     ⟨(fl.headD false=true→Bc (·∉ks) (args.map (·.eval (env.put (some d) (.bool want)))))∧@opG P k l (args.map (·.eval (env.put (some d) (.bool want)))) ⟨fun x l'=>effB ks k l l'∧xk P ks fl.tail r ((env.put (some d) (.bool want)).put dst x) l' K⟩⟩
     ⟨xk P ks fl.tail r ((env.put (some d) (.bool (!want))).put dst (.tup [])) l K⟩ ⟨xk P ks fl.tail r (env.put dst (.tup [])) l K⟩
theorem N1 (P:Program) (ks:List Nat):∀ (L:List AOp) (fl:List Bool) (env:Env) (l:List Grp) {K:Env→List Grp→Prop},xk P ks fl L env l K→runX P ks fl L env l K
 | [],_,_,_,_,h=>h
 | ⟨dst,args,none,k⟩::r,fl,env,l,K,h=>by
   obtain⟨h0,h'⟩:=h;have:=Ks h';simp only[runX,Fa,AOp.vals,if_true];split at this
   · rename_i he
     rw[if_pos he];obtain⟨x,h1,h2⟩:=this;exact⟨h0,x,h1,N1 P ks r _ _ _ h2.2⟩
   · rename_i he
     rw[if_neg he];obtain⟨x,l',b1,b2,b3⟩:=this;exact⟨x,l',b1,b2,z8j b3.1,h0,N1 P ks r _ _ _ b3.2⟩
 | ⟨dst,args,some (d,want),k⟩::r,fl,env,l,K,h=>by
   have h':E9 (env d) want ((fl.headD false=true→Bc (·∉ks) (args.map (·.eval (env.put (some d) (.bool want)))))∧@opG P k l (args.map (·.eval (env.put (some d) (.bool want)))) ⟨fun x l'=>effB ks k l l'∧xk P ks fl.tail r ((env.put (some d) (.bool want)).put dst x) l' K⟩)
     (xk P ks fl.tail r ((env.put (some d) (.bool (!want))).put dst (.tup [])) l K) (xk P ks fl.tail r (env.put dst (.tup [])) l K):=h
   simp only[runX,Fa,AOp.vals,if_true,Bool.false_eq_true,if_false];refine Jn (fun h1=>?_) (fun h1=>N1 P ks r _ _ _ h1) (fun h1=>N1 P ks r _ _ _ h1) h';obtain⟨h0,h1⟩:=h1;have:=Ks h1;split at this
   · rename_i he
     obtain⟨x,h1,h2⟩:=this;rw[if_pos he];exact⟨h0,x,h1,N1 P ks r _ _ _ h2.2⟩
   · rename_i he
     rw[if_neg he];obtain⟨x,l',b1,b2,b3⟩:=this;exact⟨x,l',b1,b2,z8j b3.1,h0,N1 P ks r _ _ _ b3.2⟩
section
variable {P:Program} {n b:Nat} {Q:Ex→Env→Ac→Prop} {ks:List Nat} {env:Env} {l:List Grp} {K:Env→List Grp→Prop} {fl:List Bool} {r:List AOp} {dst:Option Nat} {args:List AArg} {k:AK}
theorem B2 {L:List AOp} (ks:List Nat) (h:xk P ks fl L env l fun env' l'=>Q .normal env' (hl l')):@I3 ⟨T P n b (.grx fl L) env (hl l) Q⟩:=T_grx ks (N1 P ks L fl env l h)
theorem Fu {x:AV} {w:Bool} {p p2 q s:HP} (h:p.p=p2.p):@Dv x w p q s=@Dv x w p2 q s:=by cases p;cases p2;cases h;rfl
theorem xk1:xk P ks fl [] env l K=K env l:=by cases fl<;>rfl
theorem xk2:xk P ks (false::fl) (⟨dst,args,none,k⟩::r) env l K=@opG P k l (args.map (·.eval env)) ⟨fun x l'=>effB ks k l l'∧xk P ks fl r (env.put dst x) l' K⟩:=propext ⟨fun h=>h.2,fun h=>⟨fun h0=>(by cases h0),h⟩⟩
theorem xk3:xk P ks (true::fl) (⟨dst,args,none,k⟩::r) env l K=(Bc (·∉ks) (args.map (·.eval env))∧@opG P k l (args.map (·.eval env)) ⟨fun x l'=>effB ks k l l'∧xk P ks fl r (env.put dst x) l' K⟩):=propext ⟨fun h=>⟨h.1 rfl,h.2⟩,fun h=>⟨fun _=>h.1,h.2⟩⟩
theorem xk4 {d:Nat} {want:Bool}:xk P ks (false::fl) (⟨dst,args,some (d,want),k⟩::r) env l K=@Dv (env d) want
     ⟨@opG P k l (args.map (·.eval (env.put (some d) (.bool want)))) ⟨fun x l'=>effB ks k l l'∧xk P ks fl r ((env.put (some d) (.bool want)).put dst x) l' K⟩⟩
     ⟨xk P ks fl r ((env.put (some d) (.bool (!want))).put dst (.tup [])) l K⟩ ⟨xk P ks fl r (env.put dst (.tup [])) l K⟩:=Fu (propext ⟨fun h=>h.2,fun h=>⟨fun h0=>(by cases h0),h⟩⟩)
theorem xk5 {d:Nat} {want:Bool}:xk P ks (true::fl) (⟨dst,args,some (d,want),k⟩::r) env l K=@Dv (env d) want
     ⟨Bc (·∉ks) (args.map (·.eval (env.put (some d) (.bool want))))∧@opG P k l (args.map (·.eval (env.put (some d) (.bool want)))) ⟨fun x l'=>effB ks k l l'∧xk P ks fl r ((env.put (some d) (.bool want)).put dst x) l' K⟩⟩
     ⟨xk P ks fl r ((env.put (some d) (.bool (!want))).put dst (.tup [])) l K⟩ ⟨xk P ks fl r (env.put dst (.tup [])) l K⟩:=Fu (propext ⟨fun h=>⟨h.1 rfl,h.2⟩,fun h=>⟨fun _=>h.1,h.2⟩⟩)
variable {l2:List Grp}
theorem xk6 {w s:Nat} {z:AV}:effB ks (.app w s z) l l2=B1 0 ks l l2:=rfl
theorem xk7:effB ks .mapSet l l2=B1 0 ks l l2:=rfl
theorem xk8:effB ks .mkMap l l2=B1 0 ks l l2:=rfl
theorem znv  : effB ks (.mv ) l l2=True:=rfl
theorem z8k  : effB ks (.pick ) l l2=True:=rfl
theorem z02 {a0:AV} {a1:Nat}:effB ks (.alloc a0 a1) l l2=True:=rfl
theorem zff  : effB ks (.box ) l l2=True:=rfl
theorem z03 {a0:List AV} {a1:List (Nat × Nat)} {a2:List Nat}:effB ks (.build a0 a1 a2) l l2=True:=rfl
theorem Ve {a0:Nat} {a1:Nat} {a2:AV} {a3:List Nat}:effB ks (.bslice a0 a1 a2 a3) l l2=True:=rfl
theorem z8l {a0:Bool} {a1:Nat}:effB ks (.load a0 a1) l l2=True:=rfl
theorem z04 {a0:Nat}:effB ks (.store a0) l l2=True:=rfl
theorem N2  : effB ks (.nilCheck ) l l2=True:=rfl
theorem zfg {a0:BinOp}:effB ks (.bin a0) l l2=True:=rfl
theorem zfh {a0:Bool}:effB ks (.eqb a0) l l2=True:=rfl
theorem zfi {a0:Bool} {a1:List Nat}:effB ks (.eqs a0 a1) l l2=True:=rfl
theorem zfj {a0:Bool}:effB ks (.eqn a0) l l2=True:=rfl
theorem znw {a0:UnOp}:effB ks (.un a0) l l2=True:=rfl
theorem z8m {a0:IntKind}:effB ks (.conv a0) l l2=True:=rfl
theorem z05  : effB ks (.toStr ) l l2=True:=rfl
theorem z06 {a0:Nat} {a1:Bool} {a2:Bool} {a3:Bool}:effB ks (.slice a0 a1 a2 a3) l l2=True:=rfl
theorem z07 {a0:Bool} {a1:Nat} {a2:Nat}:effB ks (.faddr a0 a1 a2) l l2=True:=rfl
theorem z08 {a0:Bool} {a1:Nat} {a2:Nat}:effB ks (.field a0 a1 a2) l l2=True:=rfl
theorem z09 {a0:Nat}:effB ks (.iaddr a0) l l2=True:=rfl
theorem Vf {a0:Nat} {a1:Nat} {a2:Bool}:effB ks (.iaddrA a0 a1 a2) l l2=True:=rfl
theorem z0a {a0:Nat} {a1:Nat} {a2:Bool}:effB ks (.index a0 a1 a2) l l2=True:=rfl
theorem N3  : effB ks (.indexStr ) l l2=True:=rfl
theorem Qn {a0:Nat}:effB ks (.extract a0) l l2=True:=rfl
theorem zfk {a0:Bool}:effB ks (.len a0) l l2=True:=rfl
theorem zfl  : effB ks (.max ) l l2=True:=rfl
theorem zfm  : effB ks (.min ) l l2=True:=rfl
theorem Qo {a0:Nat} {a1:Nat} {a2:AV}:effB ks (.mkSlice a0 a1 a2) l l2=True:=rfl
theorem Vg {a0:Nat}:effB ks (.mkFunc a0) l l2=True:=rfl
theorem Vh {a0:AV}:effB ks (.mapGet a0) l l2=True:=rfl
theorem z8n  : effB ks (.call ) l l2=True:=rfl
theorem sb1 {i:Nat}:B1 i ks [] l=True:=rfl
theorem sb2 {i:Nat} {G G2:Grp}:B1 i ks (G::l) (G2::l2)=((i∈ks∨G=G2)∧B1 (i+1) ks l l2):=rfl
end
theorem xx:type_of% (And.intro @xk1 <| And.intro @xk2 <| And.intro @xk3 <| And.intro @xk4 <| And.intro @xk5 <| And.intro @xk6 <| And.intro @xk7 <| And.intro @xk8 <| And.intro @znv <| And.intro @z8k <| And.intro @z02 <| And.intro @zff <| And.intro @z03 <| And.intro @Ve <| And.intro @z8l <| And.intro @z04 <| And.intro @N2 <| And.intro @zfg <| And.intro @zfh <| And.intro @zfi <| And.intro @zfj <| And.intro @znw <| And.intro @z8m <| And.intro @z05 <| And.intro @z06 <| And.intro @z07 <| And.intro @z08 <| And.intro @z09 <| And.intro @Vf <| And.intro @z0a <| And.intro @N3 <| And.intro @Qn <| And.intro @zfk <| And.intro @zfl <| And.intro @zfm <| And.intro @Qo <| And.intro @Vg <| And.intro @Vh <| And.intro @z8n <| And.intro @sb1 <| @sb2):=And.intro @xk1 <| And.intro @xk2 <| And.intro @xk3 <| And.intro @xk4 <| And.intro @xk5 <| And.intro @xk6 <| And.intro @xk7 <| And.intro @xk8 <| And.intro @znv <| And.intro @z8k <| And.intro @z02 <| And.intro @zff <| And.intro @z03 <| And.intro @Ve <| And.intro @z8l <| And.intro @z04 <| And.intro @N2 <| And.intro @zfg <| And.intro @zfh <| And.intro @zfi <| And.intro @zfj <| And.intro @znw <| And.intro @z8m <| And.intro @z05 <| And.intro @z06 <| And.intro @z07 <| And.intro @z08 <| And.intro @z09 <| And.intro @Vf <| And.intro @z0a <| And.intro @N3 <| And.intro @Qn <| And.intro @zfk <| And.intro @zfl <| And.intro @zfm <| And.intro @Qo <| And.intro @Vg <| And.intro @Vh <| And.intro @z8n <| And.intro @sb1 <| @sb2
theorem zda {P:Program} {l:List Grp} {xs:List AV} {K:AV→List Grp→Prop}:@opG P .mapSet l xs ⟨K⟩=@opK P .mapSet (hl l) xs ⟨fun x H'=>∀ l',H'=hl l'→K x l'⟩:=(z3w rfl rfl).trans (by simp only[AK.appOk,Rp,true_and])
attribute [push_cast] zcm zda
def effY (ks:List Nat):AK→List Grp→List Grp→Prop
 | .app ..,l,l'=>B1 0 ks l l'
 | .mkMap,l,l'=>B1 0 ks l l'
 | .mapSet,l,l'=>B1 0 ks l l'
 | .store _,l,l'=>B1 0 ks l l'∧l'.length=l.length
 | _,_,_=>True
theorem Sn {ks:List Nat} {k:AK} {l l':List Grp} (h:effY ks k l l'):((k.eff=some 1∨k.eff=some 2)→l.length≤l'.length∧∀ g,g∉ks→g<l.length→l'.getD g default=l.getD g default)∧(k.eff=some 1→l'.length=l.length):=by
 have key:(k.eff=some 1∨k.eff=some 2)→B1 0 ks l l':=fun h2=>by cases k<;>first|exact h|exact h.1|(simp[AK.eff] at h2)
 refine⟨fun h2=>?_,fun h2=>by cases k<;>first|exact h.2|(simp[AK.eff] at h2)⟩;obtain⟨a,c⟩:=(key h2).of;exact⟨a,fun g hg=>c g (by simpa using hg)⟩
class KM where
 f:Int→Int→Prop
def twoI (x y:AV) [K:KM]:Prop:=match x,y with
 | .int _ a,.int _ b=>K.f a b
 | _,_=>False
structure KL where
 f:Grp→AV→Prop
def zjt (k:AK) (xs:List AV) (g:Nat) (K:KL):Prop:=match k,xs with
 | .alloc z w,[]=>K.f ⟨w,2,true,[z]⟩ (.ptr g 2 0 0)
 | .box,[y]=>D4 y.cells=true∧0<y.cells.length∧K.f ⟨y.cells.length,2,true,[y]⟩ (.ptr g 2 0 0)
 | .mkSlice w bytes z,[a,b]=>@twoI a b ⟨fun l c=>0≤l∧l≤c∧c * bytes≤140737488355328∧K.f ⟨w,2,true,List.replicate c.toNat z⟩ (.ref g 2 0 l.toNat)⟩
 | _,_=>False
theorem zdb {k:AK} {xs:List AV} {g:Nat} {K:KL} (h:zjt k xs g K):∃ G x,Wz k xs g G x∧K.f G x:=by
 unfold zjt at h;split at h
 · exact⟨_,_,⟨rfl,rfl⟩,h⟩
 · exact⟨_,_,⟨h.1,h.2.1,rfl,rfl⟩,h.2.2⟩
 · rename_i a b
   cases a<;>cases b<;>try exact h.elim
   obtain⟨h1,h2,h3,h4⟩:=h;exact⟨_,_,⟨h1,h2,h3,rfl,rfl⟩,h4⟩
 · exact h.elim
def gsOk:List (Option Nat)→List AOp→Bool
 | _,[]=>true
 | gs,o::r=>(match gs.headD none with|some _=>o.guard.isNone&&o.k.laid|none=>!o.k.laid)&&gsOk gs.tail r
def xy (P:Program) (ks:List Nat):List (Option Nat)→List Bool→List AOp→Env→List Grp→(Env→List Grp→Prop)→Prop
 | _,_,[],env,l,K=>K env l
 | gs,fl,⟨dst,args,none,k⟩::r,env,l,K=>match gs.headD none with
   | some g=>zjt k (args.map (·.eval env)) g ⟨fun G x=>g<l.length∧(hl l).at_ g=⟨G.w,1,true,[]⟩∧g∈ks∧∀ l',(hl l).set g G=hl l'→xy P ks gs.tail fl.tail r (env.put dst x) l' K⟩
   | none=>(fl.headD false=true→Bc (·∉ks) (args.map (·.eval env)))∧@opG P k l (args.map (·.eval env)) ⟨fun x l'=>effY ks k l l'∧xy P ks gs.tail fl.tail r (env.put dst x) l' K⟩
 | gs,fl,⟨dst,args,some (d,want),k⟩::r,env,l,K=>@Dv (env d) want
     ⟨(fl.headD false=true→Bc (·∉ks) (args.map (·.eval (env.put (some d) (.bool want)))))∧@opG P k l (args.map (·.eval (env.put (some d) (.bool want)))) ⟨fun x l'=>effY ks k l l'∧xy P ks gs.tail fl.tail r ((env.put (some d) (.bool want)).put dst x) l' K⟩⟩
     ⟨xy P ks gs.tail fl.tail r ((env.put (some d) (.bool (!want))).put dst (.tup [])) l K⟩ ⟨xy P ks gs.tail fl.tail r (env.put dst (.tup [])) l K⟩
theorem L4 (P:Program) (ks:List Nat):∀ (L:List AOp) (gs:List (Option Nat)) (fl:List Bool) (env:Env) (l:List Grp) {K:Env→List Grp→Prop},gsOk gs L=true→xy P ks gs fl L env l K→runY P ks fl L env l K
 | [],_,_,_,_,_,_,h=>by simpa only[xy,runY] using h
 | ⟨dst,args,none,k⟩::r,gs,fl,env,l,K,hg,h=>by
   simp only[gsOk,Bool.and_eq_true] at hg;simp only[xy] at h;simp only[runY,Fa,AOp.vals,if_true];cases hh:gs.headD none with
   | some g =>
     rw[hh] at h hg;have hla:k.laid=true:=by simpa using hg.1
     obtain⟨G,x,hG,h1,h2,h3,h4⟩:=zdb h;rw[if_pos hla];exact⟨_,_,⟨g,G,hG,h1,h2,h3,rfl⟩,L4 P ks r _ _ _ _ hg.2 (h4 _ (Fq _ _ _ h1))⟩
   | none =>
     rw[hh] at h hg;have hl:k.laid=false:=by simpa using hg.1
     rw[if_neg (by rw[hl];simp)];obtain⟨h0,h'⟩:=h;have:=Ks h';split at this
     · rename_i he
       rw[if_pos he];obtain⟨x,h1,h2⟩:=this;exact⟨h0,x,h1,L4 P ks r _ _ _ _ hg.2 h2.2⟩
     · rename_i he
       rw[if_neg he];obtain⟨x,l',b1,b2,b3⟩:=this;exact⟨x,l',b1,b2,(Sn b3.1).1,(Sn b3.1).2,h0,L4 P ks r _ _ _ _ hg.2 b3.2⟩
 | ⟨dst,args,some (d,want),k⟩::r,gs,fl,env,l,K,hg,h=>by
   simp only[gsOk,Bool.and_eq_true] at hg
   have hl:k.laid=false:=by
     cases hh:gs.headD none with
     | some g=>rw[hh] at hg;simp at hg
     | none=>rw[hh] at hg;simpa using hg.1
   have h':E9 (env d) want ((fl.headD false=true→Bc (·∉ks) (args.map (·.eval (env.put (some d) (.bool want)))))∧@opG P k l (args.map (·.eval (env.put (some d) (.bool want)))) ⟨fun x l'=>effY ks k l l'∧xy P ks gs.tail fl.tail r ((env.put (some d) (.bool want)).put dst x) l' K⟩)
     (xy P ks gs.tail fl.tail r ((env.put (some d) (.bool (!want))).put dst (.tup [])) l K) (xy P ks gs.tail fl.tail r (env.put dst (.tup [])) l K):=h
   simp only[runY,Fa,AOp.vals,if_true,Bool.false_eq_true,if_false];refine Jn (fun h1=>?_) (fun h1=>L4 P ks r _ _ _ _ hg.2 h1) (fun h1=>L4 P ks r _ _ _ _ hg.2 h1) h';rw[if_neg (by rw[hl];simp)];obtain⟨h0,h1⟩:=h1;have:=Ks h1;split at this
   · rename_i he
     obtain⟨x,h1,h2⟩:=this;rw[if_pos he];exact⟨h0,x,h1,L4 P ks r _ _ _ _ hg.2 h2.2⟩
   · rename_i he
     rw[if_neg he];obtain⟨x,l',b1,b2,b3⟩:=this;exact⟨x,l',b1,b2,(Sn b3.1).1,(Sn b3.1).2,h0,L4 P ks r _ _ _ _ hg.2 b3.2⟩
section
variable {P:Program} {n b:Nat} {Q:Ex→Env→Ac→Prop} {ks:List Nat} {gs:List (Option Nat)} {g:Nat} {env:Env} {l:List Grp} {K:Env→List Grp→Prop} {f:Bool} {fl:List Bool} {r:List AOp} {dst:Option Nat} {args:List AArg} {k:AK}
theorem z8o {L:List AOp} (ks:List Nat) (ws:List Nat) (gs:List (Option Nat)) (hw:∀ w∈ws,0<w) (hg:gsOk gs L=true) (h:xy P ks gs fl L env (l++ws.map Hb) fun env' l'=>Q .normal env' (hl l')):@I3 ⟨T P n b (.gry fl L) env (hl l) Q⟩:=Xb ws hw (zl1 ks (L4 P ks L gs fl env _ hg h))
theorem xy1:xy P ks gs fl [] env l K=K env l:=by simp only[xy]
theorem xy2:xy P ks (none::gs) (false::fl) (⟨dst,args,none,k⟩::r) env l K=@opG P k l (args.map (·.eval env)) ⟨fun x l'=>effY ks k l l'∧xy P ks gs fl r (env.put dst x) l' K⟩:=by simp only[xy];exact propext ⟨fun h=>h.2,fun h=>⟨fun h0=>(by cases h0),h⟩⟩
theorem xy3:xy P ks (none::gs) (true::fl) (⟨dst,args,none,k⟩::r) env l K=(Bc (·∉ks) (args.map (·.eval env))∧@opG P k l (args.map (·.eval env)) ⟨fun x l'=>effY ks k l l'∧xy P ks gs fl r (env.put dst x) l' K⟩):=by simp only[xy];exact propext ⟨fun h=>⟨h.1 rfl,h.2⟩,fun h=>⟨fun _=>h.1,h.2⟩⟩
theorem xy4 {d:Nat} {want:Bool}:xy P ks (none::gs) (false::fl) (⟨dst,args,some (d,want),k⟩::r) env l K=@Dv (env d) want
     ⟨@opG P k l (args.map (·.eval (env.put (some d) (.bool want)))) ⟨fun x l'=>effY ks k l l'∧xy P ks gs fl r ((env.put (some d) (.bool want)).put dst x) l' K⟩⟩
     ⟨xy P ks gs fl r ((env.put (some d) (.bool (!want))).put dst (.tup [])) l K⟩ ⟨xy P ks gs fl r (env.put dst (.tup [])) l K⟩:=by simp only[xy];exact Fu (propext ⟨fun h=>h.2,fun h=>⟨fun h0=>(by cases h0),h⟩⟩)
theorem xy5 {d:Nat} {want:Bool}:xy P ks (none::gs) (true::fl) (⟨dst,args,some (d,want),k⟩::r) env l K=@Dv (env d) want
     ⟨Bc (·∉ks) (args.map (·.eval (env.put (some d) (.bool want))))∧@opG P k l (args.map (·.eval (env.put (some d) (.bool want)))) ⟨fun x l'=>effY ks k l l'∧xy P ks gs fl r ((env.put (some d) (.bool want)).put dst x) l' K⟩⟩
     ⟨xy P ks gs fl r ((env.put (some d) (.bool (!want))).put dst (.tup [])) l K⟩ ⟨xy P ks gs fl r (env.put dst (.tup [])) l K⟩:=by simp only[xy];exact Fu (propext ⟨fun h=>⟨h.1 rfl,h.2⟩,fun h=>⟨fun _=>h.1,h.2⟩⟩)
theorem xy6 {z:AV} {w:Nat}:xy P ks (some g::gs) (f::fl) (⟨dst,[],none,.alloc z w⟩::r) env l K=(g<l.length∧(hl l).at_ g=⟨w,1,true,[]⟩∧g∈ks∧∀ l',(hl l).set g ⟨w,2,true,[z]⟩=hl l'→xy P ks gs fl r (env.put dst (.ptr g 2 0 0)) l' K):=by simp only[xy];rfl
theorem xy6b {a:AArg}:xy P ks (some g::gs) (f::fl) (⟨dst,[a],none,.box⟩::r) env l K=(D4 (a.eval env).cells=true∧0<(a.eval env).cells.length∧g<l.length∧(hl l).at_ g=⟨(a.eval env).cells.length,1,true,[]⟩∧g∈ks∧∀ l',(hl l).set g ⟨(a.eval env).cells.length,2,true,[a.eval env]⟩=hl l'→xy P ks gs fl r (env.put dst (.ptr g 2 0 0)) l' K):=by simp only[xy];rfl
theorem xy6m {a a':AArg} {w m:Nat} {z:AV}:xy P ks (some g::gs) (f::fl) (⟨dst,[a,a'],none,.mkSlice w m z⟩::r) env l K=@twoI (a.eval env) (a'.eval env) ⟨fun i c=>0≤i∧i≤c∧c * m≤140737488355328∧g<l.length∧(hl l).at_ g=⟨w,1,true,[]⟩∧g∈ks∧∀ l',(hl l).set g ⟨w,2,true,List.replicate c.toNat z⟩=hl l'→xy P ks gs fl r (env.put dst (.ref g 2 0 i.toNat)) l' K⟩:=by simp only[xy];rfl
theorem z0b {k k':IntKind} {a c:Int} {K:Int→Int→Prop}:@twoI (.int k a) (.int k' c) ⟨K⟩=K a c:=rfl
theorem xy7:xy P ks [] fl (⟨dst,args,none,k⟩::r) env l K=xy P ks [none] fl (⟨dst,args,none,k⟩::r) env l K:=by simp only[xy];rfl
theorem xy8 {d:Nat} {want:Bool}:xy P ks [] fl (⟨dst,args,some (d,want),k⟩::r) env l K=xy P ks [none] fl (⟨dst,args,some (d,want),k⟩::r) env l K:=by simp only[xy];rfl
variable {l2:List Grp}
theorem zfn {w s:Nat} {z:AV}:effY ks (.app w s z) l l2=B1 0 ks l l2:=rfl
theorem Vi:effY ks .mapSet l l2=B1 0 ks l l2:=rfl
theorem z0c:effY ks .mkMap l l2=B1 0 ks l l2:=rfl
theorem z0d {s:Nat}:effY ks (.store s) l l2=(B1 0 ks l l2∧l2.length=l.length):=rfl
theorem znx  : effY ks (.mv ) l l2=True:=rfl
theorem z8p  : effY ks (.pick ) l l2=True:=rfl
theorem z0e {a0:AV} {a1:Nat}:effY ks (.alloc a0 a1) l l2=True:=rfl
theorem zfo  : effY ks (.box ) l l2=True:=rfl
theorem z0f {a0:List AV} {a1:List (Nat × Nat)} {a2:List Nat}:effY ks (.build a0 a1 a2) l l2=True:=rfl
theorem Vj {a0:Nat} {a1:Nat} {a2:AV} {a3:List Nat}:effY ks (.bslice a0 a1 a2 a3) l l2=True:=rfl
theorem z8q {a0:Bool} {a1:Nat}:effY ks (.load a0 a1) l l2=True:=rfl
theorem N4  : effY ks (.nilCheck ) l l2=True:=rfl
theorem zfp {a0:BinOp}:effY ks (.bin a0) l l2=True:=rfl
theorem zfq {a0:Bool}:effY ks (.eqb a0) l l2=True:=rfl
theorem zfr {a0:Bool} {a1:List Nat}:effY ks (.eqs a0 a1) l l2=True:=rfl
theorem zfs {a0:Bool}:effY ks (.eqn a0) l l2=True:=rfl
theorem zny {a0:UnOp}:effY ks (.un a0) l l2=True:=rfl
theorem z8r {a0:IntKind}:effY ks (.conv a0) l l2=True:=rfl
theorem z0g  : effY ks (.toStr ) l l2=True:=rfl
theorem z0h {a0:Nat} {a1:Bool} {a2:Bool} {a3:Bool}:effY ks (.slice a0 a1 a2 a3) l l2=True:=rfl
theorem z0i {a0:Bool} {a1:Nat} {a2:Nat}:effY ks (.faddr a0 a1 a2) l l2=True:=rfl
theorem z0j {a0:Bool} {a1:Nat} {a2:Nat}:effY ks (.field a0 a1 a2) l l2=True:=rfl
theorem z0k {a0:Nat}:effY ks (.iaddr a0) l l2=True:=rfl
theorem Vk {a0:Nat} {a1:Nat} {a2:Bool}:effY ks (.iaddrA a0 a1 a2) l l2=True:=rfl
theorem z0l {a0:Nat} {a1:Nat} {a2:Bool}:effY ks (.index a0 a1 a2) l l2=True:=rfl
theorem N5  : effY ks (.indexStr ) l l2=True:=rfl
theorem Qp {a0:Nat}:effY ks (.extract a0) l l2=True:=rfl
theorem zft {a0:Bool}:effY ks (.len a0) l l2=True:=rfl
theorem zfu  : effY ks (.max ) l l2=True:=rfl
theorem zfv  : effY ks (.min ) l l2=True:=rfl
theorem Qq {a0:Nat} {a1:Nat} {a2:AV}:effY ks (.mkSlice a0 a1 a2) l l2=True:=rfl
theorem Vl {a0:Nat}:effY ks (.mkFunc a0) l l2=True:=rfl
theorem Vm {a0:AV}:effY ks (.mapGet a0) l l2=True:=rfl
theorem z8s  : effY ks (.call ) l l2=True:=rfl
end
theorem yy:type_of% (And.intro @xy1 <| And.intro @xy2 <| And.intro @xy3 <| And.intro @xy4 <| And.intro @xy5 <| And.intro @xy6 <| And.intro @xy6b <| And.intro @xy6m <| And.intro @z0b <| And.intro @xy7 <| And.intro @xy8 <| And.intro @zfn <| And.intro @Vi <| And.intro @z0c <| And.intro @z0d <| And.intro @znx <| And.intro @z8p <| And.intro @z0e <| And.intro @zfo <| And.intro @z0f <| And.intro @Vj <| And.intro @z8q <| And.intro @N4 <| And.intro @zfp <| And.intro @zfq <| And.intro @zfr <| And.intro @zfs <| And.intro @zny <| And.intro @z8r <| And.intro @z0g <| And.intro @z0h <| And.intro @z0i <| And.intro @z0j <| And.intro @z0k <| And.intro @Vk <| And.intro @z0l <| And.intro @N5 <| And.intro @Qp <| And.intro @zft <| And.intro @zfu <| And.intro @zfv <| And.intro @Qq <| And.intro @Vl <| And.intro @Vm <| And.intro @z8s <| And.intro @sb1 <| @sb2):=And.intro @xy1 <| And.intro @xy2 <| And.intro @xy3 <| And.intro @xy4 <| And.intro @xy5 <| And.intro @xy6 <| And.intro @xy6b <| And.intro @xy6m <| And.intro @z0b <| And.intro @xy7 <| And.intro @xy8 <| And.intro @zfn <| And.intro @Vi <| And.intro @z0c <| And.intro @z0d <| And.intro @znx <| And.intro @z8p <| And.intro @z0e <| And.intro @zfo <| And.intro @z0f <| And.intro @Vj <| And.intro @z8q <| And.intro @N4 <| And.intro @zfp <| And.intro @zfq <| And.intro @zfr <| And.intro @zfs <| And.intro @zny <| And.intro @z8r <| And.intro @z0g <| And.intro @z0h <| And.intro @z0i <| And.intro @z0j <| And.intro @z0k <| And.intro @Vk <| And.intro @z0l <| And.intro @N5 <| And.intro @Qp <| And.intro @zft <| And.intro @zfu <| And.intro @zfv <| And.intro @Qq <| And.intro @Vl <| And.intro @Vm <| And.intro @z8s <| And.intro @sb1 <| @sb2
def Ent (n b:Nat) (env:Env) (H:Ac) (env':Env) (H':Ac):Prop:=∀ (S:MS) (val:Nat→Value),b≤S.n→SRel S H→(∀ i,i<n→VRel S (env i) (val i)) →
 ∃ S',S'.w=S.w∧BEvo b S S'∧SRel S' H'∧∀ i,i<n→VRel S' (env' i) (val i)
section
variable {P:Program} {n b:Nat} {env env':Env} {H H':Ac} {Q:Ex→Env→Ac→Prop}
theorem Ent.refl:Ent n b env H env H:=fun S val hb hS hv=>⟨S,rfl,.refl hb,hS,hv⟩
theorem Ent.trans {env2:Env} {H2:Ac} (h1:Ent n b env H env' H') (h2:Ent n b env' H' env2 H2):Ent n b env H env2 H2:=fun S val hb hS hv=>by
 obtain⟨S1,a1,a2,a3,a4⟩:=h1 S val hb hS hv;obtain⟨S2,c1,c2,c3,c4⟩:=h2 S1 val a2.n a3 a4;exact⟨S2,c1.trans a1,a2.trans c2,c3,c4⟩
theorem N6 {c:AC} (he:Ent n b env H env' H') (h:T P n b c env' H' Q):T P n b c env H Q:=by
 intro rd mm hrd code hc S a hbS hS hF;obtain⟨S',hw,hev,hS',hv⟩:=he S (fun i=>a.tmps.getD i undef) hbS hS hF.val;have:=h rd mm hrd code hc S' a hev.n hS' ⟨hF.size,hF.defers.of hev.base hev.size hev.keep hev.fresh (fun b hb=>hev.kept b (.inr hb)),hv⟩;rw[hw] at this;exact wpIn_mono this fun e a w hh=>hh.trans hev
theorem K2 {σ:Type} (Fact:σ→Prop) (μ:σ→Nat) (envs:σ→Env) (heap:σ→Ac) {c:AC} (s0:σ) (h0:Fact s0) (he:Ent n b env H (envs s0) (heap s0))
   (round:∀ s,Fact s→T P n b c (envs s) (heap s) (Ex.then (fun env' H'=>∃ s',Ent n b env' H' (envs s') (heap s')∧Fact s'∧μ s'<μ s) Q)):T P n b (.loop c) env H Q:=by
 refine zf4 (fun s env H=>Fact s∧Ent n b env H (envs s) (heap s)) μ s0 ⟨h0,he⟩ fun s env H hI=>?_;refine N6 hI.2 (T.mono (round s hI.1) fun x env' H' hh=>?_);cases x with
 | normal=>obtain⟨s',k1,k2,k3⟩:=hh;exact⟨s',⟨k2,k1⟩,k3⟩
 | exit id=>exact hh
 | ret=>exact hh
theorem Ir (live:List (Nat × AV)) (h:∀ p∈live,env p.1=p.2):Ent n b env H (C2 live) H:=fun S val hb hS hv=>by
 refine⟨S,rfl,.refl hb,hS,fun i hi=>?_⟩
 have key:∀ (l:List (Nat × AV)),(∀ p∈l,env p.1=p.2)→VRel S (C2 l i) (val i):=fun l=>by
   induction l with
   | nil=>exact fun _=>trivial
   | cons p l ih =>
     intro hp;obtain⟨t,y⟩:=p;show VRel S (if i=t then y else C2 l i) _;split
     · rename_i hit
       subst hit;have e:env i=y:=hp (i,y) (by simp);rw[←e];exact hv i hi
     · exact ih fun p hp'=>hp p (by simp[hp'])
 exact key live h
mutual
theorem z0m:∀ x:AV,ren (fun g=>g) x=x
 | .any|.bool _|.int _ _|.str _|.nilS|.nul|.emp|.nilP|.nilF|.yld _|.lst _ _|.full _ _|.cptr _|.map _ _|.ref _ _ _ _|.ptr _ _ _ _=>rfl
 | .agg cs=>by rw[ren,Hs cs]
 | .tup cs=>by rw[ren,Hs cs]
 | .fn f cs=>by rw[ren,Hs cs]
theorem Hs:∀ xs:List AV,renL (fun g=>g) xs=xs
 | []=>rfl
 | x::xs=>by rw[renL,z0m x,Hs xs]
end
theorem So {l gar:List Grp} (hb:b≤l.length) (hcl:∀ G∈l,ltL l.length G.xs) (hlive:∀ i,i<n→ltV l.length (env i)):Ent n b env (hl (l++gar)) env (hl l):=fun S val hbS hS hv=>by
 have hn:S.n=l.length+gar.length:=by rw[←List.length_append];exact hS.n
 have hat:∀ g,g<l.length→(hl (l++gar)).at_ g=(hl l).at_ g:=fun g hg=>by
   rw[Cg,Cg];simp[List.getD,List.getElem?_append_left hg]
 let S':MS:={ S with n:=l.length }
 have hdown:∀ (x:AV) {v:Value},ltV l.length x→VRel S x v→VRel S' x v:=fun x v hx h=>by
   rw[←z0m x] at h;exact Z1 (A:=S') (B:=S) (σ:=fun g=>g) (m:=l.length) rfl (fun b hb=>hb) (fun g hg=>⟨hg,rfl,rfl,rfl,rfl⟩) x hx h
 have hdownL:∀ (xs:List AV) {vs:List Value},ltL l.length xs→Ad S xs vs→Ad S' xs vs:=fun xs vs hx h=>by
   rw[←Hs xs] at h;exact Er (A:=S') (B:=S) (σ:=fun g=>g) (m:=l.length) rfl (fun b hb=>hb) (fun g hg=>⟨hg,rfl,rfl,rfl,rfl⟩) xs hx h
 refine⟨S',rfl,⟨rfl,rfl,rfl,rfl,Nat.le_refl _,fun _ _=>rfl,fun _ h=>h,fun _ h=>h,fun _ h=>.inl h,hb,fun _ _=>Nat.le_refl _,fun _ _ _=>⟨rfl,rfl,rfl⟩⟩,⟨rfl,fun g hg=>?_,fun g g' hg hg' hne hw hw'=>?_,hS.im⟩,fun i hi=>hdown _ (hlive i hi) (hv i hi)⟩
 · have hg':g<l.length:=hg
   have hG:=hS.grp g (by show g<(l++gar).length;rw[List.length_append];omega);rw[hat g hg'] at hG;have hm:(hl l).at_ g∈l:=by rw[Cg,List.getD_eq_getElem?_getD,List.getElem?_eq_getElem hg'];exact List.getElem_mem _
   have hc:=hcl _ hm;refine⟨hG.ver,hG.wid,fun hw hcap=>?_,hG.len,hG.full,fun hw he=>?_⟩
   · obtain⟨⟨cells,TT,vs,a1,a2,a3,a4⟩,a5⟩:=hG.live hw hcap
     exact⟨⟨cells,TT,vs,a1,a2,hdownL _ hc a3,a4⟩,a5⟩
   · obtain⟨⟨es,clock,a1,a2⟩,a5⟩:=hG.mlive hw he
     exact⟨⟨es,clock,a1,hdownL _ hc a2⟩,a5⟩
 · have hg1:g<l.length:=hg
   have hg2:g'<l.length:=hg';rw[←hat g hg1] at hw;rw[←hat g' hg2] at hw';exact hS.apart g g' (by show g<(l++gar).length;rw[List.length_append];omega) (by show g'<(l++gar).length;rw[List.length_append];omega) hne hw hw'
theorem z0n {l:List Grp} (ws:List Nat) (hw:∀ w∈ws,0<w):Ent n b env (hl l) env (hl (l++ws.map Hb)):=fun S val hbS hS hv=>by
 obtain⟨S',e1,e2,e3,e4⟩:=Sg ws (env:=fun i=>if i<n then env i else .any) (val:=val) hw hS (fun i=>by
   show VRel S (if i<n then env i else .any) _;split
   · exact hv i (by assumption)
   · trivial)
 refine⟨S',e1,e2.down hbS,e3,fun i hi=>?_⟩;have:=e4 i;simp only[if_pos hi] at this;exact this
theorem zfw {l l':List Grp} (h:G3 l l l') (hv:∀ i,i<n→leS l (env i) (env' i)):Ent n b env (hl l) env' (hl l'):=fun S val hbS hS hval =>
 ⟨S,rfl,.refl hbS,Ik hS h,fun i hi=>Uj (.inl hS) _ (hv i hi) (hval i hi)⟩
theorem z8t (i d:Nat) (ks:List Nat) (hok:Cj d (H.only ks) (env i)):Ent n b env H (env.put (some i) (frzV d (H.only ks) (env i))) (H.kill ks):=fun S val hbS hS hv=>by
 refine⟨S.kill H ks,rfl,(Fs ks hS).down hbS,Mo ks hS,fun j hj=>?_⟩;show VRel _ (if j=i then _ else _) _;split
 · rename_i hji
   subst hji;exact Mp ks hS d hok (hv j hj)
 · exact VRel.mono (Fs ks hS) _ (hv j hj)
theorem zju {c:AC} (he:Ent n b env H env' H') (h:@I3 ⟨T P n b c env' H' Q⟩):@I3 ⟨T P n b c env H Q⟩:=N6 he h
end
end Go.Proofs.Ytbcjoeadpjfcfaa.Abs
namespace Go.Proofs.Ytbcjoeadpjfcfaa
open Abs
def B3 (r:Rule):Bool:=decide ((r.guards.length:Int)=0)
def toD (l:List Rule) (i:Nat):List Int:=(l.filter fun r=>B3 r&&decide (r.from_=i)).map (·.to_)
def inD (l:List Rule) (j:Nat):Int:=((l.filter fun r=>B3 r&&decide (r.to_=j)).length:Int)
def cntE (l:List Rule) (P:List Int) (j:Nat):Int:=((l.filter fun r=>B3 r&&(decide (r.to_=j)&&!decide (r.from_∈P))).length:Int)
theorem Sp (l:List Rule) (j:Nat):cntE l [] j=inD l j:=by simp[cntE,inD]
theorem zjv (l:List Rule) (P:List Int) (j:Nat):0≤cntE l P j:=by simp only[cntE];omega
theorem zjw (l:List Rule) (P:List Int) (j:Nat):cntE l P j≤cntE l [] j:=by
 simp only[cntE]
 have:(l.filter fun r=>B3 r&&(decide (r.to_=j)&&!decide (r.from_∈P))).length≤(l.filter fun r=>B3 r&&(decide (r.to_=j)&&!decide (r.from_∈([]:List Int)))).length:=by
   induction l with
   | nil=>simp
   | cons r l ih =>
     simp only[List.filter_cons];cases B3 r<;>cases decide (r.to_=(j:Int))<;>cases decide (r.from_∈P)<;>simp at ih ⊢<;>omega
 omega
theorem Sq {s j:Nat} {P:List Int} (hs:(s:Int)∉P):∀ l:List Rule,cntE l (P++[(s:Int)]) j+((toD l s).count (j:Int):Int)=cntE l P j
 | []=>by simp[cntE,toD]
 | r::l=>by
   have ih:=Sq (j:=j) hs l;simp only[cntE,toD,List.filter_cons] at ih ⊢;cases he:B3 r
   · simpa using ih
   · simp only[Bool.true_and]
     by_cases ht:r.to_=j
     · by_cases hf:r.from_=s
       · have h1:r.from_∈P++[(s:Int)]:=by simp[hf]
         have h2:r.from_∉P:=by rw[hf];exact hs
         simp only[ht,hf] at h1 h2 ⊢;simp only[decide_true,h1,h2,decide_false,Bool.not_true,Bool.not_false,Bool.and_false,Bool.and_true,if_true,Bool.false_eq_true,if_false,List.length_cons,List.map_cons,List.count_cons_self,ht]
         push_cast
         omega
       · have h1:(r.from_∈P++[(s:Int)])↔r.from_∈P:=by simp[hf]
         by_cases h2:r.from_∈P
         · simp only[ht,hf,h1,h2,decide_true,decide_false,Bool.not_true,Bool.and_false,Bool.false_eq_true,if_false]
           exact ih
         · simp only[ht,hf,h1,h2,decide_true,decide_false,Bool.not_false,Bool.and_true,if_true,Bool.false_eq_true,if_false,List.length_cons]
           push_cast
           omega
     · by_cases hf:r.from_=s
       · simp only[ht,hf,decide_false,decide_true,Bool.false_and,Bool.false_eq_true,if_false,if_true,List.map_cons]
         rw[List.count_cons_of_ne ht];exact ih
       · simp only[ht,hf,decide_false,Bool.false_and,Bool.false_eq_true,if_false]
         exact ih
theorem It:∀ {a b:List Int},a.Nodup→(∀ x∈a,x∈b)→a.length≤b.length
 | [],b,_,_=>Nat.zero_le _
 | x::a,b,hn,h=>by
   obtain⟨h1,h2⟩:=List.nodup_cons.1 hn;have hx:=h x (by simp);have:=It (a:=a) (b:=b.erase x) h2 fun y hy=>(List.mem_erase_of_ne (fun (e:y=x)=>h1 (by rw[←e];exact hy))).2 (h y (by simp[hy]));rw[List.length_erase_of_mem hx] at this;have:=List.length_pos_of_mem hx;simp only[List.length_cons];omega
def idsN (n:Nat):List Int:=(List.range n).map fun (i:Nat)=>(i:Int)
theorem z8u (n:Nat):(idsN n).Nodup:=by
 rw[idsN,List.nodup_iff_pairwise_ne,List.pairwise_map];exact (List.nodup_iff_pairwise_ne.1 (List.nodup_range)).imp fun h e=>h (by omega)
theorem Sr {n:Nat} {x:Int}:x∈idsN n↔0≤x∧x<n:=by
 simp only[idsN,List.mem_map,List.mem_range];constructor
 · rintro⟨i,hi,rfl⟩;omega
 · rintro⟨h1,h2⟩;exact⟨x.toNat,by omega,by omega⟩
def zfx (l:List Rule) (n:Nat) (C:Int→Prop):Prop:=∀ j,C j→(0≤j∧j<n)∧∃ r∈l,B3 r=true∧r.to_=j∧C r.from_
def cycP (l:List Rule) (n:Nat):Prop:=∃ C,zfx l n C∧∃ j,C j
structure KInv (l:List Rule) (n:Nat) (D:List Int) (I:Nat→Int):Prop where
 nodup:D.Nodup
 range:∀ x∈D,0≤x∧x<n
 zero:∀ j,j<n→((j:Int)∈D↔I j=0)
 apart:∀ C,zfx l n C→∀ x∈D,¬C x
theorem KInv.len {l:List Rule} {n:Nat} {D:List Int} {I:Nat→Int} (h:KInv l n D I):D.length≤n:=by
 have:=It h.nodup fun x hx=>Sr.2 (h.range x hx);simpa [idsN] using this
def Jr (f:Nat→Int) (k:Nat):List Int:=((List.range k).filter fun j=>decide (f j=0)).map fun (j:Nat)=>(j:Int)
theorem z48 (f:Nat→Int) (k:Nat):Jr f (k+1)=if f k=0 then Jr f k++[(k:Int)] else Jr f k:=by
 rw[Jr,List.range_succ,List.filter_append,List.map_append];split
 · rename_i h;simp[Jr,h]
 · rename_i h;simp[Jr,h]
theorem z8v (f:Nat→Int) (k:Nat):(Jr f k).length≤k:=by
 have:=List.length_filter_le (fun j=>decide (f j=0)) (List.range k);simpa [Jr] using this
theorem zjx {l:List Rule} {r:Rule} {j:Nat} (hr:r∈l) (he:B3 r=true) (ht:r.to_=j):0<inD l j:=by
 have:0<(l.filter fun r=>B3 r&&decide (r.to_=j)).length:=List.length_pos_of_mem (List.mem_filter.2 ⟨hr,by simp[he,ht]⟩);simp only[inD];omega
theorem zdc {l:List Rule} {P:List Int} {r:Rule} {j:Nat} (hr:r∈l) (he:B3 r=true) (ht:r.to_=j) (hf:r.from_∉P):0<cntE l P j:=by
 have:0<(l.filter fun r=>B3 r&&(decide (r.to_=j)&&!decide (r.from_∈P))).length:=List.length_pos_of_mem (List.mem_filter.2 ⟨hr,by simp[he,ht,hf]⟩);simp only[cntE];omega
theorem z49 (l:List Rule) (n:Nat):KInv l n (Jr (inD l) n) (cntE l []) where
 nodup:=by
   rw[Jr,List.nodup_iff_pairwise_ne,List.pairwise_map];exact ((List.nodup_iff_pairwise_ne.1 (List.nodup_range)).filter _).imp fun h e=>h (by omega)
 range x hx:=by
   obtain⟨i,hi,rfl⟩:=List.mem_map.1 hx;have:=(List.mem_filter.1 hi).1;simp at this;omega
 zero j hj:=by
   rw[Sp];simp only[Jr,List.mem_map,List.mem_filter,List.mem_range,decide_eq_true_eq];constructor
   · rintro⟨i,⟨h1,h2⟩,e⟩
     obtain rfl:i=j:=by omega
     exact h2
   · intro h;exact⟨j,⟨hj,h⟩,rfl⟩
 apart C hC x hx hCx:=by
   obtain⟨i,hi,rfl⟩:=List.mem_map.1 hx;have h0:=(List.mem_filter.1 hi).2;simp only[decide_eq_true_eq] at h0;obtain⟨_,r,hr,he,ht,_⟩:=hC _ hCx;have:=zjx hr he ht;omega
def Eb (l:List Rule) (P:List Int) (s m:Nat) (j:Nat):Int:=cntE l P j-(((toD l s).take m).count (j:Int):Int)
theorem Qr (l:List Rule) (P:List Int) (s:Nat):Eb l P s 0=cntE l P:=by funext j;simp[Eb]
theorem z8w {l:List Rule} {P:List Int} {s:Nat} (hs:(s:Int)∉P):Eb l P s (toD l s).length=cntE l (P++[(s:Int)]):=by
 funext j;have:=Sq (j:=j) hs l;rw[Eb,List.take_length];omega
theorem z0o {l:List Rule} {P:List Int} {s m j:Nat} (hs:(s:Int)∉P):cntE l (P++[(s:Int)]) j≤Eb l P s m j:=by
 have h1:=Sq (j:=j) hs l;have h2:=(List.take_sublist m (toD l s)).count_le (j:Int);rw[Eb];omega
theorem K3 {l:List Rule} {P:List Int} {s m t:Nat} (hm:m<(toD l s).length) (ht:nth (toD l s) m=t):Eb l P s (m+1)=fun j=>if j=t then Eb l P s m t-1 else Eb l P s m j:=by
 funext j;rw[Eb,take_at hm,List.count_append,ht];by_cases e:j=t
 · subst e;simp[Eb];omega
 · have h0:List.count (j:Int) [(t:Int)]=0:=List.count_eq_zero.2 (by simp;omega)
   rw[if_neg e,h0,Eb];omega
theorem Vn {l:List Rule} {P:List Int} {s m t:Nat} (hs:(s:Int)∉P) (hm:m<(toD l s).length) (ht:nth (toD l s) m=t):0<Eb l P s m t:=by
 have h1:=z0o (l:=l) (m:=m+1) (j:=t) hs;have h2:=zjv l (P++[(s:Int)]) t;rw[K3 hm ht] at h1;simp only[if_true] at h1;omega
theorem z8x {l:List Rule} {n:Nat} {P td:List Int} {s m t:Nat} (hs:(s:Int)∉P) (hm:m<(toD l s).length) (ht:nth (toD l s) m=t) (htn:t<n) (h:KInv l n (P++[(s:Int)]++td) (Eb l P s m)) :
   KInv l n (P++[(s:Int)]++if Eb l P s m t-1=0 then td++[(t:Int)] else td) (Eb l P s (m+1)):=by
 have hp:=Vn hs hm ht
 have hno:(t:Int)∉P++[(s:Int)]++td:=fun hh=>by
   have:=(h.zero t htn).1 hh;omega
 have hst:=K3 (P:=P) hm ht;split
 · rename_i h0
   rw[←List.append_assoc];refine⟨List.nodup_append.2 ⟨h.nodup,by simp,fun a ha b hb=>?_⟩,fun x hx=>?_,fun j hj=>?_,fun C hC x hx hCx=>?_⟩
   · simp only[List.mem_singleton] at hb
     subst hb;exact fun e=>hno (e ▸ ha)
   · rcases List.mem_append.1 hx with hx|hx
     · exact h.range x hx
     · simp only[List.mem_singleton] at hx;omega
   · rw[hst,List.mem_append,List.mem_singleton]
     by_cases e:j=t
     · subst e;simp[h0]
     · simp only[if_neg e]
       rw[←h.zero j hj];exact⟨fun hh=>hh.elim id fun hh=>absurd hh (by omega),.inl⟩
   · rcases List.mem_append.1 hx with hx|hx
     · exact h.apart C hC x hx hCx
     · simp only[List.mem_singleton] at hx
       subst hx;obtain⟨_,r,hr,he,hrt,hrf⟩:=hC _ hCx;have hf:r.from_∉P++[(s:Int)]:=fun hh=>h.apart C hC _ (List.mem_append.2 (.inl hh)) hrf;have h1:=zdc hr he hrt hf;have h2:=z0o (l:=l) (m:=m+1) (j:=t) hs;rw[hst] at h2;simp only[if_true] at h2;omega
 · rename_i h0
   refine⟨h.nodup,h.range,fun j hj=>?_,h.apart⟩;rw[hst];by_cases e:j=t
   · subst e;simp only[if_true];exact⟨fun hh=>absurd hh hno,fun hh=>absurd hh h0⟩
   · simp only[if_neg e];exact h.zero j hj
theorem z8y {l:List Rule} {n:Nat} {P:List Int} (hl:∀ r∈l,0≤r.from_∧r.from_<n) (h:KInv l n P (cntE l P)):P.length<n↔cycP l n:=by
 constructor
 · intro hlt
   refine⟨fun j=>(0≤j∧j<n)∧j∉P,fun j hj=>⟨hj.1,?_⟩,?_⟩
   · have h0:cntE l P j.toNat≠0:=fun h0=>hj.2 (by
       have:=(h.zero j.toNat (by omega)).2 h0
       rwa [show ((j.toNat:Nat):Int)=j by omega] at this)
     have:0<(l.filter fun r=>B3 r&&(decide (r.to_=(j.toNat:Nat))&&!decide (r.from_∈P))).length:=by
       simp only[cntE] at h0;omega
     obtain⟨r,hr⟩:=List.exists_mem_of_length_pos this;obtain⟨h1,h2⟩:=List.mem_filter.1 hr;simp only[Bool.and_eq_true,decide_eq_true_eq,Bool.not_eq_true',decide_eq_false_iff_not] at h2;exact⟨r,h1,h2.1,by rw[h2.2.1];omega,hl r h1,h2.2.2⟩
   · refine Classical.byContradiction fun hno=>?_
     have:=It (z8u n) fun x hx=>Classical.byContradiction fun hp=>hno ⟨x,Sr.1 hx,hp⟩;simp[idsN] at this;omega
 · rintro⟨C,hC,j,hj⟩
   have hr:=(hC j hj).1;have hjP:j∉P:=fun hh=>h.apart C hC j hh hj
   have:=It (a:=j::P) (b:=idsN n) (List.nodup_cons.2 ⟨hjP,h.nodup⟩) fun x hx=>by
     rcases List.mem_cons.1 hx with rfl|hx
     · exact Sr.2 hr
     · exact Sr.2 (h.range x hx)
   simp[idsN] at this;omega
def onF (l:List Rule) (on:Nat→Bool) (j:Nat):Bool:=l.any fun r=>B3 r&&(on r.from_.toNat&&decide (r.to_=j))
def onK (l:List Rule):Nat→Nat→Bool
 | 0=>fun _=>true
 | k+1=>onF l (onK l k)
def z4a (l:List Rule) (on:Nat→Bool):Bool:=l.any fun r=>B3 r&&on r.from_.toNat
def cycR (l:List Rule) (n:Nat):Bool:=(List.range (n+1)).all fun k=>z4a l (onK l k)
theorem zdd {l:List Rule} {p q:Nat→Bool} (h:∀ j,p j=true→q j=true) (j:Nat):onF l p j=true→onF l q j=true:=by
 simp only[onF,List.any_eq_true,Bool.and_eq_true,decide_eq_true_eq];rintro⟨r,hr,h1,h2,h3⟩;exact⟨r,hr,h1,h _ h2,h3⟩
theorem Ss (l:List Rule):∀ (k j:Nat),onK l (k+1) j=true→onK l k j=true
 | 0,j,_=>rfl
 | k+1,j,h=>zdd (fun j=>Ss l k j) j h
theorem filter_lt {p q:Nat→Bool} (h:∀ j,p j=true→q j=true):∀ {l:List Nat} {x:Nat},x∈l→q x=true→p x=false→(l.filter p).length<(l.filter q).length
 | [],_,hx,_,_=>by cases hx
 | y::l,x,hx,hq,hp=>by
   have hle:∀ l:List Nat,(l.filter p).length≤(l.filter q).length:=fun l=>by
     induction l with
     | nil=>simp
     | cons a l ih =>
       simp only[List.filter_cons];have:=h a;cases hpa:p a<;>cases hqa:q a<;>simp_all<;>omega
   simp only[List.filter_cons];rcases List.mem_cons.1 hx with rfl|hx
   · have:=hle l
     simp only[hp,hq,Bool.false_eq_true,if_false,if_true,List.length_cons];omega
   · have ih:=filter_lt h hx hq hp
     have:=h y;cases hpa:p y<;>cases hqa:q y<;>simp_all<;>omega
theorem zde {l:List Rule} {n:Nat} (hl:∀ r∈l,(0≤r.from_∧r.from_<n)∧0≤r.to_∧r.to_<n):cycR l n=true↔cycP l n:=by
 rw[cycR,List.all_eq_true];constructor
 · intro h
   have hex:∃ k,k≤n∧∀ j,j<n→onK l k j=true→onK l (k+1) j=true:=by
     refine Classical.byContradiction fun hno=>?_
     have hstep:∀ k,k≤n→∃ j,j<n∧onK l k j=true∧onK l (k+1) j=false:=fun k hk=>Classical.byContradiction fun hc=>hno ⟨k,hk,fun j hj h1=>by
       cases h2:onK l (k+1) j
       · exact absurd ⟨j,hj,h1,h2⟩ hc
       · rfl⟩
     have key:∀ k,k≤n+1→((List.range n).filter (onK l k)).length+k≤n:=fun k=>by
       induction k with
       | zero =>
         intro _;have:=List.length_filter_le (onK l 0) (List.range n);simpa using this
       | succ k ih =>
         intro hk;obtain⟨j,hj,h1,h2⟩:=hstep k (by omega);have:=filter_lt (fun j=>Ss l k j) (List.mem_range.2 hj) h1 h2;have:=ih (by omega);omega
     have:=key (n+1) (Nat.le_refl _);omega
   obtain⟨k,hk,hs⟩:=hex;refine⟨fun j=>0≤j∧j<n∧onK l k j.toNat=true,fun j hj=>⟨⟨hj.1,hj.2.1⟩,?_⟩,?_⟩
   · have h1:=hs j.toNat (by omega) hj.2.2
     simp only[onK,onF,List.any_eq_true,Bool.and_eq_true,decide_eq_true_eq] at h1;obtain⟨r,hr,he,hf,ht⟩:=h1;have hb:=hl r hr;exact⟨r,hr,he,by omega,by omega,by omega,hf⟩
   · have h1:=h k (by simp;omega)
     simp only[z4a,List.any_eq_true,Bool.and_eq_true] at h1;obtain⟨r,hr,_,hf⟩:=h1;have hb:=hl r hr;exact⟨r.from_,by omega,by omega,hf⟩
 · rintro⟨C,hC,j,hj⟩ k _
   have key:∀ k i,C i→onK l k i.toNat=true:=fun k=>by
     induction k with
     | zero=>exact fun _ _=>rfl
     | succ k ih =>
       intro i hi;obtain⟨h1,r,hr,he,ht,hf⟩:=hC i hi;simp only[onK,onF,List.any_eq_true,Bool.and_eq_true,decide_eq_true_eq];exact⟨r,hr,he,ih _ hf,by omega⟩
   obtain⟨_,r,hr,he,_,hf⟩:=hC j hj;simp only[z4a,List.any_eq_true,Bool.and_eq_true];exact⟨r,hr,he,key k _ hf⟩
end Go.Proofs.Ytbcjoeadpjfcfaa
namespace Go.Proofs.Ytbcjoeadpjfcfaa.Abs
theorem z4b {n b:Nat} {env:Env} {l l':List Grp} {g w v d:Nat} {ex:Bool} {x:AV} (ks:List Nat) (hw:0<w) (hlt:g<l.length) (hg:l.getD g default=⟨w,v,ex,[x]⟩) (hk:g∉ks)
   (hok:Cj d ((hl l).only ks) x) (hl':(D5 0 ks l).set g ⟨w,v,ex,[frzV d ((hl l).only ks) x]⟩=l'):Ent n b env (hl l) env (hl l'):=fun S val hb hS hv=>by
 subst hl';have hS1:=Mo ks hS;have he:=Fs ks hS;refine⟨S.kill (hl l) ks,rfl,he.down hb,?_,fun i hi=>VRel.mono he _ (hv i hi)⟩;have hlk:g<(D5 0 ks l).length:=by rw[Fc];exact hlt
 have hat0:∀ j,j<l.length→((hl l).kill ks).at_ j=(D5 0 ks l).getD j default:=fun j hj=>by
   rw[J4 0 ks l j hj,Nat.zero_add];rfl
 have hn:(hl ((D5 0 ks l).set g ⟨w,v,ex,[frzV d ((hl l).only ks) x]⟩)).n=((hl l).kill ks).n:=by simp[hl,Ac.kill,Fc]
 have hlen:((hl l).kill ks).n=l.length:=rfl
 have hat:∀ j,j<l.length→(hl ((D5 0 ks l).set g ⟨w,v,ex,[frzV d ((hl l).only ks) x]⟩)).at_ j=if j=g then ⟨w,v,ex,[frzV d ((hl l).only ks) x]⟩ else ((hl l).kill ks).at_ j:=fun j hj=>by
   rw[Cg];by_cases e:j=g
   · subst e;rw[if_pos rfl];exact Jk _ hlk
   · rw[if_neg e,hat0 j hj];exact Ep _ (Ne.symm e)
 have hgk:((hl l).kill ks).at_ g=⟨w,v,ex,[x]⟩:=by
   show (if g∈ks then _ else _)=_;rw[if_neg hk,Cg,hg]
 have h1:GRel (S.kill (hl l) ks) ⟨w,v,ex,[x]⟩ g:=by have:=hS1.grp g (by rw[hlen];exact hlt);rwa [hgk] at this
 have h0:GRel S ⟨w,v,ex,[x]⟩ g:=by have:=hS.grp g hlt;rwa [Cg,hg] at this
 have hG:GRel (S.kill (hl l) ks) ⟨w,v,ex,[frzV d ((hl l).only ks) x]⟩ g:=by
   refine⟨h1.ver,h1.wid,fun _ hc=>?_,fun hh=>h1.len hh,fun hh he=>h1.full hh he,fun hh=>by simp only at hh;omega⟩;obtain⟨⟨cells,TT,vs,a1,a2,a3,a4⟩,_⟩:=h0.live hw hc;refine⟨⟨cells,TT,vs,a1,a2,?_,a4⟩,(h1.live hw hc).2⟩;obtain⟨u,r,rfl,hu,hr⟩:=a3;exact⟨u,r,rfl,Mp ks hS d hok hu,hr.mono he⟩
 have hhas:∀ j,j<l.length→((hl ((D5 0 ks l).set g ⟨w,v,ex,[frzV d ((hl l).only ks) x]⟩)).at_ j).has ((S.kill (hl l) ks).cap j)→(((hl l).kill ks).at_ j).has ((S.kill (hl l) ks).cap j):=fun j hj h=>by
   rw[hat j hj] at h;by_cases e:j=g
   · subst e;rw[if_pos rfl] at h;rw[hgk];exact h
   · rw[if_neg e] at h;exact h
 refine⟨hS1.n.trans hn.symm,fun j hj=>?_,fun j j' a c hne p q=>hS1.apart j j' (by rwa [hn] at a) (by rwa [hn] at c) hne (hhas j (by rwa [hn] at a) p) (hhas j' (by rwa [hn] at c) q),hS1.im⟩;rw[hn] at hj;rw[hat j hj];by_cases e:j=g
 · subst e;rw[if_pos rfl];exact hG
 · rw[if_neg e];exact hS1.grp j hj
mutual
theorem zfy {m:Nat} {σ:Nat→Nat} (h:∀ g,g<m→σ g=g):∀ x:AV,ltV m x→ren σ x=x
 | .any,_|.bool _,_|.int _ _,_|.str _,_|.nilS,_|.nul,_|.emp,_|.nilP,_|.nilF,_|.yld _,_|.lst _ _,_|.full _ _,_|.cptr _,_=>rfl
 | .map g v,hx=>by rw[ren,h g hx]
 | .ref g v o n,hx=>by rw[ren,h g hx]
 | .ptr g v i o,hx=>by rw[ren,h g hx]
 | .agg cs,hx=>by rw[ren,K4 h cs hx]
 | .tup cs,hx=>by rw[ren,K4 h cs hx]
 | .fn f cs,hx=>by rw[ren,K4 h cs hx]
theorem K4 {m:Nat} {σ:Nat→Nat} (h:∀ g,g<m→σ g=g):∀ xs:List AV,ltL m xs→renL σ xs=xs
 | [],_=>rfl
 | x::xs,hx=>by rw[renL,zfy h x hx.1,K4 h xs hx.2]
end
theorem zdf {m N g:Nat} (h:g<m):sg (List.range m) N g=g:=by
 unfold sg;rw[if_pos (by simpa using h)];simp[List.getD,h]
theorem z8z {m:Nat} {σ:Nat→Nat} (h:∀ g,g<m→σ g=g) {G:Grp} (hG:ltL m G.xs):renG σ G=G:=by
 cases G with
 | mk w v e xs=>rw[reG,K4 h xs hG]
theorem Qs:∀ (r extra pre:List Grp) (l:List Grp),l.length=r.length→setG ((List.range r.length).map (·+pre.length)) r (pre++l++extra)=pre++r++extra
 | [],extra,pre,l,h=>by
   have:l=[]:=List.eq_nil_of_length_eq_zero (by simpa using h);subst this;simp[setG]
 | G::r,extra,pre,[],h=>by simp at h
 | G::r,extra,pre,a::l,h=>by
   rw[List.length_cons,List.range_succ_eq_map,List.map_cons,List.map_map,z83];have e1:(pre++a::l++extra).set (0+pre.length) G=(pre++[G])++l++extra:=by simp
   have e2:(List.range r.length).map ((fun x=>x+pre.length) ∘ Nat.succ)=(List.range r.length).map (·+(pre++[G]).length):=List.map_congr_left fun i _=>by simp;omega
   rw[e1,e2,Qs r extra (pre++[G]) l (by simpa using h)];simp
theorem z90 {P:Program} {f:Nat} {xs:List AV} {l0 extra:List Grp} {K0 K:AV→Ac→Prop} (h:Bj P f xs (hl l0) K0) (hlt:ltL l0.length xs) (hltG:∀ G∈l0,ltL l0.length G.xs)
   (hK:∀ y H',K0 y H'→∃ l',H'=hl l'∧l'.length=l0.length∧ltV l0.length y∧(∀ G∈l',ltL l0.length G.xs)∧@nx y (hl (l'++extra)) ⟨K⟩):@R4 P f xs (hl (l0++extra)) ⟨K⟩:=by
 have hs:∀ g,g<l0.length→sg (List.range l0.length) (l0++extra).length g=g:=fun g hg=>zdf hg;have hll:(List.range l0.length).length=l0.length:=by simp
 refine Xu (List.range l0.length) h List.nodup_range (fun k hk=>by simp at hk ⊢;omega) (K4 hs xs hlt) ?_ (by rw[hll];exact hlt) (by rw[hll];exact hltG) ?_
 · refine List.ext_getElem (by simp) fun i h1 h2=>?_
   have hi:i<l0.length:=by simpa using h1
   simp only[List.getElem_map,List.getElem_range];rw[z8z hs (hltG _ (List.getElem_mem hi))];simp[List.getD,List.getElem?_append_left hi,hi]
 · intro y H' hy
   obtain⟨l',rfl,h1,h2,h3,h4⟩:=hK y H' hy;refine⟨l',rfl,by rw[hll,h1];exact Nat.le_refl _,?_⟩;rw[zfy hs y h2];have e1:l'.map (renG (sg (List.range l0.length) (l0++extra).length))=l':=(List.map_congr_left fun G hG=>z8z hs (h3 G hG)).trans (List.map_id _);rw[e1];have e2:=Qs l' extra [] l0 h1.symm;simp only[List.length_nil,Nat.add_zero,List.map_id',List.nil_append,h1] at e2;rw[e2];exact h4
end Go.Proofs.Ytbcjoeadpjfcfaa.Abs
