/-
  Parts of the proof that the law holds whatever the input; without conditions.
-/
import Derived.Test.YtbcjoeadpjfcfaaGreatRA4
import Derived.Test.YtbcjoeadpjfcfaaGreatRA3
set_option linter.unusedSimpArgs false
set_option linter.unusedVariables false
namespace Go.Proofs.YtbcjoeadpjfcfaaGreat
open Abs Go.RowKit
abbrev shI:Sh:=.int .i64
abbrev zcz:Sh:=.sl true [shI,shI]
abbrev V3:Sh:=.sl false [zcz]
abbrev z1v:Sh:=.sl false [.int .i32]
abbrev zd0:Sh:=.sl true [shI,shI,shI,shI]
abbrev zd1:List Sh:=[shI,shI,shI,shI,shI,zd0]
abbrev z1w:Sh:=.sl true zd1
abbrev zd2:List Sh:=[shI,shI,V3,shI,z1w]
abbrev z5n:List Sh:=[shI,V3,z1w]
abbrev V4:List Sh:=[shI,shI,shI,shI,.sl true zd2,.sl true z5n]
theorem wf_i32 {n:Int} (h:(Lit.int .i32 n).wf=true):-2147483648≤n∧n≤2147483647:=by
 simpa [Lit.wf,IntKind.min,IntKind.max,IntKind.signed,IntKind.bits] using h
theorem K1 {α:Type} {agg:Bool} {fs:List Sh} {x:AV} (f:α→AV) (Q:α→Prop) (hp:∀ l:List α,Ak (l.map f)=true) (hpos:0<fs.length)
   (he:∀ cs,IsL fs cs→∃ a,AV.le (if agg then .agg cs else cs.headD .any) (f a)∧Q a) (h:Is (.sl agg fs) x):∃ l:List α,AV.le x (.lst fs.length (l.map f))∧l.length≤maxLen∧∀ a∈l,Q a:=by
 rcases h with rfl|⟨xs,rfl,hl,hx⟩
 · exact⟨[],AV.le_nilS hpos,Nat.zero_le _,fun _ h=>by cases h⟩
 · have key:∀ xs:List AV,(∀ y∈xs,∃ cs,y=(if agg then AV.agg cs else cs.headD .any)∧IsL fs cs)→∃ l:List α,l.length=xs.length∧leL xs (l.map f)∧∀ a∈l,Q a:=by
     intro xs
     induction xs with
     | nil=>intro _;exact⟨[],rfl,Dd,fun _ h=>by cases h⟩
     | cons y r ih =>
       intro hy;obtain⟨l,h1,h2,h3⟩:=ih fun z hz=>hy z (List.mem_cons_of_mem _ hz);obtain⟨cs,rfl,hcs⟩:=hy y (List.mem_cons_self ..);obtain⟨a,h4,h5⟩:=he cs hcs;refine⟨a::l,by simp[h1],An h4 h2,fun b hb=>?_⟩;rcases List.mem_cons.1 hb with rfl|hb
       · exact h5
       · exact h3 b hb
   obtain⟨l,h1,h2,h3⟩:=key xs hx;exact⟨l,AV.le_lst (by simp[h1]) (hp l) h2,by rw[h1];exact hl,h3⟩
def i64s (l:List Int):Prop:=∀ n∈l,(Lit.int .i64 n).wf=true
theorem z1x {k:IntKind} {x:AV} (h:Is (.sl false [.int k]) x):∃ l:List Int,AV.le x (.lst 1 (l.map (AV.int k)))∧l.length≤maxLen∧∀ n∈l,(Lit.int k n).wf=true :=
 K1 (fs:=[.int k]) (AV.int k) (fun n=>(Lit.int k n).wf=true) (Ay k) (by simp) (fun cs h=>by
   obtain⟨_,_,rfl,⟨n,rfl,h3⟩,_⟩:=h
   exact⟨n,AV.le_refl _,h3⟩) h
def Tt (s:Span):Prop:=i64s [s.lo,s.hi]
theorem zi9 {x:AV} (h:Is zcz x):∃ l:List Span,AV.le x (Aj l)∧l.length≤maxLen∧∀ s∈l,Tt s :=
 K1 B3 Tt Dm (by decide) (fun cs h=>by
   obtain⟨_,_,rfl,⟨a,rfl,ha⟩,_,_,rfl,⟨b,rfl,hb⟩,rfl⟩:=h
   exact⟨⟨a,b⟩,AV.le_refl _,by simp[Tt,i64s,ha,hb]⟩) h
theorem Zc {x:AV} (h:Is V3 x):∃ l:List (List Span),AV.le x (Ao l)∧l.length≤maxLen∧∀ g∈l,g.length≤maxLen∧∀ s∈g,Tt s :=
 K1 Aj (fun g=>g.length≤maxLen∧∀ s∈g,Tt s) Ah (by decide) (fun cs h=>by
   obtain⟨c,_,rfl,hc,_⟩:=h;obtain⟨l,h1,h2,h3⟩:=zi9 hc
   exact⟨l,h1,h2,h3⟩) h
def z5o (p:Part):Prop:=i64s [p.at_,p.drop,p.take,p.up]
theorem zia {x:AV} (h:Is zd0 x):∃ l:List Part,AV.le x (Bg l)∧l.length≤maxLen∧∀ s∈l,z5o s :=
 K1 Cj z5o Hl (by decide) (fun cs h=>by
   obtain⟨_,_,rfl,⟨a,rfl,ha⟩,_,_,rfl,⟨b,rfl,hb⟩,_,_,rfl,⟨c,rfl,hc⟩,_,_,rfl,⟨d,rfl,hd⟩,rfl⟩:=h
   exact⟨⟨a,b,c,d⟩,AV.le_refl _,by simp[z5o,i64s,ha,hb,hc,hd]⟩) h
def z5p (t:Term):Prop:=i64s [t.base,t.drop,t.take,t.up,t.sum]∧t.parts.length≤maxLen∧∀ p∈t.parts,z5o p
theorem zib {cs:List AV} (h:IsL zd1 cs):∃ t:Term,AV.le (.agg cs) (Cn t)∧z5p t:=by
 obtain⟨_,_,rfl,⟨a,rfl,ha⟩,_,_,rfl,⟨b,rfl,hb⟩,_,_,rfl,⟨c,rfl,hc⟩,_,_,rfl,⟨d,rfl,hd⟩,_,_,rfl,⟨e,rfl,he⟩,x,_,rfl,hx,rfl⟩:=h;obtain⟨l,h1,h2,h3⟩:=zia hx;exact⟨⟨a,b,c,d,e,l⟩,AV.le_agg (An (AV.le_refl _) (An (AV.le_refl _) (An (AV.le_refl _) (An (AV.le_refl _) (An (AV.le_refl _) (An h1 Dd)))))),by simp[i64s,ha,hb,hc,hd,he],h2,h3⟩
theorem z5q {x:AV} (h:Is z1w x):∃ l:List Term,AV.le x (Ea l)∧l.length≤maxLen∧∀ t∈l,z5p t :=
 K1 Cn z5p Bl (by decide) (fun cs h=>by simpa using zib h) h
def z5r (g:List (List Span)):Prop:=g.length≤maxLen∧∀ l∈g,l.length≤maxLen∧∀ s∈l,Tt s
def zd3 (l:List Term):Prop:=l.length≤maxLen∧∀ t∈l,z5p t
def zd4 (r:Rule):Prop:=i64s [r.from_,r.to_,r.eat]∧z5r r.guards∧zd3 r.out
def z1y (f:Eu):Prop:=i64s [f.from_]∧z5r f.guards∧zd3 f.out
theorem zpk {cs:List AV} (h:IsL zd2 cs):∃ r:Rule,AV.le (.agg cs) (Se r)∧zd4 r:=by
 obtain⟨_,_,rfl,⟨a,rfl,ha⟩,_,_,rfl,⟨b,rfl,hb⟩,x,_,rfl,hx,_,_,rfl,⟨c,rfl,hc⟩,y,_,rfl,hy,rfl⟩:=h;obtain⟨g,g1,g2,g3⟩:=Zc hx;obtain⟨o,o1,o2,o3⟩:=z5q hy;exact⟨⟨a,b,g,c,o⟩,AV.le_agg (An (AV.le_refl _) (An (AV.le_refl _) (An g1 (An (AV.le_refl _) (An o1 Dd))))),by simp[i64s,ha,hb,hc],⟨g2,g3⟩,o2,o3⟩
theorem zic {cs:List AV} (h:IsL z5n cs):∃ r:Eu,AV.le (.agg cs) (J8 r)∧z1y r:=by
 obtain⟨_,_,rfl,⟨a,rfl,ha⟩,x,_,rfl,hx,y,_,rfl,hy,rfl⟩:=h;obtain⟨g,g1,g2,g3⟩:=Zc hx;obtain⟨o,o1,o2,o3⟩:=z5q hy;exact⟨⟨a,g,o⟩,AV.le_agg (An (AV.le_refl _) (An g1 (An o1 Dd))),by simp[i64s,ha],⟨g2,g3⟩,o2,o3⟩
def ztz (d:Desc):Prop:=i64s [d.in_,d.out,d.states,d.start]∧(d.rules.length≤maxLen∧∀ r∈d.rules,zd4 r)∧d.finals.length≤maxLen∧∀ f∈d.finals,z1y f
theorem z1z {x:AV} (h:IsP (.rcd V4) x):∃ d:Desc,AV.le x (B2 d)∧ztz d:=by
 obtain⟨_,rfl,_,_,rfl,⟨a,rfl,ha⟩,_,_,rfl,⟨b,rfl,hb⟩,_,_,rfl,⟨c,rfl,hc⟩,_,_,rfl,⟨e,rfl,he⟩,x,_,rfl,hx,y,_,rfl,hy,rfl⟩:=h;obtain⟨r,r1,r2,r3⟩:=K1 Se zd4 Az (by decide) (fun cs h=>by simpa using zpk h) hx;obtain⟨f,f1,f2,f3⟩:=K1 J8 z1y As (by decide) (fun cs h=>by simpa using zic h) hy;exact⟨⟨a,b,c,e,r,f⟩,AV.le_agg (An (AV.le_refl _) (An (AV.le_refl _) (An (AV.le_refl _) (An (AV.le_refl _) (An r1 (An f1 Dd)))))),by simp[i64s,ha,hb,hc,he],⟨r2,r3⟩,f2,f3⟩
end Go.Proofs.YtbcjoeadpjfcfaaGreat
namespace Go.Proofs.YtbcjoeadpjfcfaaGreat
open Abs
theorem zid {o:Option Int} (h:o.isSome=true):o=some (o.getD 0):=by cases o<;>simp_all
def Cr (r:Rule):Bool:=decide ((r.guards.length:Int)=0)
def toD (l:List Rule) (i:Nat):List Int:=(l.filter fun r=>Cr r&&decide (r.from_=i)).map (·.to_)
def inD (l:List Rule) (j:Nat):Int:=((l.filter fun r=>Cr r&&decide (r.to_=j)).length:Int)
def cntE (l:List Rule) (P:List Int) (j:Nat):Int:=((l.filter fun r=>Cr r&&(decide (r.to_=j)&&!decide (r.from_∈P))).length:Int)
theorem V5 (l:List Rule) (j:Nat):cntE l [] j=inD l j:=by simp[cntE,inD]
theorem zpl (l:List Rule) (P:List Int) (j:Nat):0≤cntE l P j:=by simp only[cntE];omega
theorem zpm (l:List Rule) (P:List Int) (j:Nat):cntE l P j≤cntE l [] j:=by
 simp only[cntE]
 have:(l.filter fun r=>Cr r&&(decide (r.to_=j)&&!decide (r.from_∈P))).length≤(l.filter fun r=>Cr r&&(decide (r.to_=j)&&!decide (r.from_∈([]:List Int)))).length:=by
   induction l with
   | nil=>simp
   | cons r l ih =>
     simp only[List.filter_cons];cases Cr r<;>cases decide (r.to_=(j:Int))<;>cases decide (r.from_∈P)<;>simp at ih ⊢<;>omega
 omega
theorem V6 {s j:Nat} {P:List Int} (hs:(s:Int)∉P):∀ l:List Rule,cntE l (P++[(s:Int)]) j+((toD l s).count (j:Int):Int)=cntE l P j
 | []=>by simp[cntE,toD]
 | r::l=>by
   have ih:=V6 (j:=j) hs l;simp only[cntE,toD,List.filter_cons] at ih ⊢;cases he:Cr r
   · simpa using ih
   · simp only[Bool.true_and]
     by_cases ht:r.to_=j
     · by_cases hf:r.from_=s
       · have h1:r.from_∈P++[(s:Int)]:=by simp[hf]
         have h2:r.from_∉P:=by rw[hf];exact hs
         simp only[ht,hf] at h1 h2 ⊢;simp only[decide_true,h1,h2,decide_false,Bool.not_true,Bool.not_false,Bool.and_false,Bool.and_true,if_true,Bool.false_eq_true,if_false,List.length_cons,List.map_cons,List.count_cons_self,ht]
         push_cast
         omega
       · have h1:(r.from_∈P++[(s:Int)])↔r.from_∈P:=by simp[hf]
         by_cases h2:r.from_∈P
         · simp only[ht,hf,h1,h2,decide_true,decide_false,Bool.not_true,Bool.and_false,Bool.false_eq_true,if_false]
           exact ih
         · simp only[ht,hf,h1,h2,decide_true,decide_false,Bool.not_false,Bool.and_true,if_true,Bool.false_eq_true,if_false,List.length_cons]
           push_cast
           omega
     · by_cases hf:r.from_=s
       · simp only[ht,hf,decide_false,decide_true,Bool.false_and,Bool.false_eq_true,if_false,if_true,List.map_cons]
         rw[List.count_cons_of_ne ht];exact ih
       · simp only[ht,hf,decide_false,Bool.false_and,Bool.false_eq_true,if_false]
         exact ih
theorem Jv:∀ {a b:List Int},a.Nodup→(∀ x∈a,x∈b)→a.length≤b.length
 | [],b,_,_=>Nat.zero_le _
 | x::a,b,hn,h=>by
   obtain⟨h1,h2⟩:=List.nodup_cons.1 hn;have hx:=h x (by simp);have:=Jv (a:=a) (b:=b.erase x) h2 fun y hy=>(List.mem_erase_of_ne (fun (e:y=x)=>h1 (by rw[←e];exact hy))).2 (h y (by simp[hy]));rw[List.length_erase_of_mem hx] at this;have:=List.length_pos_of_mem hx;simp only[List.length_cons];omega
def idsN (n:Nat):List Int:=(List.range n).map fun (i:Nat)=>(i:Int)
theorem zd5 (n:Nat):(idsN n).Nodup:=by
 rw[idsN,List.nodup_iff_pairwise_ne,List.pairwise_map];exact (List.nodup_iff_pairwise_ne.1 (List.nodup_range)).imp fun h e=>h (by omega)
theorem V7 {n:Nat} {x:Int}:x∈idsN n↔0≤x∧x<n:=by
 simp only[idsN,List.mem_map,List.mem_range];constructor
 · rintro⟨i,hi,rfl⟩;omega
 · rintro⟨h1,h2⟩;exact⟨x.toNat,by omega,by omega⟩
def zlh (l:List Rule) (n:Nat) (C:Int→Prop):Prop:=∀ j,C j→(0≤j∧j<n)∧∃ r∈l,Cr r=true∧r.to_=j∧C r.from_
def cycP (l:List Rule) (n:Nat):Prop:=∃ C,zlh l n C∧∃ j,C j
structure KInv (l:List Rule) (n:Nat) (D:List Int) (I:Nat→Int):Prop where
 nodup:D.Nodup
 range:∀ x∈D,0≤x∧x<n
 zero:∀ j,j<n→((j:Int)∈D↔I j=0)
 apart:∀ C,zlh l n C→∀ x∈D,¬C x
theorem KInv.len {l:List Rule} {n:Nat} {D:List Int} {I:Nat→Int} (h:KInv l n D I):D.length≤n:=by
 have:=Jv h.nodup fun x hx=>V7.2 (h.range x hx);simpa [idsN] using this
def K2 (f:Nat→Int) (k:Nat):List Int:=((List.range k).filter fun j=>decide (f j=0)).map fun (j:Nat)=>(j:Int)
theorem z8e (f:Nat→Int) (k:Nat):K2 f (k+1)=if f k=0 then K2 f k++[(k:Int)] else K2 f k:=by
 rw[K2,List.range_succ,List.filter_append,List.map_append];split
 · rename_i h;simp[K2,h]
 · rename_i h;simp[K2,h]
theorem zd6 (f:Nat→Int) (k:Nat):(K2 f k).length≤k:=by
 have:=List.length_filter_le (fun j=>decide (f j=0)) (List.range k);simpa [K2] using this
theorem zpn {l:List Rule} {r:Rule} {j:Nat} (hr:r∈l) (he:Cr r=true) (ht:r.to_=j):0<inD l j:=by
 have:0<(l.filter fun r=>Cr r&&decide (r.to_=j)).length:=List.length_pos_of_mem (List.mem_filter.2 ⟨hr,by simp[he,ht]⟩);simp only[inD];omega
theorem zie {l:List Rule} {P:List Int} {r:Rule} {j:Nat} (hr:r∈l) (he:Cr r=true) (ht:r.to_=j) (hf:r.from_∉P):0<cntE l P j:=by
 have:0<(l.filter fun r=>Cr r&&(decide (r.to_=j)&&!decide (r.from_∈P))).length:=List.length_pos_of_mem (List.mem_filter.2 ⟨hr,by simp[he,ht,hf]⟩);simp only[cntE];omega
theorem z8f (l:List Rule) (n:Nat):KInv l n (K2 (inD l) n) (cntE l []) where
 nodup:=by
   rw[K2,List.nodup_iff_pairwise_ne,List.pairwise_map];exact ((List.nodup_iff_pairwise_ne.1 (List.nodup_range)).filter _).imp fun h e=>h (by omega)
 range x hx:=by
   obtain⟨i,hi,rfl⟩:=List.mem_map.1 hx;have:=(List.mem_filter.1 hi).1;simp at this;omega
 zero j hj:=by
   rw[V5];simp only[K2,List.mem_map,List.mem_filter,List.mem_range,decide_eq_true_eq];constructor
   · rintro⟨i,⟨h1,h2⟩,e⟩
     obtain rfl:i=j:=by omega
     exact h2
   · intro h;exact⟨j,⟨hj,h⟩,rfl⟩
 apart C hC x hx hCx:=by
   obtain⟨i,hi,rfl⟩:=List.mem_map.1 hx;have h0:=(List.mem_filter.1 hi).2;simp only[decide_eq_true_eq] at h0;obtain⟨_,r,hr,he,ht,_⟩:=hC _ hCx;have:=zpn hr he ht;omega
def E8 (l:List Rule) (P:List Int) (s m:Nat) (j:Nat):Int:=cntE l P j-(((toD l s).take m).count (j:Int):Int)
theorem Tu (l:List Rule) (P:List Int) (s:Nat):E8 l P s 0=cntE l P:=by funext j;simp[E8]
theorem zd7 {l:List Rule} {P:List Int} {s:Nat} (hs:(s:Int)∉P):E8 l P s (toD l s).length=cntE l (P++[(s:Int)]):=by
 funext j;have:=V6 (j:=j) hs l;rw[E8,List.take_length];omega
theorem z5s {l:List Rule} {P:List Int} {s m j:Nat} (hs:(s:Int)∉P):cntE l (P++[(s:Int)]) j≤E8 l P s m j:=by
 have h1:=V6 (j:=j) hs l;have h2:=(List.take_sublist m (toD l s)).count_le (j:Int);rw[E8];omega
theorem M6 {l:List Rule} {P:List Int} {s m t:Nat} (hm:m<(toD l s).length) (ht:nth (toD l s) m=t):E8 l P s (m+1)=fun j=>if j=t then E8 l P s m t-1 else E8 l P s m j:=by
 funext j;rw[E8,take_at hm,List.count_append,ht];by_cases e:j=t
 · subst e;simp[E8];omega
 · have h0:List.count (j:Int) [(t:Int)]=0:=List.count_eq_zero.2 (by simp;omega)
   rw[if_neg e,h0,E8];omega
theorem Zd {l:List Rule} {P:List Int} {s m t:Nat} (hs:(s:Int)∉P) (hm:m<(toD l s).length) (ht:nth (toD l s) m=t):0<E8 l P s m t:=by
 have h1:=z5s (l:=l) (m:=m+1) (j:=t) hs;have h2:=zpl l (P++[(s:Int)]) t;rw[M6 hm ht] at h1;simp only[if_true] at h1;omega
theorem zd8 {l:List Rule} {n:Nat} {P td:List Int} {s m t:Nat} (hs:(s:Int)∉P) (hm:m<(toD l s).length) (ht:nth (toD l s) m=t) (htn:t<n) (h:KInv l n (P++[(s:Int)]++td) (E8 l P s m)) :
   KInv l n (P++[(s:Int)]++if E8 l P s m t-1=0 then td++[(t:Int)] else td) (E8 l P s (m+1)):=by
 have hp:=Zd hs hm ht
 have hno:(t:Int)∉P++[(s:Int)]++td:=fun hh=>by
   have:=(h.zero t htn).1 hh;omega
 have hst:=M6 (P:=P) hm ht;split
 · rename_i h0
   rw[←List.append_assoc];refine⟨List.nodup_append.2 ⟨h.nodup,by simp,fun a ha b hb=>?_⟩,fun x hx=>?_,fun j hj=>?_,fun C hC x hx hCx=>?_⟩
   · simp only[List.mem_singleton] at hb
     subst hb;exact fun e=>hno (e ▸ ha)
   · rcases List.mem_append.1 hx with hx|hx
     · exact h.range x hx
     · simp only[List.mem_singleton] at hx;omega
   · rw[hst,List.mem_append,List.mem_singleton]
     by_cases e:j=t
     · subst e;simp[h0]
     · simp only[if_neg e]
       rw[←h.zero j hj];exact⟨fun hh=>hh.elim id fun hh=>absurd hh (by omega),.inl⟩
   · rcases List.mem_append.1 hx with hx|hx
     · exact h.apart C hC x hx hCx
     · simp only[List.mem_singleton] at hx
       subst hx;obtain⟨_,r,hr,he,hrt,hrf⟩:=hC _ hCx;have hf:r.from_∉P++[(s:Int)]:=fun hh=>h.apart C hC _ (List.mem_append.2 (.inl hh)) hrf;have h1:=zie hr he hrt hf;have h2:=z5s (l:=l) (m:=m+1) (j:=t) hs;rw[hst] at h2;simp only[if_true] at h2;omega
 · rename_i h0
   refine⟨h.nodup,h.range,fun j hj=>?_,h.apart⟩;rw[hst];by_cases e:j=t
   · subst e;simp only[if_true];exact⟨fun hh=>absurd hh hno,fun hh=>absurd hh h0⟩
   · simp only[if_neg e];exact h.zero j hj
theorem zd9 {l:List Rule} {n:Nat} {P:List Int} (hl:∀ r∈l,0≤r.from_∧r.from_<n) (h:KInv l n P (cntE l P)):P.length<n↔cycP l n:=by
 constructor
 · intro hlt
   refine⟨fun j=>(0≤j∧j<n)∧j∉P,fun j hj=>⟨hj.1,?_⟩,?_⟩
   · have h0:cntE l P j.toNat≠0:=fun h0=>hj.2 (by
       have:=(h.zero j.toNat (by omega)).2 h0
       rwa [show ((j.toNat:Nat):Int)=j by omega] at this)
     have:0<(l.filter fun r=>Cr r&&(decide (r.to_=(j.toNat:Nat))&&!decide (r.from_∈P))).length:=by
       simp only[cntE] at h0;omega
     obtain⟨r,hr⟩:=List.exists_mem_of_length_pos this;obtain⟨h1,h2⟩:=List.mem_filter.1 hr;simp only[Bool.and_eq_true,decide_eq_true_eq,Bool.not_eq_true',decide_eq_false_iff_not] at h2;exact⟨r,h1,h2.1,by rw[h2.2.1];omega,hl r h1,h2.2.2⟩
   · refine Classical.byContradiction fun hno=>?_
     have:=Jv (zd5 n) fun x hx=>Classical.byContradiction fun hp=>hno ⟨x,V7.1 hx,hp⟩;simp[idsN] at this;omega
 · rintro⟨C,hC,j,hj⟩
   have hr:=(hC j hj).1;have hjP:j∉P:=fun hh=>h.apart C hC j hh hj
   have:=Jv (a:=j::P) (b:=idsN n) (List.nodup_cons.2 ⟨hjP,h.nodup⟩) fun x hx=>by
     rcases List.mem_cons.1 hx with rfl|hx
     · exact V7.2 hr
     · exact V7.2 (h.range x hx)
   simp[idsN] at this;omega
def onF (l:List Rule) (on:Nat→Bool) (j:Nat):Bool:=l.any fun r=>Cr r&&(on r.from_.toNat&&decide (r.to_=j))
def onK (l:List Rule):Nat→Nat→Bool
 | 0=>fun _=>true
 | k+1=>onF l (onK l k)
def z8g (l:List Rule) (on:Nat→Bool):Bool:=l.any fun r=>Cr r&&on r.from_.toNat
def cycR (l:List Rule) (n:Nat):Bool:=(List.range (n+1)).all fun k=>z8g l (onK l k)
theorem zif {l:List Rule} {p q:Nat→Bool} (h:∀ j,p j=true→q j=true) (j:Nat):onF l p j=true→onF l q j=true:=by
 simp only[onF,List.any_eq_true,Bool.and_eq_true,decide_eq_true_eq];rintro⟨r,hr,h1,h2,h3⟩;exact⟨r,hr,h1,h _ h2,h3⟩
theorem V8 (l:List Rule):∀ (k j:Nat),onK l (k+1) j=true→onK l k j=true
 | 0,j,_=>rfl
 | k+1,j,h=>zif (fun j=>V8 l k j) j h
theorem filter_lt {p q:Nat→Bool} (h:∀ j,p j=true→q j=true):∀ {l:List Nat} {x:Nat},x∈l→q x=true→p x=false→(l.filter p).length<(l.filter q).length
 | [],_,hx,_,_=>by cases hx
 | y::l,x,hx,hq,hp=>by
   have hle:∀ l:List Nat,(l.filter p).length≤(l.filter q).length:=fun l=>by
     induction l with
     | nil=>simp
     | cons a l ih =>
       simp only[List.filter_cons];have:=h a;cases hpa:p a<;>cases hqa:q a<;>simp_all<;>omega
   simp only[List.filter_cons];rcases List.mem_cons.1 hx with rfl|hx
   · have:=hle l
     simp only[hp,hq,Bool.false_eq_true,if_false,if_true,List.length_cons];omega
   · have ih:=filter_lt h hx hq hp
     have:=h y;cases hpa:p y<;>cases hqa:q y<;>simp_all<;>omega
theorem zig {l:List Rule} {n:Nat} (hl:∀ r∈l,(0≤r.from_∧r.from_<n)∧0≤r.to_∧r.to_<n):cycR l n=true↔cycP l n:=by
 rw[cycR,List.all_eq_true];constructor
 · intro h
   have hex:∃ k,k≤n∧∀ j,j<n→onK l k j=true→onK l (k+1) j=true:=by
     refine Classical.byContradiction fun hno=>?_
     have hstep:∀ k,k≤n→∃ j,j<n∧onK l k j=true∧onK l (k+1) j=false:=fun k hk=>Classical.byContradiction fun hc=>hno ⟨k,hk,fun j hj h1=>by
       cases h2:onK l (k+1) j
       · exact absurd ⟨j,hj,h1,h2⟩ hc
       · rfl⟩
     have key:∀ k,k≤n+1→((List.range n).filter (onK l k)).length+k≤n:=fun k=>by
       induction k with
       | zero =>
         intro _;have:=List.length_filter_le (onK l 0) (List.range n);simpa using this
       | succ k ih =>
         intro hk;obtain⟨j,hj,h1,h2⟩:=hstep k (by omega);have:=filter_lt (fun j=>V8 l k j) (List.mem_range.2 hj) h1 h2;have:=ih (by omega);omega
     have:=key (n+1) (Nat.le_refl _);omega
   obtain⟨k,hk,hs⟩:=hex;refine⟨fun j=>0≤j∧j<n∧onK l k j.toNat=true,fun j hj=>⟨⟨hj.1,hj.2.1⟩,?_⟩,?_⟩
   · have h1:=hs j.toNat (by omega) hj.2.2
     simp only[onK,onF,List.any_eq_true,Bool.and_eq_true,decide_eq_true_eq] at h1;obtain⟨r,hr,he,hf,ht⟩:=h1;have hb:=hl r hr;exact⟨r,hr,he,by omega,by omega,by omega,hf⟩
   · have h1:=h k (by simp;omega)
     simp only[z8g,List.any_eq_true,Bool.and_eq_true] at h1;obtain⟨r,hr,_,hf⟩:=h1;have hb:=hl r hr;exact⟨r.from_,by omega,by omega,hf⟩
 · rintro⟨C,hC,j,hj⟩ k _
   have key:∀ k i,C i→onK l k i.toNat=true:=fun k=>by
     induction k with
     | zero=>exact fun _ _=>rfl
     | succ k ih =>
       intro i hi;obtain⟨h1,r,hr,he,ht,hf⟩:=hC i hi;simp only[onK,onF,List.any_eq_true,Bool.and_eq_true,decide_eq_true_eq];exact⟨r,hr,he,ih _ hf,by omega⟩
   obtain⟨_,r,hr,he,_,hf⟩:=hC j hj;simp only[z8g,List.any_eq_true,Bool.and_eq_true];exact⟨r,hr,he,key k _ hf⟩
end Go.Proofs.YtbcjoeadpjfcfaaGreat
namespace Go.Proofs.YtbcjoeadpjfcfaaGreat.Abs
theorem z8h {n b:Nat} {env:Env} {l l':List Grp} {g w v d:Nat} {ex:Bool} {x:AV} (ks:List Nat) (hw:0<w) (hlt:g<l.length) (hg:l.getD g default=⟨w,v,ex,[x]⟩) (hk:g∉ks)
   (hok:Cp d ((hl l).only ks) x) (hl':(D1 0 ks l).set g ⟨w,v,ex,[frzV d ((hl l).only ks) x]⟩=l'):Ent n b env (hl l) env (hl l'):=fun S val hb hS hv=>by
 subst hl';have hS1:=Ov ks hS;have he:=G4 ks hS;refine⟨S.kill (hl l) ks,rfl,he.down hb,?_,fun i hi=>VRel.mono he _ (hv i hi)⟩;have hlk:g<(D1 0 ks l).length:=by rw[Gt];exact hlt
 have hat0:∀ j,j<l.length→((hl l).kill ks).at_ j=(D1 0 ks l).getD j default:=fun j hj=>by
   rw[Ll 0 ks l j hj,Nat.zero_add];rfl
 have hn:(hl ((D1 0 ks l).set g ⟨w,v,ex,[frzV d ((hl l).only ks) x]⟩)).n=((hl l).kill ks).n:=by simp[hl,Ac.kill,Gt]
 have hlen:((hl l).kill ks).n=l.length:=rfl
 have hat:∀ j,j<l.length→(hl ((D1 0 ks l).set g ⟨w,v,ex,[frzV d ((hl l).only ks) x]⟩)).at_ j=if j=g then ⟨w,v,ex,[frzV d ((hl l).only ks) x]⟩ else ((hl l).kill ks).at_ j:=fun j hj=>by
   rw[Cy];by_cases e:j=g
   · subst e;rw[if_pos rfl];exact Ko _ hlk
   · rw[if_neg e,hat0 j hj];exact F6 _ (Ne.symm e)
 have hgk:((hl l).kill ks).at_ g=⟨w,v,ex,[x]⟩:=by
   show (if g∈ks then _ else _)=_;rw[if_neg hk,Cy,hg]
 have h1:GRel (S.kill (hl l) ks) ⟨w,v,ex,[x]⟩ g:=by have:=hS1.grp g (by rw[hlen];exact hlt);rwa [hgk] at this
 have h0:GRel S ⟨w,v,ex,[x]⟩ g:=by have:=hS.grp g hlt;rwa [Cy,hg] at this
 have hG:GRel (S.kill (hl l) ks) ⟨w,v,ex,[frzV d ((hl l).only ks) x]⟩ g:=by
   refine⟨h1.ver,h1.wid,fun _ hc=>?_,fun hh=>h1.len hh,fun hh he=>h1.full hh he,fun hh=>by simp only at hh;omega⟩;obtain⟨⟨cells,TT,vs,a1,a2,a3,a4⟩,_⟩:=h0.live hw hc;refine⟨⟨cells,TT,vs,a1,a2,?_,a4⟩,(h1.live hw hc).2⟩;obtain⟨u,r,rfl,hu,hr⟩:=a3;exact⟨u,r,rfl,Ow ks hS d hok hu,hr.mono he⟩
 have hhas:∀ j,j<l.length→((hl ((D1 0 ks l).set g ⟨w,v,ex,[frzV d ((hl l).only ks) x]⟩)).at_ j).has ((S.kill (hl l) ks).cap j)→(((hl l).kill ks).at_ j).has ((S.kill (hl l) ks).cap j):=fun j hj h=>by
   rw[hat j hj] at h;by_cases e:j=g
   · subst e;rw[if_pos rfl] at h;rw[hgk];exact h
   · rw[if_neg e] at h;exact h
 refine⟨hS1.n.trans hn.symm,fun j hj=>?_,fun j j' a c hne p q=>hS1.apart j j' (by rwa [hn] at a) (by rwa [hn] at c) hne (hhas j (by rwa [hn] at a) p) (hhas j' (by rwa [hn] at c) q),hS1.im⟩;rw[hn] at hj;rw[hat j hj];by_cases e:j=g
 · subst e;rw[if_pos rfl];exact hG
 · rw[if_neg e];exact hS1.grp j hj
mutual
theorem zli {m:Nat} {σ:Nat→Nat} (h:∀ g,g<m→σ g=g):∀ x:AV,ltV m x→ren σ x=x
 | .any,_|.bool _,_|.int _ _,_|.str _,_|.nilS,_|.nul,_|.emp,_|.nilP,_|.nilF,_|.yld _,_|.lst _ _,_|.full _ _,_|.cptr _,_=>rfl
 | .map g v,hx=>by rw[ren,h g hx]
 | .ref g v o n,hx=>by rw[ren,h g hx]
 | .ptr g v i o,hx=>by rw[ren,h g hx]
 | .agg cs,hx=>by rw[ren,M7 h cs hx]
 | .tup cs,hx=>by rw[ren,M7 h cs hx]
 | .fn f cs,hx=>by rw[ren,M7 h cs hx]
theorem M7 {m:Nat} {σ:Nat→Nat} (h:∀ g,g<m→σ g=g):∀ xs:List AV,ltL m xs→renL σ xs=xs
 | [],_=>rfl
 | x::xs,hx=>by rw[renL,zli h x hx.1,M7 h xs hx.2]
end
theorem zih {m N g:Nat} (h:g<m):sg (List.range m) N g=g:=by
 unfold sg;rw[if_pos (by simpa using h)];simp[List.getD,h]
theorem zda {m:Nat} {σ:Nat→Nat} (h:∀ g,g<m→σ g=g) {G:Grp} (hG:ltL m G.xs):renG σ G=G:=by
 cases G with
 | mk w v e xs=>rw[reG,M7 h xs hG]
theorem Tv:∀ (r extra pre:List Grp) (l:List Grp),l.length=r.length→setG ((List.range r.length).map (·+pre.length)) r (pre++l++extra)=pre++r++extra
 | [],extra,pre,l,h=>by
   have:l=[]:=List.eq_nil_of_length_eq_zero (by simpa using h);subst this;simp[setG]
 | G::r,extra,pre,[],h=>by simp at h
 | G::r,extra,pre,a::l,h=>by
   rw[List.length_cons,List.range_succ_eq_map,List.map_cons,List.map_map,zcc];have e1:(pre++a::l++extra).set (0+pre.length) G=(pre++[G])++l++extra:=by simp
   have e2:(List.range r.length).map ((fun x=>x+pre.length) ∘ Nat.succ)=(List.range r.length).map (·+(pre++[G]).length):=List.map_congr_left fun i _=>by simp;omega
   rw[e1,e2,Tv r extra (pre++[G]) l (by simpa using h)];simp
theorem zdb {P:Program} {f:Nat} {xs:List AV} {l0 extra:List Grp} {K0 K:AV→Ac→Prop} (h:Be P f xs (hl l0) K0) (hlt:ltL l0.length xs) (hltG:∀ G∈l0,ltL l0.length G.xs)
   (hK:∀ y H',K0 y H'→∃ l',H'=hl l'∧l'.length=l0.length∧ltV l0.length y∧(∀ G∈l',ltL l0.length G.xs)∧@nx y (hl (l'++extra)) ⟨K⟩):@Vd P f xs (hl (l0++extra)) ⟨K⟩:=by
 have hs:∀ g,g<l0.length→sg (List.range l0.length) (l0++extra).length g=g:=fun g hg=>zih hg;have hll:(List.range l0.length).length=l0.length:=by simp
 refine Vj (List.range l0.length) h List.nodup_range (fun k hk=>by simp at hk ⊢;omega) (M7 hs xs hlt) ?_ (by rw[hll];exact hlt) (by rw[hll];exact hltG) ?_
 · refine List.ext_getElem (by simp) fun i h1 h2=>?_
   have hi:i<l0.length:=by simpa using h1
   simp only[List.getElem_map,List.getElem_range];rw[zda hs (hltG _ (List.getElem_mem hi))];simp[List.getD,List.getElem?_append_left hi,hi]
 · intro y H' hy
   obtain⟨l',rfl,h1,h2,h3,h4⟩:=hK y H' hy;refine⟨l',rfl,by rw[hll,h1];exact Nat.le_refl _,?_⟩;rw[zli hs y h2];have e1:l'.map (renG (sg (List.range l0.length) (l0++extra).length))=l':=(List.map_congr_left fun G hG=>zda hs (h3 G hG)).trans (List.map_id _);rw[e1];have e2:=Tv l' extra [] l0 h1.symm;simp only[List.length_nil,Nat.add_zero,List.map_id',List.nil_append,h1] at e2;rw[e2];exact h4
end Go.Proofs.YtbcjoeadpjfcfaaGreat.Abs
