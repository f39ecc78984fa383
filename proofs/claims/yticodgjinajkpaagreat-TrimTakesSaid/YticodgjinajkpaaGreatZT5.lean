/-
  Parts of the proof that the law holds whatever the input; without conditions.
-/
import Derived.Test.YticodgjinajkpaaGreatZT4
import Derived.Test.YticodgjinajkpaaGreatZT3
set_option linter.unusedSimpArgs false
set_option linter.unusedVariables false
namespace Go.Proofs.YticodgjinajkpaaGreat
open Abs
theorem zc1 {x:Int}:B5 x=true ↔ -1114111 ≤ x∧x ≤ 1114111:=by simp [B5]
theorem E6 {x:Int} (h:B5 x=true):-1114111 ≤ x∧x ≤ 1114111:=zc1.1 h
end Go.Proofs.YticodgjinajkpaaGreat
namespace Go.Proofs.YticodgjinajkpaaGreat
open Abs
theorem S8 {l m:List Part} {k:Nat} (h1:k < l.length) (h2:k < m.length):decide (l.drop k=m.drop k)=(decide (nth l k=nth m k) && decide (l.drop (k + 1)=m.drop (k + 1))):=by
 rw [drop_at h1,drop_at h2]
 simp
theorem z1k (p q:Part):(decide (p.at_=q.at_) && (decide (p.drop=q.drop) && (decide (p.take=q.take) && decide (p.up=q.up))))=decide (p=q):=by
 cases p;cases q;simp
theorem z4z (a b:Term) (hl:a.parts.length ≤ 1000000000000):PC Tryz.prog 57 [Bv a,Bv b] (.bool (decide (a=b))):=by
 refine A9 Yg ?_
 unfold Nc
 (repeat' (first|(simp (disch:=omega) only [push_cast,↓zz,seval])|(with_reducible first|refine And.intro ?_ ?_|(first|refine Ab ?_ ?_|refine Aa ?_ ?_)<;>intro hc<;>(try simp only [push_cast] at hc))|omega|with_reducible intro _))
 all_goals first
   | (have:a ≠ b:=by intro h;subst h;first|omega|simp_all
      simp [this];done)
   | skip
 have hab:decide (a=b)=decide (a.parts=b.parts):=by cases a;cases b;simp_all
 rw [hab]
 refine Ao (Ap (fun (k:Nat)=>k ≤ a.parts.length∧decide (a.parts=b.parts)=decide (a.parts.drop k=b.parts.drop k)) (fun k=>a.parts.length - k)
   (fun k=>[(2,.ptr 0 1 0 0),(3,.ptr 1 1 0 0),(5,.int .i64 k)])
   (fun s=>[⟨6,1,true,[Bv a]⟩,⟨6,1,true,[Bv b]⟩])
   (fun env _=>[Aw 0 (env 2),Aw 0 (env 3)]) 0 (by simp) ?_ ?_)
 · (repeat' (first|(simp (disch:=omega) only [push_cast,↓zz,seval])|(with_reducible first|refine And.intro ?_ ?_|(first|refine Ab ?_ ?_|refine Aa ?_ ?_)<;>intro hc<;>(try simp only [push_cast] at hc))|omega|with_reducible intro _))
 rintro k ⟨hk,hr⟩
 refine W_T ?_
 (repeat' (first|(simp (disch:=omega) only [push_cast,↓zz,seval,z1k])|(with_reducible first|refine And.intro ?_ ?_|(first|refine Ab ?_ ?_|refine Aa ?_ ?_)<;>intro hc<;>(try simp only [push_cast] at hc))|omega|with_reducible intro _))
 · rw [hr,S8 (by omega) (by omega)];simp [*]
 · refine ⟨k + 1,?_⟩
   (repeat' (first|(simp (disch:=omega) only [push_cast,↓zz,seval])|(with_reducible first|refine And.intro ?_ ?_|(first|refine Ab ?_ ?_|refine Aa ?_ ?_)<;>intro hc<;>(try simp only [push_cast] at hc))|omega|with_reducible intro _))
   rw [hr,S8 (by omega) (by omega)];simp [*]
 · rw [hr,List.drop_of_length_le (by omega),List.drop_of_length_le (by omega)];simp
abbrev wr (n:Int):Int:=IntKind.i64.wrap n
theorem zc2 (n:Int):wr n=(n + 9223372036854775808) % 18446744073709551616 - 9223372036854775808:=by
 show IntKind.i64.wrap n=_
 rw [IntWalk.i64_left]
 unfold RowKit.wrap64
 rfl
theorem zn2 {n:Int} (h:-9223372036854775808 ≤ n∧n ≤ 9223372036854775807):wr n=n:=by rw [zc2];omega
theorem wr_wr (a b:Int):wr (wr a + b)=wr (a + b):=by rw [zc2,zc2 a,zc2 (a + b)];omega
theorem wr_bd (a:Int):-9223372036854775808 ≤ wr a∧wr a ≤ 9223372036854775807:=by rw [zc2];omega
def totP (w:List Int):List Part→Int
 | []=>0
 | p :: l=>val1 p (nth w p.at_.toNat) + totP w l
def Mh (w:List Int) (l:List Part):Bool:=l.all fun p=>Dj p w.length
theorem zc3 (w:List Int):∀ (l:List Part) (a:Int),wr a=a→sumP w l a=if Mh w l then some (wr (a + totP w l)) else none
 | [],a,h=>by simp [sumP,Mh,totP,h]
 | p :: l,a,h=>by
   rw [sumP]
   cases hp:Dj p w.length
   · simp [Mh,hp]
   · have ih:=zc3 w l (wr (a + val1 p (nth w p.at_.toNat))) (by rw [zn2 (wr_bd _)])
     rw [if_pos rfl]
     have e:wr (wr (a + val1 p (nth w p.at_.toNat)) + totP w l)=wr (a + totP w (p :: l)):=by rw [wr_wr,totP];congr 1;omega
     rw [e] at ih
     simp only [Mh,List.all_cons,hp,Bool.true_and] at ih ⊢
     exact ih
end Go.Proofs.YticodgjinajkpaaGreat
namespace Go.Proofs.YticodgjinajkpaaGreat
open Abs Go.RowKit
abbrev shI:Sh:=.int .i64
abbrev zc4:Sh:=.sl true [shI,shI]
abbrev Vx:Sh:=.sl false [zc4]
abbrev zc5:Sh:=.sl true [shI,shI,shI,shI]
abbrev zc6:List Sh:=[shI,shI,shI,shI,shI,zc5]
abbrev z1l:Sh:=.sl true zc6
abbrev zc7:List Sh:=[shI,shI,Vx,shI,z1l]
abbrev z51:List Sh:=[shI,Vx,z1l]
abbrev zc8:List Sh:=[shI,shI,shI,shI,.sl true zc7,.sl true z51]
theorem Mi {α:Type} {agg:Bool} {fs:List Sh} {x:AV} (f:α→AV) (Q:α→Prop) (hp:∀ l:List α,Ay (l.map f)=true) (hpos:0 < fs.length)
   (he:∀ cs,IsL fs cs→∃ a,AV.le (if agg then .agg cs else cs.headD .any) (f a)∧Q a) (h:Is (.sl agg fs) x):∃ l:List α,AV.le x (.lst fs.length (l.map f))∧l.length ≤ maxLen∧∀ a ∈ l,Q a:=by
 rcases h with rfl|⟨xs,rfl,hl,hx⟩
 · exact ⟨[],AV.le_nilS hpos,Nat.zero_le _,fun _ h=>by cases h⟩
 · have key:∀ xs:List AV,(∀ y ∈ xs,∃ cs,y=(if agg then AV.agg cs else cs.headD .any)∧IsL fs cs)→∃ l:List α,l.length=xs.length∧leL xs (l.map f)∧∀ a ∈ l,Q a:=by
     intro xs
     induction xs with
     | nil=>intro _;exact ⟨[],rfl,D4,fun _ h=>by cases h⟩
     | cons y r ih =>
       intro hy
       obtain ⟨l,h1,h2,h3⟩:=ih fun z hz=>hy z (List.mem_cons_of_mem _ hz)
       obtain ⟨cs,rfl,hcs⟩:=hy y (List.mem_cons_self ..)
       obtain ⟨a,h4,h5⟩:=he cs hcs
       refine ⟨a :: l,by simp [h1],Az h4 h2,fun b hb=>?_⟩
       rcases List.mem_cons.1 hb with rfl|hb
       · exact h5
       · exact h3 b hb
   obtain ⟨l,h1,h2,h3⟩:=key xs hx
   exact ⟨l,AV.le_lst (by simp [h1]) (hp l) h2,by rw [h1];exact hl,h3⟩
def i64s (l:List Int):Prop:=∀ n ∈ l,(Lit.int .i64 n).wf=true
def Ta (s:Span):Prop:=i64s [s.lo,s.hi]
theorem zgu {x:AV} (h:Is zc4 x):∃ l:List Span,AV.le x (Ad l)∧l.length ≤ maxLen∧∀ s ∈ l,Ta s :=
 Mi Bt Ta Cf (by decide) (fun cs h=>by
   obtain ⟨_,_,rfl,⟨a,rfl,ha⟩,_,_,rfl,⟨b,rfl,hb⟩,rfl⟩:=h
   exact ⟨⟨a,b⟩,AV.le_refl _,by simp [Ta,i64s,ha,hb]⟩) h
theorem Y4 {x:AV} (h:Is Vx x):∃ l:List (List Span),AV.le x (Ak l)∧l.length ≤ maxLen∧∀ g ∈ l,g.length ≤ maxLen∧∀ s ∈ g,Ta s :=
 Mi Ad (fun g=>g.length ≤ maxLen∧∀ s ∈ g,Ta s) Ae (by decide) (fun cs h=>by
   obtain ⟨c,_,rfl,hc,_⟩:=h
   obtain ⟨l,h1,h2,h3⟩:=zgu hc
   exact ⟨l,h1,h2,h3⟩) h
def z52 (p:Part):Prop:=i64s [p.at_,p.drop,p.take,p.up]
theorem zgv {x:AV} (h:Is zc5 x):∃ l:List Part,AV.le x (Be l)∧l.length ≤ maxLen∧∀ s ∈ l,z52 s :=
 Mi Ca z52 Fp (by decide) (fun cs h=>by
   obtain ⟨_,_,rfl,⟨a,rfl,ha⟩,_,_,rfl,⟨b,rfl,hb⟩,_,_,rfl,⟨c,rfl,hc⟩,_,_,rfl,⟨d,rfl,hd⟩,rfl⟩:=h
   exact ⟨⟨a,b,c,d⟩,AV.le_refl _,by simp [z52,i64s,ha,hb,hc,hd]⟩) h
def z54 (t:Term):Prop:=i64s [t.base,t.drop,t.take,t.up,t.sum]∧t.parts.length ≤ maxLen∧∀ p ∈ t.parts,z52 p
theorem zgw {cs:List AV} (h:IsL zc6 cs):∃ t:Term,AV.le (.agg cs) (Bv t)∧z54 t:=by
 obtain ⟨_,_,rfl,⟨a,rfl,ha⟩,_,_,rfl,⟨b,rfl,hb⟩,_,_,rfl,⟨c,rfl,hc⟩,_,_,rfl,⟨d,rfl,hd⟩,_,_,rfl,⟨e,rfl,he⟩,x,_,rfl,hx,rfl⟩:=h
 obtain ⟨l,h1,h2,h3⟩:=zgv hx
 exact ⟨⟨a,b,c,d,e,l⟩,AV.le_agg (Az (AV.le_refl _) (Az (AV.le_refl _) (Az (AV.le_refl _) (Az (AV.le_refl _) (Az (AV.le_refl _) (Az h1 D4)))))),by simp [i64s,ha,hb,hc,hd,he],h2,h3⟩
theorem z56 {x:AV} (h:Is z1l x):∃ l:List Term,AV.le x (Cz l)∧l.length ≤ maxLen∧∀ t ∈ l,z54 t :=
 Mi Bv z54 Bb (by decide) (fun cs h=>by simpa using zgw h) h
def z57 (g:List (List Span)):Prop:=g.length ≤ maxLen∧∀ l ∈ g,l.length ≤ maxLen∧∀ s ∈ l,Ta s
def zc9 (l:List Term):Prop:=l.length ≤ maxLen∧∀ t ∈ l,z54 t
def zca (r:Rule):Prop:=i64s [r.from_,r.to_,r.eat]∧z57 r.guards∧zc9 r.out
def z1m (f:Fc):Prop:=i64s [f.from_]∧z57 f.guards∧zc9 f.out
theorem zn3 {cs:List AV} (h:IsL zc7 cs):∃ r:Rule,AV.le (.agg cs) (Md r)∧zca r:=by
 obtain ⟨_,_,rfl,⟨a,rfl,ha⟩,_,_,rfl,⟨b,rfl,hb⟩,x,_,rfl,hx,_,_,rfl,⟨c,rfl,hc⟩,y,_,rfl,hy,rfl⟩:=h
 obtain ⟨g,g1,g2,g3⟩:=Y4 hx
 obtain ⟨o,o1,o2,o3⟩:=z56 hy
 exact ⟨⟨a,b,g,c,o⟩,AV.le_agg (Az (AV.le_refl _) (Az (AV.le_refl _) (Az g1 (Az (AV.le_refl _) (Az o1 D4))))),by simp [i64s,ha,hb,hc],⟨g2,g3⟩,o2,o3⟩
theorem zgx {cs:List AV} (h:IsL z51 cs):∃ r:Fc,AV.le (.agg cs) (Kt r)∧z1m r:=by
 obtain ⟨_,_,rfl,⟨a,rfl,ha⟩,x,_,rfl,hx,y,_,rfl,hy,rfl⟩:=h
 obtain ⟨g,g1,g2,g3⟩:=Y4 hx
 obtain ⟨o,o1,o2,o3⟩:=z56 hy
 exact ⟨⟨a,g,o⟩,AV.le_agg (Az (AV.le_refl _) (Az g1 (Az o1 D4))),by simp [i64s,ha],⟨g2,g3⟩,o2,o3⟩
def zr4 (d:Desc):Prop:=i64s [d.in_,d.out,d.states,d.start]∧(d.rules.length ≤ maxLen∧∀ r ∈ d.rules,zca r)∧d.finals.length ≤ maxLen∧∀ f ∈ d.finals,z1m f
theorem zn4 {x:AV} (h:IsP (.rcd zc8) x):∃ d:Desc,AV.le x (By d)∧zr4 d:=by
 obtain ⟨_,rfl,_,_,rfl,⟨a,rfl,ha⟩,_,_,rfl,⟨b,rfl,hb⟩,_,_,rfl,⟨c,rfl,hc⟩,_,_,rfl,⟨e,rfl,he⟩,x,_,rfl,hx,y,_,rfl,hy,rfl⟩:=h
 obtain ⟨r,r1,r2,r3⟩:=Mi Md zca Bj (by decide) (fun cs h=>by simpa using zn3 h) hx
 obtain ⟨f,f1,f2,f3⟩:=Mi Kt z1m Bg (by decide) (fun cs h=>by simpa using zgx h) hy
 exact ⟨⟨a,b,c,e,r,f⟩,AV.le_agg (Az (AV.le_refl _) (Az (AV.le_refl _) (Az (AV.le_refl _) (Az (AV.le_refl _) (Az r1 (Az f1 D4)))))),by simp [i64s,ha,hb,hc,he],⟨r2,r3⟩,f2,f3⟩
end Go.Proofs.YticodgjinajkpaaGreat
namespace Go.Proofs.YticodgjinajkpaaGreat
open Abs
theorem zgy {o:Option Int} (h:o.isSome=true):o=some (o.getD 0):=by cases o<;>simp_all
def Ei (r:Rule):Bool:=decide ((r.guards.length:Int)=0)
def toD (l:List Rule) (i:Nat):List Int:=(l.filter fun r=>Ei r && decide (r.from_=i)).map (·.to_)
def inD (l:List Rule) (j:Nat):Int:=((l.filter fun r=>Ei r && decide (r.to_=j)).length:Int)
def cntE (l:List Rule) (P:List Int) (j:Nat):Int:=((l.filter fun r=>Ei r && (decide (r.to_=j) && !decide (r.from_ ∈ P))).length:Int)
theorem Vy (l:List Rule) (j:Nat):cntE l [] j=inD l j:=by simp [cntE,inD]
theorem zn5 (l:List Rule) (P:List Int) (j:Nat):0 ≤ cntE l P j:=by simp only [cntE];omega
theorem zn6 (l:List Rule) (P:List Int) (j:Nat):cntE l P j ≤ cntE l [] j:=by
 simp only [cntE]
 have:(l.filter fun r=>Ei r && (decide (r.to_=j) && !decide (r.from_ ∈ P))).length ≤ (l.filter fun r=>Ei r && (decide (r.to_=j) && !decide (r.from_ ∈ ([]:List Int)))).length:=by
   induction l with
   | nil=>simp
   | cons r l ih =>
     simp only [List.filter_cons]
     cases Ei r<;>cases decide (r.to_=(j:Int))<;>cases decide (r.from_ ∈ P)<;>simp at ih ⊢<;>omega
 omega
theorem Vz {s j:Nat} {P:List Int} (hs:(s:Int) ∉ P):∀ l:List Rule,cntE l (P ++ [(s:Int)]) j + ((toD l s).count (j:Int):Int)=cntE l P j
 | []=>by simp [cntE,toD]
 | r :: l=>by
   have ih:=Vz (j:=j) hs l
   simp only [cntE,toD,List.filter_cons] at ih ⊢
   cases he:Ei r
   · simpa using ih
   · simp only [Bool.true_and]
     by_cases ht:r.to_=j
     · by_cases hf:r.from_=s
       · have h1:r.from_ ∈ P ++ [(s:Int)]:=by simp [hf]
         have h2:r.from_ ∉ P:=by rw [hf];exact hs
         simp only [ht,hf] at h1 h2 ⊢
         simp only [decide_true,h1,h2,decide_false,Bool.not_true,Bool.not_false,Bool.and_false,Bool.and_true,if_true,Bool.false_eq_true,if_false,List.length_cons,List.map_cons,List.count_cons_self,ht]
         push_cast
         omega
       · have h1:(r.from_ ∈ P ++ [(s:Int)]) ↔ r.from_ ∈ P:=by simp [hf]
         by_cases h2:r.from_ ∈ P
         · simp only [ht,hf,h1,h2,decide_true,decide_false,Bool.not_true,Bool.and_false,Bool.false_eq_true,if_false]
           exact ih
         · simp only [ht,hf,h1,h2,decide_true,decide_false,Bool.not_false,Bool.and_true,if_true,Bool.false_eq_true,if_false,List.length_cons]
           push_cast
           omega
     · by_cases hf:r.from_=s
       · simp only [ht,hf,decide_false,decide_true,Bool.false_and,Bool.false_eq_true,if_false,if_true,List.map_cons]
         rw [List.count_cons_of_ne ht]
         exact ih
       · simp only [ht,hf,decide_false,Bool.false_and,Bool.false_eq_true,if_false]
         exact ih
theorem I1:∀ {a b:List Int},a.Nodup→(∀ x ∈ a,x ∈ b)→a.length ≤ b.length
 | [],b,_,_=>Nat.zero_le _
 | x :: a,b,hn,h=>by
   obtain ⟨h1,h2⟩:=List.nodup_cons.1 hn
   have hx:=h x (by simp)
   have:=I1 (a:=a) (b:=b.erase x) h2 fun y hy=>(List.mem_erase_of_ne (fun (e:y=x)=>h1 (by rw [← e];exact hy))).2 (h y (by simp [hy]))
   rw [List.length_erase_of_mem hx] at this
   have:=List.length_pos_of_mem hx
   simp only [List.length_cons]
   omega
def idsN (n:Nat):List Int:=(List.range n).map fun (i:Nat)=>(i:Int)
theorem zcb (n:Nat):(idsN n).Nodup:=by
 rw [idsN,List.nodup_iff_pairwise_ne,List.pairwise_map]
 exact (List.nodup_iff_pairwise_ne.1 (List.nodup_range)).imp fun h e=>h (by omega)
theorem V0 {n:Nat} {x:Int}:x ∈ idsN n ↔ 0 ≤ x∧x < n:=by
 simp only [idsN,List.mem_map,List.mem_range]
 constructor
 · rintro ⟨i,hi,rfl⟩;omega
 · rintro ⟨h1,h2⟩;exact ⟨x.toNat,by omega,by omega⟩
def zjf (l:List Rule) (n:Nat) (C:Int→Prop):Prop:=∀ j,C j→(0 ≤ j∧j < n)∧∃ r ∈ l,Ei r=true∧r.to_=j∧C r.from_
def cycP (l:List Rule) (n:Nat):Prop:=∃ C,zjf l n C∧∃ j,C j
structure KInv (l:List Rule) (n:Nat) (D:List Int) (I:Nat→Int):Prop where
 nodup:D.Nodup
 range:∀ x ∈ D,0 ≤ x∧x < n
 zero:∀ j,j < n→((j:Int) ∈ D ↔ I j=0)
 apart:∀ C,zjf l n C→∀ x ∈ D,¬ C x
theorem KInv.len {l:List Rule} {n:Nat} {D:List Int} {I:Nat→Int} (h:KInv l n D I):D.length ≤ n:=by
 have:=I1 h.nodup fun x hx=>V0.2 (h.range x hx)
 simpa [idsN] using this
def Ka (f:Nat→Int) (k:Nat):List Int:=((List.range k).filter fun j=>decide (f j=0)).map fun (j:Nat)=>(j:Int)
theorem z7q (f:Nat→Int) (k:Nat):Ka f (k + 1)=if f k=0 then Ka f k ++ [(k:Int)] else Ka f k:=by
 rw [Ka,List.range_succ,List.filter_append,List.map_append]
 split
 · rename_i h;simp [Ka,h]
 · rename_i h;simp [Ka,h]
theorem zcc (f:Nat→Int) (k:Nat):(Ka f k).length ≤ k:=by
 have:=List.length_filter_le (fun j=>decide (f j=0)) (List.range k)
 simpa [Ka] using this
theorem zn7 {l:List Rule} {r:Rule} {j:Nat} (hr:r ∈ l) (he:Ei r=true) (ht:r.to_=j):0 < inD l j:=by
 have:0 < (l.filter fun r=>Ei r && decide (r.to_=j)).length:=List.length_pos_of_mem (List.mem_filter.2 ⟨hr,by simp [he,ht]⟩)
 simp only [inD];omega
theorem zgz {l:List Rule} {P:List Int} {r:Rule} {j:Nat} (hr:r ∈ l) (he:Ei r=true) (ht:r.to_=j) (hf:r.from_ ∉ P):0 < cntE l P j:=by
 have:0 < (l.filter fun r=>Ei r && (decide (r.to_=j) && !decide (r.from_ ∈ P))).length:=List.length_pos_of_mem (List.mem_filter.2 ⟨hr,by simp [he,ht,hf]⟩)
 simp only [cntE];omega
theorem z7r (l:List Rule) (n:Nat):KInv l n (Ka (inD l) n) (cntE l []) where
 nodup:=by
   rw [Ka,List.nodup_iff_pairwise_ne,List.pairwise_map]
   exact ((List.nodup_iff_pairwise_ne.1 (List.nodup_range)).filter _).imp fun h e=>h (by omega)
 range x hx:=by
   obtain ⟨i,hi,rfl⟩:=List.mem_map.1 hx
   have:=(List.mem_filter.1 hi).1
   simp at this
   omega
 zero j hj:=by
   rw [Vy]
   simp only [Ka,List.mem_map,List.mem_filter,List.mem_range,decide_eq_true_eq]
   constructor
   · rintro ⟨i,⟨h1,h2⟩,e⟩
     obtain rfl:i=j:=by omega
     exact h2
   · intro h;exact ⟨j,⟨hj,h⟩,rfl⟩
 apart C hC x hx hCx:=by
   obtain ⟨i,hi,rfl⟩:=List.mem_map.1 hx
   have h0:=(List.mem_filter.1 hi).2
   simp only [decide_eq_true_eq] at h0
   obtain ⟨_,r,hr,he,ht,_⟩:=hC _ hCx
   have:=zn7 hr he ht
   omega
def Et (l:List Rule) (P:List Int) (s m:Nat) (j:Nat):Int:=cntE l P j - (((toD l s).take m).count (j:Int):Int)
theorem Tb (l:List Rule) (P:List Int) (s:Nat):Et l P s 0=cntE l P:=by funext j;simp [Et]
theorem zcd {l:List Rule} {P:List Int} {s:Nat} (hs:(s:Int) ∉ P):Et l P s (toD l s).length=cntE l (P ++ [(s:Int)]):=by
 funext j
 have:=Vz (j:=j) hs l
 rw [Et,List.take_length]
 omega
theorem z58 {l:List Rule} {P:List Int} {s m j:Nat} (hs:(s:Int) ∉ P):cntE l (P ++ [(s:Int)]) j ≤ Et l P s m j:=by
 have h1:=Vz (j:=j) hs l
 have h2:=(List.take_sublist m (toD l s)).count_le (j:Int)
 rw [Et]
 omega
theorem Mj {l:List Rule} {P:List Int} {s m t:Nat} (hm:m < (toD l s).length) (ht:nth (toD l s) m=t):Et l P s (m + 1)=fun j=>if j=t then Et l P s m t - 1 else Et l P s m j:=by
 funext j
 rw [Et,take_at hm,List.count_append,ht]
 by_cases e:j=t
 · subst e;simp [Et];omega
 · have h0:List.count (j:Int) [(t:Int)]=0:=List.count_eq_zero.2 (by simp;omega)
   rw [if_neg e,h0,Et];omega
theorem Y5 {l:List Rule} {P:List Int} {s m t:Nat} (hs:(s:Int) ∉ P) (hm:m < (toD l s).length) (ht:nth (toD l s) m=t):0 < Et l P s m t:=by
 have h1:=z58 (l:=l) (m:=m + 1) (j:=t) hs
 have h2:=zn5 l (P ++ [(s:Int)]) t
 rw [Mj hm ht] at h1
 simp only [if_true] at h1
 omega
theorem zce {l:List Rule} {n:Nat} {P td:List Int} {s m t:Nat} (hs:(s:Int) ∉ P) (hm:m < (toD l s).length) (ht:nth (toD l s) m=t) (htn:t < n) (h:KInv l n (P ++ [(s:Int)] ++ td) (Et l P s m)) :
   KInv l n (P ++ [(s:Int)] ++ if Et l P s m t - 1=0 then td ++ [(t:Int)] else td) (Et l P s (m + 1)):=by
 have hp:=Y5 hs hm ht
 have hno:(t:Int) ∉ P ++ [(s:Int)] ++ td:=fun hh=>by
   have:=(h.zero t htn).1 hh
   omega
 have hst:=Mj (P:=P) hm ht
 split
 · rename_i h0
   rw [← List.append_assoc]
   refine ⟨List.nodup_append.2 ⟨h.nodup,by simp,fun a ha b hb=>?_⟩,fun x hx=>?_,fun j hj=>?_,fun C hC x hx hCx=>?_⟩
   · simp only [List.mem_singleton] at hb
     subst hb
     exact fun e=>hno (e ▸ ha)
   · rcases List.mem_append.1 hx with hx|hx
     · exact h.range x hx
     · simp only [List.mem_singleton] at hx;omega
   · rw [hst,List.mem_append,List.mem_singleton]
     by_cases e:j=t
     · subst e;simp [h0]
     · simp only [if_neg e]
       rw [← h.zero j hj]
       exact ⟨fun hh=>hh.elim id fun hh=>absurd hh (by omega),.inl⟩
   · rcases List.mem_append.1 hx with hx|hx
     · exact h.apart C hC x hx hCx
     · simp only [List.mem_singleton] at hx
       subst hx
       obtain ⟨_,r,hr,he,hrt,hrf⟩:=hC _ hCx
       have hf:r.from_ ∉ P ++ [(s:Int)]:=fun hh=>h.apart C hC _ (List.mem_append.2 (.inl hh)) hrf
       have h1:=zgz hr he hrt hf
       have h2:=z58 (l:=l) (m:=m + 1) (j:=t) hs
       rw [hst] at h2
       simp only [if_true] at h2
       omega
 · rename_i h0
   refine ⟨h.nodup,h.range,fun j hj=>?_,h.apart⟩
   rw [hst]
   by_cases e:j=t
   · subst e;simp only [if_true];exact ⟨fun hh=>absurd hh hno,fun hh=>absurd hh h0⟩
   · simp only [if_neg e];exact h.zero j hj
theorem zcf {l:List Rule} {n:Nat} {P:List Int} (hl:∀ r ∈ l,0 ≤ r.from_∧r.from_ < n) (h:KInv l n P (cntE l P)):P.length < n ↔ cycP l n:=by
 constructor
 · intro hlt
   refine ⟨fun j=>(0 ≤ j∧j < n)∧j ∉ P,fun j hj=>⟨hj.1,?_⟩,?_⟩
   · have h0:cntE l P j.toNat ≠ 0:=fun h0=>hj.2 (by
       have:=(h.zero j.toNat (by omega)).2 h0
       rwa [show ((j.toNat:Nat):Int)=j by omega] at this)
     have:0 < (l.filter fun r=>Ei r && (decide (r.to_=(j.toNat:Nat)) && !decide (r.from_ ∈ P))).length:=by
       simp only [cntE] at h0;omega
     obtain ⟨r,hr⟩:=List.exists_mem_of_length_pos this
     obtain ⟨h1,h2⟩:=List.mem_filter.1 hr
     simp only [Bool.and_eq_true,decide_eq_true_eq,Bool.not_eq_true',decide_eq_false_iff_not] at h2
     exact ⟨r,h1,h2.1,by rw [h2.2.1];omega,hl r h1,h2.2.2⟩
   · refine Classical.byContradiction fun hno=>?_
     have:=I1 (zcb n) fun x hx=>Classical.byContradiction fun hp=>hno ⟨x,V0.1 hx,hp⟩
     simp [idsN] at this
     omega
 · rintro ⟨C,hC,j,hj⟩
   have hr:=(hC j hj).1
   have hjP:j ∉ P:=fun hh=>h.apart C hC j hh hj
   have:=I1 (a:=j :: P) (b:=idsN n) (List.nodup_cons.2 ⟨hjP,h.nodup⟩) fun x hx=>by
     rcases List.mem_cons.1 hx with rfl|hx
     · exact V0.2 hr
     · exact V0.2 (h.range x hx)
   simp [idsN] at this
   omega
end Go.Proofs.YticodgjinajkpaaGreat
namespace Go.Proofs.YticodgjinajkpaaGreat.Abs
theorem z7s {n b:Nat} {env:Env} {l l':List Grp} {g w v d:Nat} {ex:Bool} {x:AV} (ks:List Nat) (hw:0 < w) (hlt:g < l.length) (hg:l.getD g default=⟨w,v,ex,[x]⟩) (hk:g ∉ ks)
   (hok:Cr d ((hl l).only ks) x) (hl':(Gk 0 ks l).set g ⟨w,v,ex,[frzV d ((hl l).only ks) x]⟩=l'):Ent n b env (hl l) env (hl l'):=fun S val hb hS hv=>by
 subst hl'
 have hS1:=Ut ks hS
 have he:=Ir ks hS
 refine ⟨S.kill (hl l) ks,rfl,he.down hb,?_,fun i hi=>VRel.mono he _ (hv i hi)⟩
 have hlk:g < (Gk 0 ks l).length:=by rw [Kr];exact hlt
 have hat0:∀ j,j < l.length→((hl l).kill ks).at_ j=(Gk 0 ks l).getD j default:=fun j hj=>by
   rw [Uy 0 ks l j hj,Nat.zero_add];rfl
 have hn:(hl ((Gk 0 ks l).set g ⟨w,v,ex,[frzV d ((hl l).only ks) x]⟩)).n=((hl l).kill ks).n:=by simp [hl,Ac.kill,Kr]
 have hlen:((hl l).kill ks).n=l.length:=rfl
 have hat:∀ j,j < l.length→(hl ((Gk 0 ks l).set g ⟨w,v,ex,[frzV d ((hl l).only ks) x]⟩)).at_ j=if j=g then ⟨w,v,ex,[frzV d ((hl l).only ks) x]⟩ else ((hl l).kill ks).at_ j:=fun j hj=>by
   rw [Cn]
   by_cases e:j=g
   · subst e;rw [if_pos rfl];exact J1 _ hlk
   · rw [if_neg e,hat0 j hj];exact E9 _ (Ne.symm e)
 have hgk:((hl l).kill ks).at_ g=⟨w,v,ex,[x]⟩:=by
   show (if g ∈ ks then _ else _)=_
   rw [if_neg hk,Cn,hg]
 have h1:GRel (S.kill (hl l) ks) ⟨w,v,ex,[x]⟩ g:=by have:=hS1.grp g (by rw [hlen];exact hlt);rwa [hgk] at this
 have h0:GRel S ⟨w,v,ex,[x]⟩ g:=by have:=hS.grp g hlt;rwa [Cn,hg] at this
 have hG:GRel (S.kill (hl l) ks) ⟨w,v,ex,[frzV d ((hl l).only ks) x]⟩ g:=by
   refine ⟨h1.ver,h1.wid,fun _ hc=>?_,fun hh=>h1.len hh,fun hh he=>h1.full hh he,fun hh=>by simp only at hh;omega⟩
   obtain ⟨⟨cells,TT,vs,a1,a2,a3,a4⟩,_⟩:=h0.live hw hc
   refine ⟨⟨cells,TT,vs,a1,a2,?_,a4⟩,(h1.live hw hc).2⟩
   obtain ⟨u,r,rfl,hu,hr⟩:=a3
   exact ⟨u,r,rfl,Uu ks hS d hok hu,hr.mono he⟩
 have hhas:∀ j,j < l.length→((hl ((Gk 0 ks l).set g ⟨w,v,ex,[frzV d ((hl l).only ks) x]⟩)).at_ j).has ((S.kill (hl l) ks).cap j)→(((hl l).kill ks).at_ j).has ((S.kill (hl l) ks).cap j):=fun j hj h=>by
   rw [hat j hj] at h
   by_cases e:j=g
   · subst e;rw [if_pos rfl] at h;rw [hgk];exact h
   · rw [if_neg e] at h;exact h
 refine ⟨hS1.n.trans hn.symm,fun j hj=>?_,fun j j' a c hne p q=>hS1.apart j j' (by rwa [hn] at a) (by rwa [hn] at c) hne (hhas j (by rwa [hn] at a) p) (hhas j' (by rwa [hn] at c) q),hS1.im⟩
 rw [hn] at hj
 rw [hat j hj]
 by_cases e:j=g
 · subst e;rw [if_pos rfl];exact hG
 · rw [if_neg e];exact hS1.grp j hj
end Go.Proofs.YticodgjinajkpaaGreat.Abs
namespace Go.Proofs.YticodgjinajkpaaGreat
open Abs
def onF (l:List Rule) (on:Nat→Bool) (j:Nat):Bool:=l.any fun r=>Ei r && (on r.from_.toNat && decide (r.to_=j))
def onK (l:List Rule):Nat→Nat→Bool
 | 0=>fun _=>true
 | k + 1=>onF l (onK l k)
def Mk (l:List Rule) (on:Nat→Bool):Bool:=l.any fun r=>Ei r && on r.from_.toNat
def cycR (l:List Rule) (n:Nat):Bool:=(List.range (n + 1)).all fun k=>Mk l (onK l k)
theorem zh0 {l:List Rule} {p q:Nat→Bool} (h:∀ j,p j=true→q j=true) (j:Nat):onF l p j=true→onF l q j=true:=by
 simp only [onF,List.any_eq_true,Bool.and_eq_true,decide_eq_true_eq]
 rintro ⟨r,hr,h1,h2,h3⟩
 exact ⟨r,hr,h1,h _ h2,h3⟩
theorem z59 (l:List Rule):∀ (k j:Nat),onK l (k + 1) j=true→onK l k j=true
 | 0,j,_=>rfl
 | k + 1,j,h=>zh0 (fun j=>z59 l k j) j h
theorem filter_lt {p q:Nat→Bool} (h:∀ j,p j=true→q j=true):∀ {l:List Nat} {x:Nat},x ∈ l→q x=true→p x=false→(l.filter p).length < (l.filter q).length
 | [],_,hx,_,_=>by cases hx
 | y :: l,x,hx,hq,hp=>by
   have hle:∀ l:List Nat,(l.filter p).length ≤ (l.filter q).length:=fun l=>by
     induction l with
     | nil=>simp
     | cons a l ih =>
       simp only [List.filter_cons]
       have:=h a
       cases hpa:p a<;>cases hqa:q a<;>simp_all<;>omega
   simp only [List.filter_cons]
   rcases List.mem_cons.1 hx with rfl|hx
   · have:=hle l
     simp only [hp,hq,Bool.false_eq_true,if_false,if_true,List.length_cons]
     omega
   · have ih:=filter_lt h hx hq hp
     have:=h y
     cases hpa:p y<;>cases hqa:q y<;>simp_all<;>omega
theorem zh1 {l:List Rule} {n:Nat} (hl:∀ r ∈ l,(0 ≤ r.from_∧r.from_ < n)∧0 ≤ r.to_∧r.to_ < n):cycR l n=true ↔ cycP l n:=by
 rw [cycR,List.all_eq_true]
 constructor
 · intro h
   have hex:∃ k,k ≤ n∧∀ j,j < n→onK l k j=true→onK l (k + 1) j=true:=by
     refine Classical.byContradiction fun hno=>?_
     have hstep:∀ k,k ≤ n→∃ j,j < n∧onK l k j=true∧onK l (k + 1) j=false:=fun k hk=>Classical.byContradiction fun hc=>hno ⟨k,hk,fun j hj h1=>by
       cases h2:onK l (k + 1) j
       · exact absurd ⟨j,hj,h1,h2⟩ hc
       · rfl⟩
     have key:∀ k,k ≤ n + 1→((List.range n).filter (onK l k)).length + k ≤ n:=fun k=>by
       induction k with
       | zero =>
         intro _
         have:=List.length_filter_le (onK l 0) (List.range n)
         simpa using this
       | succ k ih =>
         intro hk
         obtain ⟨j,hj,h1,h2⟩:=hstep k (by omega)
         have:=filter_lt (fun j=>z59 l k j) (List.mem_range.2 hj) h1 h2
         have:=ih (by omega)
         omega
     have:=key (n + 1) (Nat.le_refl _)
     omega
   obtain ⟨k,hk,hs⟩:=hex
   refine ⟨fun j=>0 ≤ j∧j < n∧onK l k j.toNat=true,fun j hj=>⟨⟨hj.1,hj.2.1⟩,?_⟩,?_⟩
   · have h1:=hs j.toNat (by omega) hj.2.2
     simp only [onK,onF,List.any_eq_true,Bool.and_eq_true,decide_eq_true_eq] at h1
     obtain ⟨r,hr,he,hf,ht⟩:=h1
     have hb:=hl r hr
     exact ⟨r,hr,he,by omega,by omega,by omega,hf⟩
   · have h1:=h k (by simp;omega)
     simp only [Mk,List.any_eq_true,Bool.and_eq_true] at h1
     obtain ⟨r,hr,_,hf⟩:=h1
     have hb:=hl r hr
     exact ⟨r.from_,by omega,by omega,hf⟩
 · rintro ⟨C,hC,j,hj⟩ k _
   have key:∀ k i,C i→onK l k i.toNat=true:=fun k=>by
     induction k with
     | zero=>exact fun _ _=>rfl
     | succ k ih =>
       intro i hi
       obtain ⟨h1,r,hr,he,ht,hf⟩:=hC i hi
       simp only [onK,onF,List.any_eq_true,Bool.and_eq_true,decide_eq_true_eq]
       exact ⟨r,hr,he,ih _ hf,by omega⟩
   obtain ⟨_,r,hr,he,_,hf⟩:=hC j hj
   simp only [Mk,List.any_eq_true,Bool.and_eq_true]
   exact ⟨r,hr,he,key k _ hf⟩
end Go.Proofs.YticodgjinajkpaaGreat
