/-
  Parts of the proof that the law holds whatever the input; without conditions.
-/
import Derived.Test.YticodgjinajkpaaGreatZS3
set_option linter.unusedSimpArgs false
set_option linter.unusedVariables false
namespace Go.Proofs.YticodgjinajkpaaGreat
open Abs
def Ea (r:Rule):Bool:=decide ((r.guards.length:Int)=0)
def toD (l:List Rule) (i:Nat):List Int:=(l.filter fun r=>Ea r && decide (r.from_=i)).map (·.to_)
def inD (l:List Rule) (j:Nat):Int:=((l.filter fun r=>Ea r && decide (r.to_=j)).length:Int)
def cntE (l:List Rule) (P:List Int) (j:Nat):Int:=((l.filter fun r=>Ea r && (decide (r.to_=j) && !decide (r.from_ ∈ P))).length:Int)
theorem U3 (l:List Rule) (j:Nat):cntE l [] j=inD l j:=by simp [cntE,inD]
theorem zlo (l:List Rule) (P:List Int) (j:Nat):0 ≤ cntE l P j:=by simp only [cntE];omega
theorem zlp (l:List Rule) (P:List Int) (j:Nat):cntE l P j ≤ cntE l [] j:=by
 simp only [cntE]
 have:(l.filter fun r=>Ea r && (decide (r.to_=j) && !decide (r.from_ ∈ P))).length ≤ (l.filter fun r=>Ea r && (decide (r.to_=j) && !decide (r.from_ ∈ ([]:List Int)))).length:=by
   induction l with
   | nil=>simp
   | cons r l ih =>
     simp only [List.filter_cons]
     cases Ea r<;>cases decide (r.to_=(j:Int))<;>cases decide (r.from_ ∈ P)<;>simp at ih ⊢<;>omega
 omega
theorem U4 {s j:Nat} {P:List Int} (hs:(s:Int) ∉ P):∀ l:List Rule,cntE l (P ++ [(s:Int)]) j + ((toD l s).count (j:Int):Int)=cntE l P j
 | []=>by simp [cntE,toD]
 | r :: l=>by
   have ih:=U4 (j:=j) hs l
   simp only [cntE,toD,List.filter_cons] at ih ⊢
   cases he:Ea r
   · simpa using ih
   · simp only [Bool.true_and]
     by_cases ht:r.to_=j
     · by_cases hf:r.from_=s
       · have h1:r.from_ ∈ P ++ [(s:Int)]:=by simp [hf]
         have h2:r.from_ ∉ P:=by rw [hf];exact hs
         simp only [ht,hf] at h1 h2 ⊢
         simp only [decide_true,h1,h2,decide_false,Bool.not_true,Bool.not_false,Bool.and_false,Bool.and_true,if_true,Bool.false_eq_true,if_false,List.length_cons,List.map_cons,List.count_cons_self,ht]
         push_cast
         omega
       · have h1:(r.from_ ∈ P ++ [(s:Int)]) ↔ r.from_ ∈ P:=by simp [hf]
         by_cases h2:r.from_ ∈ P
         · simp only [ht,hf,h1,h2,decide_true,decide_false,Bool.not_true,Bool.and_false,Bool.false_eq_true,if_false]
           exact ih
         · simp only [ht,hf,h1,h2,decide_true,decide_false,Bool.not_false,Bool.and_true,if_true,Bool.false_eq_true,if_false,List.length_cons]
           push_cast
           omega
     · by_cases hf:r.from_=s
       · simp only [ht,hf,decide_false,decide_true,Bool.false_and,Bool.false_eq_true,if_false,if_true,List.map_cons]
         rw [List.count_cons_of_ne ht]
         exact ih
       · simp only [ht,hf,decide_false,Bool.false_and,Bool.false_eq_true,if_false]
         exact ih
theorem Io:∀ {a b:List Int},a.Nodup→(∀ x ∈ a,x ∈ b)→a.length ≤ b.length
 | [],b,_,_=>Nat.zero_le _
 | x :: a,b,hn,h=>by
   obtain ⟨h1,h2⟩:=List.nodup_cons.1 hn
   have hx:=h x (by simp)
   have:=Io (a:=a) (b:=b.erase x) h2 fun y hy=>(List.mem_erase_of_ne (fun (e:y=x)=>h1 (by rw [← e];exact hy))).2 (h y (by simp [hy]))
   rw [List.length_erase_of_mem hx] at this
   have:=List.length_pos_of_mem hx
   simp only [List.length_cons]
   omega
def idsN (n:Nat):List Int:=(List.range n).map fun (i:Nat)=>(i:Int)
theorem zaw (n:Nat):(idsN n).Nodup:=by
 rw [idsN,List.nodup_iff_pairwise_ne,List.pairwise_map]
 exact (List.nodup_iff_pairwise_ne.1 (List.nodup_range)).imp fun h e=>h (by omega)
theorem U5 {n:Nat} {x:Int}:x ∈ idsN n ↔ 0 ≤ x∧x < n:=by
 simp only [idsN,List.mem_map,List.mem_range]
 constructor
 · rintro ⟨i,hi,rfl⟩;omega
 · rintro ⟨h1,h2⟩;exact ⟨x.toNat,by omega,by omega⟩
def zhw (l:List Rule) (n:Nat) (C:Int→Prop):Prop:=∀ j,C j→(0 ≤ j∧j < n)∧∃ r ∈ l,Ea r=true∧r.to_=j∧C r.from_
def cycP (l:List Rule) (n:Nat):Prop:=∃ C,zhw l n C∧∃ j,C j
structure KInv (l:List Rule) (n:Nat) (D:List Int) (I:Nat→Int):Prop where
 nodup:D.Nodup
 range:∀ x ∈ D,0 ≤ x∧x < n
 zero:∀ j,j < n→((j:Int) ∈ D ↔ I j=0)
 apart:∀ C,zhw l n C→∀ x ∈ D,¬ C x
theorem KInv.len {l:List Rule} {n:Nat} {D:List Int} {I:Nat→Int} (h:KInv l n D I):D.length ≤ n:=by
 have:=Io h.nodup fun x hx=>U5.2 (h.range x hx)
 simpa [idsN] using this
def Js (f:Nat→Int) (k:Nat):List Int:=((List.range k).filter fun j=>decide (f j=0)).map fun (j:Nat)=>(j:Int)
theorem z68 (f:Nat→Int) (k:Nat):Js f (k + 1)=if f k=0 then Js f k ++ [(k:Int)] else Js f k:=by
 rw [Js,List.range_succ,List.filter_append,List.map_append]
 split
 · rename_i h;simp [Js,h]
 · rename_i h;simp [Js,h]
theorem zax (f:Nat→Int) (k:Nat):(Js f k).length ≤ k:=by
 have:=List.length_filter_le (fun j=>decide (f j=0)) (List.range k)
 simpa [Js] using this
theorem zlq {l:List Rule} {r:Rule} {j:Nat} (hr:r ∈ l) (he:Ea r=true) (ht:r.to_=j):0 < inD l j:=by
 have:0 < (l.filter fun r=>Ea r && decide (r.to_=j)).length:=List.length_pos_of_mem (List.mem_filter.2 ⟨hr,by simp [he,ht]⟩)
 simp only [inD];omega
theorem zfi {l:List Rule} {P:List Int} {r:Rule} {j:Nat} (hr:r ∈ l) (he:Ea r=true) (ht:r.to_=j) (hf:r.from_ ∉ P):0 < cntE l P j:=by
 have:0 < (l.filter fun r=>Ea r && (decide (r.to_=j) && !decide (r.from_ ∈ P))).length:=List.length_pos_of_mem (List.mem_filter.2 ⟨hr,by simp [he,ht,hf]⟩)
 simp only [cntE];omega
theorem z69 (l:List Rule) (n:Nat):KInv l n (Js (inD l) n) (cntE l []) where
 nodup:=by
   rw [Js,List.nodup_iff_pairwise_ne,List.pairwise_map]
   exact ((List.nodup_iff_pairwise_ne.1 (List.nodup_range)).filter _).imp fun h e=>h (by omega)
 range x hx:=by
   obtain ⟨i,hi,rfl⟩:=List.mem_map.1 hx
   have:=(List.mem_filter.1 hi).1
   simp at this
   omega
 zero j hj:=by
   rw [U3]
   simp only [Js,List.mem_map,List.mem_filter,List.mem_range,decide_eq_true_eq]
   constructor
   · rintro ⟨i,⟨h1,h2⟩,e⟩
     obtain rfl:i=j:=by omega
     exact h2
   · intro h;exact ⟨j,⟨hj,h⟩,rfl⟩
 apart C hC x hx hCx:=by
   obtain ⟨i,hi,rfl⟩:=List.mem_map.1 hx
   have h0:=(List.mem_filter.1 hi).2
   simp only [decide_eq_true_eq] at h0
   obtain ⟨_,r,hr,he,ht,_⟩:=hC _ hCx
   have:=zlq hr he ht
   omega
def En (l:List Rule) (P:List Int) (s m:Nat) (j:Nat):Int:=cntE l P j - (((toD l s).take m).count (j:Int):Int)
theorem Sb (l:List Rule) (P:List Int) (s:Nat):En l P s 0=cntE l P:=by funext j;simp [En]
theorem zay {l:List Rule} {P:List Int} {s:Nat} (hs:(s:Int) ∉ P):En l P s (toD l s).length=cntE l (P ++ [(s:Int)]):=by
 funext j
 have:=U4 (j:=j) hs l
 rw [En,List.take_length]
 omega
theorem z3q {l:List Rule} {P:List Int} {s m j:Nat} (hs:(s:Int) ∉ P):cntE l (P ++ [(s:Int)]) j ≤ En l P s m j:=by
 have h1:=U4 (j:=j) hs l
 have h2:=(List.take_sublist m (toD l s)).count_le (j:Int)
 rw [En]
 omega
theorem Lu {l:List Rule} {P:List Int} {s m t:Nat} (hm:m < (toD l s).length) (ht:nth (toD l s) m=t):En l P s (m + 1)=fun j=>if j=t then En l P s m t - 1 else En l P s m j:=by
 funext j
 rw [En,take_at hm,List.count_append,ht]
 by_cases e:j=t
 · subst e;simp [En];omega
 · have h0:List.count (j:Int) [(t:Int)]=0:=List.count_eq_zero.2 (by simp;omega)
   rw [if_neg e,h0,En];omega
theorem X8 {l:List Rule} {P:List Int} {s m t:Nat} (hs:(s:Int) ∉ P) (hm:m < (toD l s).length) (ht:nth (toD l s) m=t):0 < En l P s m t:=by
 have h1:=z3q (l:=l) (m:=m + 1) (j:=t) hs
 have h2:=zlo l (P ++ [(s:Int)]) t
 rw [Lu hm ht] at h1
 simp only [if_true] at h1
 omega
theorem zaz {l:List Rule} {n:Nat} {P td:List Int} {s m t:Nat} (hs:(s:Int) ∉ P) (hm:m < (toD l s).length) (ht:nth (toD l s) m=t) (htn:t < n) (h:KInv l n (P ++ [(s:Int)] ++ td) (En l P s m)) :
   KInv l n (P ++ [(s:Int)] ++ if En l P s m t - 1=0 then td ++ [(t:Int)] else td) (En l P s (m + 1)):=by
 have hp:=X8 hs hm ht
 have hno:(t:Int) ∉ P ++ [(s:Int)] ++ td:=fun hh=>by
   have:=(h.zero t htn).1 hh
   omega
 have hst:=Lu (P:=P) hm ht
 split
 · rename_i h0
   rw [← List.append_assoc]
   refine ⟨List.nodup_append.2 ⟨h.nodup,by simp,fun a ha b hb=>?_⟩,fun x hx=>?_,fun j hj=>?_,fun C hC x hx hCx=>?_⟩
   · simp only [List.mem_singleton] at hb
     subst hb
     exact fun e=>hno (e ▸ ha)
   · rcases List.mem_append.1 hx with hx|hx
     · exact h.range x hx
     · simp only [List.mem_singleton] at hx;omega
   · rw [hst,List.mem_append,List.mem_singleton]
     by_cases e:j=t
     · subst e;simp [h0]
     · simp only [if_neg e]
       rw [← h.zero j hj]
       exact ⟨fun hh=>hh.elim id fun hh=>absurd hh (by omega),.inl⟩
   · rcases List.mem_append.1 hx with hx|hx
     · exact h.apart C hC x hx hCx
     · simp only [List.mem_singleton] at hx
       subst hx
       obtain ⟨_,r,hr,he,hrt,hrf⟩:=hC _ hCx
       have hf:r.from_ ∉ P ++ [(s:Int)]:=fun hh=>h.apart C hC _ (List.mem_append.2 (.inl hh)) hrf
       have h1:=zfi hr he hrt hf
       have h2:=z3q (l:=l) (m:=m + 1) (j:=t) hs
       rw [hst] at h2
       simp only [if_true] at h2
       omega
 · rename_i h0
   refine ⟨h.nodup,h.range,fun j hj=>?_,h.apart⟩
   rw [hst]
   by_cases e:j=t
   · subst e;simp only [if_true];exact ⟨fun hh=>absurd hh hno,fun hh=>absurd hh h0⟩
   · simp only [if_neg e];exact h.zero j hj
theorem zb0 {l:List Rule} {n:Nat} {P:List Int} (hl:∀ r ∈ l,0 ≤ r.from_∧r.from_ < n) (h:KInv l n P (cntE l P)):P.length < n ↔ cycP l n:=by
 constructor
 · intro hlt
   refine ⟨fun j=>(0 ≤ j∧j < n)∧j ∉ P,fun j hj=>⟨hj.1,?_⟩,?_⟩
   · have h0:cntE l P j.toNat ≠ 0:=fun h0=>hj.2 (by
       have:=(h.zero j.toNat (by omega)).2 h0
       rwa [show ((j.toNat:Nat):Int)=j by omega] at this)
     have:0 < (l.filter fun r=>Ea r && (decide (r.to_=(j.toNat:Nat)) && !decide (r.from_ ∈ P))).length:=by
       simp only [cntE] at h0;omega
     obtain ⟨r,hr⟩:=List.exists_mem_of_length_pos this
     obtain ⟨h1,h2⟩:=List.mem_filter.1 hr
     simp only [Bool.and_eq_true,decide_eq_true_eq,Bool.not_eq_true',decide_eq_false_iff_not] at h2
     exact ⟨r,h1,h2.1,by rw [h2.2.1];omega,hl r h1,h2.2.2⟩
   · refine Classical.byContradiction fun hno=>?_
     have:=Io (zaw n) fun x hx=>Classical.byContradiction fun hp=>hno ⟨x,U5.1 hx,hp⟩
     simp [idsN] at this
     omega
 · rintro ⟨C,hC,j,hj⟩
   have hr:=(hC j hj).1
   have hjP:j ∉ P:=fun hh=>h.apart C hC j hh hj
   have:=Io (a:=j :: P) (b:=idsN n) (List.nodup_cons.2 ⟨hjP,h.nodup⟩) fun x hx=>by
     rcases List.mem_cons.1 hx with rfl|hx
     · exact U5.2 hr
     · exact U5.2 (h.range x hx)
   simp [idsN] at this
   omega
end Go.Proofs.YticodgjinajkpaaGreat
namespace Go.Proofs.YticodgjinajkpaaGreat.Abs
theorem z6a {n b:Nat} {env:Env} {l l':List Grp} {g w v d:Nat} {ex:Bool} {x:AV} (ks:List Nat) (hw:0 < w) (hlt:g < l.length) (hg:l.getD g default=⟨w,v,ex,[x]⟩) (hk:g ∉ ks)
   (hok:Cr d ((hl l).only ks) x) (hl':(Gc 0 ks l).set g ⟨w,v,ex,[frzV d ((hl l).only ks) x]⟩=l'):Ent n b env (hl l) env (hl l'):=fun S val hb hS hv=>by
 subst hl'
 have hS1:=Tw ks hS
 have he:=Ic ks hS
 refine ⟨S.kill (hl l) ks,rfl,he.down hb,?_,fun i hi=>VRel.mono he _ (hv i hi)⟩
 have hlk:g < (Gc 0 ks l).length:=by rw [J9];exact hlt
 have hat0:∀ j,j < l.length→((hl l).kill ks).at_ j=(Gc 0 ks l).getD j default:=fun j hj=>by
   rw [T5 0 ks l j hj,Nat.zero_add];rfl
 have hn:(hl ((Gc 0 ks l).set g ⟨w,v,ex,[frzV d ((hl l).only ks) x]⟩)).n=((hl l).kill ks).n:=by simp [hl,Ac.kill,J9]
 have hlen:((hl l).kill ks).n=l.length:=rfl
 have hat:∀ j,j < l.length→(hl ((Gc 0 ks l).set g ⟨w,v,ex,[frzV d ((hl l).only ks) x]⟩)).at_ j=if j=g then ⟨w,v,ex,[frzV d ((hl l).only ks) x]⟩ else ((hl l).kill ks).at_ j:=fun j hj=>by
   rw [Co]
   by_cases e:j=g
   · subst e;rw [if_pos rfl];exact Jj _ hlk
   · rw [if_neg e,hat0 j hj];exact E4 _ (Ne.symm e)
 have hgk:((hl l).kill ks).at_ g=⟨w,v,ex,[x]⟩:=by
   show (if g ∈ ks then _ else _)=_
   rw [if_neg hk,Co,hg]
 have h1:GRel (S.kill (hl l) ks) ⟨w,v,ex,[x]⟩ g:=by have:=hS1.grp g (by rw [hlen];exact hlt);rwa [hgk] at this
 have h0:GRel S ⟨w,v,ex,[x]⟩ g:=by have:=hS.grp g hlt;rwa [Co,hg] at this
 have hG:GRel (S.kill (hl l) ks) ⟨w,v,ex,[frzV d ((hl l).only ks) x]⟩ g:=by
   refine ⟨h1.ver,h1.wid,fun _ hc=>?_,fun hh=>h1.len hh,fun hh he=>h1.full hh he,fun hh=>by simp only at hh;omega⟩
   obtain ⟨⟨cells,TT,vs,a1,a2,a3,a4⟩,_⟩:=h0.live hw hc
   refine ⟨⟨cells,TT,vs,a1,a2,?_,a4⟩,(h1.live hw hc).2⟩
   obtain ⟨u,r,rfl,hu,hr⟩:=a3
   exact ⟨u,r,rfl,Tx ks hS d hok hu,hr.mono he⟩
 have hhas:∀ j,j < l.length→((hl ((Gc 0 ks l).set g ⟨w,v,ex,[frzV d ((hl l).only ks) x]⟩)).at_ j).has ((S.kill (hl l) ks).cap j)→(((hl l).kill ks).at_ j).has ((S.kill (hl l) ks).cap j):=fun j hj h=>by
   rw [hat j hj] at h
   by_cases e:j=g
   · subst e;rw [if_pos rfl] at h;rw [hgk];exact h
   · rw [if_neg e] at h;exact h
 refine ⟨hS1.n.trans hn.symm,fun j hj=>?_,fun j j' a c hne p q=>hS1.apart j j' (by rwa [hn] at a) (by rwa [hn] at c) hne (hhas j (by rwa [hn] at a) p) (hhas j' (by rwa [hn] at c) q),hS1.im⟩
 rw [hn] at hj
 rw [hat j hj]
 by_cases e:j=g
 · subst e;rw [if_pos rfl];exact hG
 · rw [if_neg e];exact hS1.grp j hj
end Go.Proofs.YticodgjinajkpaaGreat.Abs
namespace Go.Proofs.YticodgjinajkpaaGreat
open Abs
def onF (l:List Rule) (on:Nat→Bool) (j:Nat):Bool:=l.any fun r=>Ea r && (on r.from_.toNat && decide (r.to_=j))
def onK (l:List Rule):Nat→Nat→Bool
 | 0=>fun _=>true
 | k + 1=>onF l (onK l k)
def Lv (l:List Rule) (on:Nat→Bool):Bool:=l.any fun r=>Ea r && on r.from_.toNat
def cycR (l:List Rule) (n:Nat):Bool:=(List.range (n + 1)).all fun k=>Lv l (onK l k)
theorem zfj {l:List Rule} {p q:Nat→Bool} (h:∀ j,p j=true→q j=true) (j:Nat):onF l p j=true→onF l q j=true:=by
 simp only [onF,List.any_eq_true,Bool.and_eq_true,decide_eq_true_eq]
 rintro ⟨r,hr,h1,h2,h3⟩
 exact ⟨r,hr,h1,h _ h2,h3⟩
theorem z3r (l:List Rule):∀ (k j:Nat),onK l (k + 1) j=true→onK l k j=true
 | 0,j,_=>rfl
 | k + 1,j,h=>zfj (fun j=>z3r l k j) j h
theorem filter_lt {p q:Nat→Bool} (h:∀ j,p j=true→q j=true):∀ {l:List Nat} {x:Nat},x ∈ l→q x=true→p x=false→(l.filter p).length < (l.filter q).length
 | [],_,hx,_,_=>by cases hx
 | y :: l,x,hx,hq,hp=>by
   have hle:∀ l:List Nat,(l.filter p).length ≤ (l.filter q).length:=fun l=>by
     induction l with
     | nil=>simp
     | cons a l ih =>
       simp only [List.filter_cons]
       have:=h a
       cases hpa:p a<;>cases hqa:q a<;>simp_all<;>omega
   simp only [List.filter_cons]
   rcases List.mem_cons.1 hx with rfl|hx
   · have:=hle l
     simp only [hp,hq,Bool.false_eq_true,if_false,if_true,List.length_cons]
     omega
   · have ih:=filter_lt h hx hq hp
     have:=h y
     cases hpa:p y<;>cases hqa:q y<;>simp_all<;>omega
theorem zfk {l:List Rule} {n:Nat} (hl:∀ r ∈ l,(0 ≤ r.from_∧r.from_ < n)∧0 ≤ r.to_∧r.to_ < n):cycR l n=true ↔ cycP l n:=by
 rw [cycR,List.all_eq_true]
 constructor
 · intro h
   have hex:∃ k,k ≤ n∧∀ j,j < n→onK l k j=true→onK l (k + 1) j=true:=by
     refine Classical.byContradiction fun hno=>?_
     have hstep:∀ k,k ≤ n→∃ j,j < n∧onK l k j=true∧onK l (k + 1) j=false:=fun k hk=>Classical.byContradiction fun hc=>hno ⟨k,hk,fun j hj h1=>by
       cases h2:onK l (k + 1) j
       · exact absurd ⟨j,hj,h1,h2⟩ hc
       · rfl⟩
     have key:∀ k,k ≤ n + 1→((List.range n).filter (onK l k)).length + k ≤ n:=fun k=>by
       induction k with
       | zero =>
         intro _
         have:=List.length_filter_le (onK l 0) (List.range n)
         simpa using this
       | succ k ih =>
         intro hk
         obtain ⟨j,hj,h1,h2⟩:=hstep k (by omega)
         have:=filter_lt (fun j=>z3r l k j) (List.mem_range.2 hj) h1 h2
         have:=ih (by omega)
         omega
     have:=key (n + 1) (Nat.le_refl _)
     omega
   obtain ⟨k,hk,hs⟩:=hex
   refine ⟨fun j=>0 ≤ j∧j < n∧onK l k j.toNat=true,fun j hj=>⟨⟨hj.1,hj.2.1⟩,?_⟩,?_⟩
   · have h1:=hs j.toNat (by omega) hj.2.2
     simp only [onK,onF,List.any_eq_true,Bool.and_eq_true,decide_eq_true_eq] at h1
     obtain ⟨r,hr,he,hf,ht⟩:=h1
     have hb:=hl r hr
     exact ⟨r,hr,he,by omega,by omega,by omega,hf⟩
   · have h1:=h k (by simp;omega)
     simp only [Lv,List.any_eq_true,Bool.and_eq_true] at h1
     obtain ⟨r,hr,_,hf⟩:=h1
     have hb:=hl r hr
     exact ⟨r.from_,by omega,by omega,hf⟩
 · rintro ⟨C,hC,j,hj⟩ k _
   have key:∀ k i,C i→onK l k i.toNat=true:=fun k=>by
     induction k with
     | zero=>exact fun _ _=>rfl
     | succ k ih =>
       intro i hi
       obtain ⟨h1,r,hr,he,ht,hf⟩:=hC i hi
       simp only [onK,onF,List.any_eq_true,Bool.and_eq_true,decide_eq_true_eq]
       exact ⟨r,hr,he,ih _ hf,by omega⟩
   obtain ⟨_,r,hr,he,_,hf⟩:=hC j hj
   simp only [Lv,List.any_eq_true,Bool.and_eq_true]
   exact ⟨r,hr,he,key k _ hf⟩
end Go.Proofs.YticodgjinajkpaaGreat
