/-
  Parts of the proof that the law holds whatever the input; without conditions.
-/
import Derived.Test.YtflibbceibjddaaGreatNE4
import Derived.Test.YtflibbceibjddaaGreatNE3
set_option linter.unusedSimpArgs false
set_option linter.unusedVariables false
set_option linter.unusedSectionVars false
namespace Go.Proofs.YtflibbceibjddaaGreat
open Abs O1 O2 O3 Go.RowKit
inductive Rec where
 |mk (kind:Int) (set:List Span) (by_:Int) (read write:List Int) (l:List Rec)
namespace Rec
instance:Inhabited Rec:=⟨.mk 0 [] 0 [] [] []⟩
theorem ind{P:Rec->Prop}(h:∀k s b r w l,(∀n∈l,P n)->P (.mk k s b r w l))(n:Rec):P n :=
 Rec.rec (motive_1:=P) (motive_2:=λl=>∀n∈l,P n) (λk s b r w l ih=>h k s b r w l ih) (λn hn=>by cases hn)
  (λn l hn hl m hm=>by
   rcases Af.1 hm with rfl|hm
   ·exact hn
   ·exact hl m hm) n
end Rec
mutual
def recV:Rec->AV
 |.mk k s b r w l=>.agg [.int .i64 k,Bc s,.int .i64 b,AD r,AD w,.lst 6 (z9c l)]
def z9c:List Rec->List AV
 |[]=>[]
 |n::l=>recV n::z9c l
end
theorem TM:∀l:List Rec,z9c l=l.map recV
 |[]=>rfl
 |n::l=>by rw[z9c,TM l];rfl
theorem Ck(k:Int)(s:List Span)(b:Int)(r w:List Int)(l:List Rec):recV (.mk k s b r w l)=.agg [.int .i64 k,Bc s,.int .i64 b,AD r,AD w,.lst 6 (l.map recV)]:=by
 rw[recV,TM]
theorem IV(n:Rec):(recV n).pure=true:=by
 refine Rec.ind (P:=λn=>(recV n).pure=true) (λk s b r w l ih=>?_) n
 have hl:AF (l.map recV)=true:=BV.2 λx hx=>by
  obtain⟨m,hm,rfl⟩:=Av.1 hx;exact ih m hm
 rw[Ck];simp[AV.pure,AF,hl,Be,AB]
theorem BO(l:List Rec):AF (l.map recV)=true:=F7 IV l
abbrev Oy:List Sh:=[shI,z2y,shI,LJ,LJ]
def V0(l:List Int):Prop:=l.length<=maxLen/\∀v∈l,-2147483648<=v/\v<=2147483647
inductive IW:Rec->Prop where
 |mk {k:Int} {s:List Span} {b:Int} {r w:List Int} {l:List Rec}:i64s [k,b]->(s.length<=maxLen/\∀x∈s,Xk x)->V0 r->V0 w->l.length<=maxLen->(∀n∈l,IW n)->IW (.mk k s b r w l)
theorem Ng{x:AV}(h:Is LJ x):∃l:List Int,AV.le x (AD l)/\V0 l:=by
 obtain⟨l,h1,h2,h3⟩:=Rw h;exact⟨l,h1,h2,λv hv=>wf_i32 (h3 v hv)⟩
theorem PY{cs:List AV}(h:KO Oy cs):∃n:Rec,AV.le (.agg cs) (recV n)/\IW n:=by
 induction h with
 |leaf cs h =>
  obtain⟨_,_,rfl,⟨a,rfl,ha⟩,x1,_,rfl,h1,_,_,rfl,⟨b,rfl,hb⟩,x2,_,rfl,h2,x3,_,rfl,h3,rfl⟩:=h;obtain⟨s,s1,s2,s3⟩:=Xl h1;obtain⟨r,r1,r2⟩:=Ng h2;obtain⟨w,w1,w2⟩:=Ng h3;refine⟨.mk a s b r w [],?_,.mk (by simp[i64s,ha,hb]) ⟨s2,s3⟩ r2 w2 (A4 _) λn hn=>by cases hn⟩;rw[Ck];exact AV.le_agg (A5 (AV.le_refl _) (A5 s1 (A5 (AV.le_refl _) (A5 r1 (A5 w1 (A5 (AV.le_nilS (by decide)) Cf))))))
 |node cs xs h hl hx ih =>
  obtain⟨_,_,rfl,⟨a,rfl,ha⟩,x1,_,rfl,h1,_,_,rfl,⟨b,rfl,hb⟩,x2,_,rfl,h2,x3,_,rfl,h3,rfl⟩:=h;obtain⟨s,s1,s2,s3⟩:=Xl h1;obtain⟨r,r1,r2⟩:=Ng h2;obtain⟨w,w1,w2⟩:=Ng h3
  have key:∀xs:List (List AV),(∀y∈xs,∃n:Rec,AV.le (.agg y) (recV n)/\IW n)->∃l:List Rec,l.length=xs.length/\leL (xs.map .agg) (l.map recV)/\∀n∈l,IW n:=by
   intro xs
   induction xs with
   |nil=>intro _;exact⟨[],rfl,Cf,λ_ h=>by cases h⟩
   |cons y r ih =>
    intro hy;obtain⟨l,h1,h2,h3⟩:=ih λz hz=>hy z (List.mem_cons_of_mem _ hz);obtain⟨n,h4,h5⟩:=hy y (List.mem_cons_self ..);refine⟨n::l,by simp[h1],A5 h4 h2,λb hb=>?_⟩;rcases Af.1 hb with rfl|hb
    ·exact h5
    ·exact h3 b hb
  obtain⟨l,l1,l2,l3⟩:=key xs ih;refine⟨.mk a s b r w l,?_,.mk (by simp[i64s,ha,hb]) ⟨s2,s3⟩ r2 w2 (by omega) l3⟩;rw[Ck];exact AV.le_agg (A5 (AV.le_refl _) (A5 s1 (A5 (AV.le_refl _) (A5 r1 (A5 w1 (A5 (AV.le_lst (by simp[l1]) (BO l) l2) Cf))))))
end Go.Proofs.YtflibbceibjddaaGreat
namespace Go.Proofs.YtflibbceibjddaaGreat.Abs
theorem PZ{n b:Nat}{env:Env}{l l':List Grp}{g w v d:Nat}{ex:Bool}{x:AV}(ks:List Nat)(hw:0<w)(hlt:g<l.length)(hg:l.getD g default=⟨w,v,ex,[x]⟩)(hk:g∉ks)
 (hok:CI d ((hl l).only ks) x) (hl':(Er 0 ks l).set g ⟨w,v,ex,[frzV d ((hl l).only ks) x]⟩=l'):Ent n b env (hl l) env (hl l'):=λS val hb hS hv=>by
 subst hl';have hS1:=Ky ks hS;have he:=G4 ks hS;refine⟨S.kill (hl l) ks,rfl,he.down hb,?_,λi hi=>VRel.mono he _ (hv i hi)⟩;have hlk:g<(Er 0 ks l).length:=by rw[Gh];exact hlt
 have hat0:∀j,j<l.length->((hl l).kill ks).at_ j=(Er 0 ks l).getD j default:=λj hj=>by
  rw[Ih 0 ks l j hj,Bb];rfl
 have hn:(hl ((Er 0 ks l).set g ⟨w,v,ex,[frzV d ((hl l).only ks) x]⟩)).n=((hl l).kill ks).n:=by simp[hl,A3.kill,Gh]
 have hlen:((hl l).kill ks).n=l.length:=rfl
 have hat:∀j,j<l.length->(hl ((Er 0 ks l).set g ⟨w,v,ex,[frzV d ((hl l).only ks) x]⟩)).at_ j=if j=g then ⟨w,v,ex,[frzV d ((hl l).only ks) x]⟩ else ((hl l).kill ks).at_ j:=λj hj=>by
  rw[Dn];by_cases e:j=g
  ·subst e;rw[Ae rfl];exact JQ _ hlk
  ·rw[Ac e,hat0 j hj];exact G8 _ (Da e)
 have hgk:((hl l).kill ks).at_ g=⟨w,v,ex,[x]⟩:=by
  show (if g∈ks then _ else _)=_;rw[Ac hk,Dn,hg]
 have h1:GRel (S.kill (hl l) ks) ⟨w,v,ex,[x]⟩ g:=by have:=hS1.grp g (by rw[hlen];exact hlt);rwa [hgk] at this
 have h0:GRel S ⟨w,v,ex,[x]⟩ g:=by have:=hS.grp g hlt;rwa [Dn,hg] at this
 have hG:GRel (S.kill (hl l) ks) ⟨w,v,ex,[frzV d ((hl l).only ks) x]⟩ g:=by
  refine⟨h1.ver,h1.wid,λ_ hc=>?_,λhh=>h1.len hh,λhh he=>h1.full hh he,λhh=>by simp only at hh;omega⟩;obtain⟨⟨cells,TT,vs,a1,a2,a3,a4⟩,_⟩:=h0.live hw hc;refine⟨⟨cells,TT,vs,a1,a2,?_,a4⟩,(h1.live hw hc).2⟩;obtain⟨u,r,rfl,hu,hr⟩:=a3;exact⟨u,r,rfl,Kz ks hS d hok hu,hr.mono he⟩
 have hhas:∀j,j<l.length->((hl ((Er 0 ks l).set g ⟨w,v,ex,[frzV d ((hl l).only ks) x]⟩)).at_ j).has ((S.kill (hl l) ks).cap j)->(((hl l).kill ks).at_ j).has ((S.kill (hl l) ks).cap j):=λj hj h=>by
  rw[hat j hj] at h;by_cases e:j=g
  ·subst e;rw[Ae rfl] at h;rw[hgk];exact h
  ·rw[Ac e] at h;exact h
 refine⟨hS1.n.trans hn.symm,λj hj=>?_,λj j' a c hne p q=>hS1.apart j j' (by rwa [hn] at a) (by rwa [hn] at c) hne (hhas j (by rwa [hn] at a) p) (hhas j' (by rwa [hn] at c) q),hS1.im⟩;rw[hn] at hj;rw[hat j hj];by_cases e:j=g
 ·subst e;rw[Ae rfl];exact hG
 ·rw[Ac e];exact hS1.grp j hj
mutual
theorem zcq{m:Nat}{σ:Nat->Nat}(h:∀g,g<m->σ g=g):∀x:AV,ltV m x->ren σ x=x
 |.any,_|.bool _,_|.int _ _,_|.str _,_|.nilS,_|.nul,_|.emp,_|.nilP,_|.nilF,_|.yld _,_|.lst _ _,_|.full _ _,_|.cptr _,_=>rfl
 |.map g v,hx=>by rw[ren,h g hx]
 |.ref g v o n,hx=>by rw[ren,h g hx]
 |.ptr g v i o,hx=>by rw[ren,h g hx]
 |.agg cs,hx=>by rw[ren,LN h cs hx]
 |.tup cs,hx=>by rw[ren,LN h cs hx]
 |.fn f cs,hx=>by rw[ren,LN h cs hx]
theorem LN{m:Nat}{σ:Nat->Nat}(h:∀g,g<m->σ g=g):∀xs:List AV,ltL m xs->renL σ xs=xs
 |[],_=>rfl
 |x::xs,hx=>by rw[renL,zcq h x hx.1,LN h xs hx.2]
end
theorem z9d{m N g:Nat}(h:g<m):sg (List.range m) N g=g:=by
 unfold sg;rw[Ae (by simpa using h)];simp[List.getD,h]
theorem z3e{m:Nat}{σ:Nat->Nat}(h:∀g,g<m->σ g=g){G:Grp}(hG:ltL m G.xs):renG σ G=G:=by
 cases G with
 |mk w v e xs=>rw[reG,LN h xs hG]
theorem Qa:∀(r extra pre:List Grp)(l:List Grp),l.length=r.length->setG ((List.range r.length).map (·+pre.length)) r (pre++l++extra)=pre++r++extra
 |[],extra,pre,l,h=>by
  have:l=[]:=Aw (by simpa using h);subst this;simp[setG]
 |G::r,extra,pre,[],h=>by simp at h
 |G::r,extra,pre,a::l,h=>by
  rw[List.length_cons,List.range_succ_eq_map,A7,CF,z2d];have e1:(pre++a::l++extra).set (0+pre.length) G=(pre++[G])++l++extra:=by simp
  have e2:(List.range r.length).map ((λx=>x+pre.length) ∘ Nat.succ)=(List.range r.length).map (·+(pre++[G]).length):=AW λi _=>by simp;omega
  rw[e1,e2,Qa r extra (pre++[G]) l (by simpa using h)];simp
theorem z3f{P:Program}{f:Nat}{xs:List AV}{l0 extra:List Grp}{K0 K:AV->A3->Prop}(h:B6 P f xs (hl l0) K0)(hlt:ltL l0.length xs)(hltG:∀G∈l0,ltL l0.length G.xs)
 (hK:∀y H',K0 y H'->∃l',H'=hl l'/\l'.length=l0.length/\ltV l0.length y/\(∀G∈l',ltL l0.length G.xs)/\@nx y (hl (l'++extra)) ⟨K⟩):@MN P f xs (hl (l0++extra)) ⟨K⟩:=by
 have hs:∀g,g<l0.length->sg (List.range l0.length) (l0++extra).length g=g:=λg hg=>z9d hg;have hll:(List.range l0.length).length=l0.length:=by simp
 refine Cj (List.range l0.length) h DJ (λk hk=>by simp at hk ⊢;omega) (LN hs xs hlt) ?_ (by rw[hll];exact hlt) (by rw[hll];exact hltG) ?_
 ·refine Cm (by simp) λi h1 h2=>?_
  have hi:i<l0.length:=by simpa using h1
  simp only[ED,Ed];rw[z3e hs (hltG _ (BU hi))];simp[List.getD,AE hi,hi]
 ·intro y H' hy
  obtain⟨l',rfl,h1,h2,h3,h4⟩:=hK y H' hy;refine⟨l',rfl,by rw[hll,h1];exact Ad _,?_⟩;rw[zcq hs y h2];have e1:l'.map (renG (sg (List.range l0.length) (l0++extra).length))=l':=(AW λG hG=>z3e hs (h3 G hG)).trans (Gf _);rw[e1];have e2:=Qa l' extra [] l0 h1.symm;simp only[List.length_nil,Nat.add_zero,List.map_id',List.nil_append,h1] at e2;rw[e2];exact h4
end Go.Proofs.YtflibbceibjddaaGreat.Abs
