/-
  Parts of the proof that the law holds whatever the input; without conditions.
-/
import Derived.Test.YtflibbceibjddaaGreatND7
import Derived.Test.YtflibbceibjddaaGreatND5
set_option linter.unusedSimpArgs false
set_option linter.unusedVariables false
set_option linter.unusedSectionVars false
set_option maxRecDepth 100000
namespace Go.Proofs.YtflibbceibjddaaGreat
open Abs O1 O2 O3
theorem z4r(n:Rec)(f S:Nat)(R:List Rule)(v:Nat)(hfu:Gx S R=true):
 B2 Tryz.prog 47 [.ptr 0 1 0 0,recV n,.int .i64 f] (Abs.hl (mkH S R v)) λy H'=>y=.int .i64 f/\∃v',H'=Abs.hl (mkH S R v'):=by
 obtain⟨k,s,b,r,w,l⟩:=n;have ps:=AX s;have pr:AD (r.map (AV.int .i32))=true:=AG .i32 _;have pw:AD (w.map (AV.int .i32))=true:=AG .i32 _;have pl:=BN l;have hFu:=Fc S R v;rw[hfu] at hFu;rw[Ck];refine DJ (G3 Dh (W_T ?_));unfold CJ;unfold mkH at hFu ⊢;(with_reducible repeat'(first|simp (disch:=omega) only[push_cast,↓zz,seval,ps,pr,pw,pl]|apply Aa|refine sp_ ?_ ?_<;>intro hc<;>push_cast at hc|omega|intro _))
 (refine Ch [0,1] (hFu) (by decide) (by simp) (by (simp(disch:=omega)only[push_cast,↓zz,seval,ps,pr,pw,pl])) (by (simp(disch:=omega)only[push_cast,↓zz,seval,ps,pr,pw,pl])) (by (simp(disch:=omega)only[push_cast,↓zz,seval,ps,pr,pw,pl])) (by (simp(disch:=omega)only[push_cast,↓zz,seval,Af,Aj,Ar,Aw,AL,As,ps,pr,pw,pl])) ?_)
 rintro y H' ⟨rfl,rfl⟩;refine⟨_,rfl,by simp,?_⟩;(with_reducible repeat'(first|simp (disch:=omega) only[push_cast,↓zz,seval,ps,pr,pw,pl]|apply Aa|refine sp_ ?_ ?_<;>intro hc<;>push_cast at hc|omega|intro _));exact⟨_,_,Hc (l0:=mkH S R v) (gar:=[_]) rfl (Ad _) H9 trivial,rfl,v,rfl⟩
theorem z4s(s:List Span)(b:Int)(r w:List Int)(l:List Rec)(f S:Nat)(R:List Rule)(v:Nat)(hf:Ea (.mk 1 s b r w l))(hfu:Gx S R=false)(hS:S+8 * cntN (.mk 1 s b r w l)<=300000)(hR:R.length+8 * cntN (.mk 1 s b r w l)<=300000):
 B2 Tryz.prog 47 [.ptr 0 1 0 0,recV (.mk 1 s b r w l),.int .i64 f] (Abs.hl (mkH S R v)) λy H'=>y=.int .i64 ((mkM (.mk 1 s b r w l) f (S,R)).2:Nat)/\∃v',H'=Abs.hl (mkH (mkM (.mk 1 s b r w l) f (S,R)).1.1 (mkM (.mk 1 s b r w l) f (S,R)).1.2 v'):=by
 cases hf with
 |mk hs hr hw hl hch =>
 rw[cntN] at hS hR;have ps:=AX s;have pr:AD (r.map (AV.int .i32))=true:=AG .i32 _;have pw:AD (w.map (AV.int .i32))=true:=AG .i32 _;have pl:=BN l
 have e0:mkM (.mk 1 s b r w l) f (S,R)=(addR (newS (S,R)) f S s [cpyT b],S):=by
  rw[mkM,Ac (by rw[show Gm (S,R)=Gx S R from rfl,hfu];simp),Ae rfl]
 have hRu:=Jd (S+1) R v f S s [cpyT b] hs (by omega);have hCp:=z0y 0 b;have hcv:GK (cpyT b)=.agg [.int .i64 0,.int .i64 0,.int .i64 21,.int .i64 0,.int .i64 b,.lst 4 [FH ⟨0,0,21,0⟩]]:=rfl;have hFu:=Fc S R v;rw[hfu] at hFu;have hSt:=E4 S R v (by omega);rw[Ck,e0];clear e0;refine DJ (G3 Dh (W_T ?_));unfold CJ;unfold addR newS;simp only;unfold mkH at hFu hSt hRu ⊢;(with_reducible repeat'(first|simp (disch:=omega) only[push_cast,↓zz,seval,ps,pr,pw,pl]|apply Aa|refine sp_ ?_ ?_<;>intro hc<;>push_cast at hc|omega|intro _))
 (refine Ch [0,1] (hFu) (by decide) (by simp) (by (simp(disch:=omega)only[push_cast,↓zz,seval,ps,pr,pw,pl])) (by (simp(disch:=omega)only[push_cast,↓zz,seval,ps,pr,pw,pl])) (by (simp(disch:=omega)only[push_cast,↓zz,seval,ps,pr,pw,pl])) (by (simp(disch:=omega)only[push_cast,↓zz,seval,Af,Aj,Ar,Aw,AL,As,ps,pr,pw,pl])) ?_)
 rintro y H' ⟨rfl,rfl⟩;refine⟨_,rfl,by simp,?_⟩;(with_reducible repeat'(first|simp (disch:=omega) only[push_cast,↓zz,seval,ps,pr,pw,pl]|apply Aa|refine sp_ ?_ ?_<;>intro hc<;>push_cast at hc|omega|intro _))
 (refine Ch [0,1] (hSt) (by decide) (by simp) (by (simp(disch:=omega)only[push_cast,↓zz,seval,ps,pr,pw,pl])) (by (simp(disch:=omega)only[push_cast,↓zz,seval,ps,pr,pw,pl])) (by (simp(disch:=omega)only[push_cast,↓zz,seval,ps,pr,pw,pl])) (by (simp(disch:=omega)only[push_cast,↓zz,seval,Af,Aj,Ar,Aw,AL,As,ps,pr,pw,pl])) ?_)
 rintro y H' ⟨rfl,rfl⟩;refine⟨_,rfl,by simp,?_⟩;(with_reducible repeat'(first|simp (disch:=omega) only[push_cast,↓zz,seval,ps,pr,pw,pl]|apply Aa|refine sp_ ?_ ?_<;>intro hc<;>push_cast at hc|refine ee hCp ?_|(refine cc hCp ?_;(simp(disch:=omega)only[push_cast,↓zz,seval,ps,pr,pw,pl]);(fail_if_success change False))|omega|intro _));refine TL (l':=[⟨6,1,true,[.agg [.int .i64 2,.int .i64 2,.int .i64 ((S:Int)+1),.int .i64 0,.ref 1 v 0 R.length,.nilS]]⟩,⟨5,v,false,R.map Hs⟩,⟨6,1,true,[.agg [.int .i64 1,Bf s,.int .i64 b,AH r,AH w,.lst 6 (l.map recV)]]⟩,⟨0,2,false,[]⟩]) 4 3 6 1 1 (by decide) (by simp) rfl (by simp[AD,AV.pure]) rfl rfl rfl ?_
 (refine Ch [0,1] (hRu) (by decide) (by simp) (by (simp(disch:=omega)only[push_cast,↓zz,seval,ps,pr,pw,pl,List.set_cons_succ,List.set_cons_zero,cpyT])) (by (simp(disch:=omega)only[push_cast,↓zz,seval,ps,pr,pw,pl,List.set_cons_succ,List.set_cons_zero,cpyT])) (by (simp(disch:=omega)only[push_cast,↓zz,seval,ps,pr,pw,pl,List.set_cons_succ,List.set_cons_zero,cpyT])) (by (simp(disch:=omega)only[push_cast,↓zz,seval,Af,Aj,Ar,Aw,AL,As,ps,pr,pw,pl,List.set_cons_succ,List.set_cons_zero,cpyT])) ?_)
 rintro y H' ⟨rfl,v1,rfl⟩;refine⟨_,rfl,by simp,?_⟩;(with_reducible repeat'(first|simp (disch:=omega) only[push_cast,↓zz,seval,ps,pr,pw,pl,List.set_cons_succ,List.set_cons_zero,cpyT]|apply Aa|refine sp_ ?_ ?_<;>intro hc<;>push_cast at hc|omega|intro _));have hfin:mkH (S+1) (R++[CN f S s [cpyT b]]) v1=[⟨6,1,true,[.agg [.int .i64 2,.int .i64 2,.int .i64 ((S:Int)+1),.int .i64 0,.ref 1 v1 0 (R.length+1),.nilS]]⟩,⟨5,v1,false,R.map Hs++[Hs (CN f S s [cpyT b])]⟩]:=by simp[mkH]
 exact⟨_,_,Hc (l0:=mkH (S+1) (R++[CN f S s [cpyT b]]) v1) (gar:=[⟨6,1,true,[.agg [.int .i64 1,Bf s,.int .i64 b,AH r,AH w,.lst 6 (l.map recV)]]⟩,⟨0,2,false,[]⟩]) (by rw[hfin];rfl) (Ad _) H9 trivial,rfl,v1,by rw[hfin]<;>rfl⟩
theorem z4t(s:List Span)(b:Int)(r w:List Int)(l:List Rec)(f S:Nat)(R:List Rule)(v:Nat)(hf:Ea (.mk 2 s b r w l))(hfu:Gx S R=false)(hS:S+8 * cntN (.mk 2 s b r w l)<=300000)(hR:R.length+8 * cntN (.mk 2 s b r w l)<=300000):
 B2 Tryz.prog 47 [.ptr 0 1 0 0,recV (.mk 2 s b r w l),.int .i64 f] (Abs.hl (mkH S R v)) λy H'=>y=.int .i64 ((mkM (.mk 2 s b r w l) f (S,R)).2:Nat)/\∃v',H'=Abs.hl (mkH (mkM (.mk 2 s b r w l) f (S,R)).1.1 (mkM (.mk 2 s b r w l) f (S,R)).1.2 v'):=by
 cases hf with
 |mk hs hr hw hl hch =>
 rw[cntN] at hS hR;have ps:=AX s;have pr:AD (r.map (AV.int .i32))=true:=AG .i32 _;have pw:AD (w.map (AV.int .i32))=true:=AG .i32 _;have pl:=BN l
 have e0:mkM (.mk 2 s b r w l) f (S,R)=(addR (newS (S,R)) f S s [],S):=by
  rw[mkM,Ac (by rw[show Gm (S,R)=Gx S R from rfl,hfu];simp),Ac (show ¬(2:Int)=1 by decide),Ae rfl]
 have hRu:=Ol (S+1) R v f S s hs (by omega);have hFu:=Fc S R v;rw[hfu] at hFu;have hSt:=E4 S R v (by omega);rw[Ck,e0];clear e0;refine DJ (G3 Dh (W_T ?_));unfold CJ;unfold addR newS;simp only;unfold mkH at hFu hSt hRu ⊢;(with_reducible repeat'(first|simp (disch:=omega) only[push_cast,↓zz,seval,ps,pr,pw,pl]|apply Aa|refine sp_ ?_ ?_<;>intro hc<;>push_cast at hc|omega|intro _))
 (refine Ch [0,1] (hFu) (by decide) (by simp) (by (simp(disch:=omega)only[push_cast,↓zz,seval,ps,pr,pw,pl])) (by (simp(disch:=omega)only[push_cast,↓zz,seval,ps,pr,pw,pl])) (by (simp(disch:=omega)only[push_cast,↓zz,seval,ps,pr,pw,pl])) (by (simp(disch:=omega)only[push_cast,↓zz,seval,Af,Aj,Ar,Aw,AL,As,ps,pr,pw,pl])) ?_)
 rintro y H' ⟨rfl,rfl⟩;refine⟨_,rfl,by simp,?_⟩;(with_reducible repeat'(first|simp (disch:=omega) only[push_cast,↓zz,seval,ps,pr,pw,pl]|apply Aa|refine sp_ ?_ ?_<;>intro hc<;>push_cast at hc|omega|intro _))
 (refine Ch [0,1] (hSt) (by decide) (by simp) (by (simp(disch:=omega)only[push_cast,↓zz,seval,ps,pr,pw,pl])) (by (simp(disch:=omega)only[push_cast,↓zz,seval,ps,pr,pw,pl])) (by (simp(disch:=omega)only[push_cast,↓zz,seval,ps,pr,pw,pl])) (by (simp(disch:=omega)only[push_cast,↓zz,seval,Af,Aj,Ar,Aw,AL,As,ps,pr,pw,pl])) ?_)
 rintro y H' ⟨rfl,rfl⟩;refine⟨_,rfl,by simp,?_⟩;(with_reducible repeat'(first|simp (disch:=omega) only[push_cast,↓zz,seval,ps,pr,pw,pl]|apply Aa|refine sp_ ?_ ?_<;>intro hc<;>push_cast at hc|omega|intro _))
 (refine Ch [0,1] (hRu) (by decide) (by simp) (by (simp(disch:=omega)only[push_cast,↓zz,seval,ps,pr,pw,pl])) (by (simp(disch:=omega)only[push_cast,↓zz,seval,ps,pr,pw,pl])) (by (simp(disch:=omega)only[push_cast,↓zz,seval,ps,pr,pw,pl])) (by (simp(disch:=omega)only[push_cast,↓zz,seval,Af,Aj,Ar,Aw,AL,As,ps,pr,pw,pl])) ?_)
 rintro y H' ⟨rfl,v1,rfl⟩;refine⟨_,rfl,by simp,?_⟩;(with_reducible repeat'(first|simp (disch:=omega) only[push_cast,↓zz,seval,ps,pr,pw,pl]|apply Aa|refine sp_ ?_ ?_<;>intro hc<;>push_cast at hc|omega|intro _));have hfin:mkH (S+1) (R++[CN f S s []]) v1=[⟨6,1,true,[.agg [.int .i64 2,.int .i64 2,.int .i64 ((S:Int)+1),.int .i64 0,.ref 1 v1 0 (R.length+1),.nilS]]⟩,⟨5,v1,false,R.map Hs++[Hs (CN f S s [])]⟩]:=by simp[mkH]
 exact⟨_,_,Hc (l0:=mkH (S+1) (R++[CN f S s []]) v1) (gar:=[⟨6,1,true,[.agg [.int .i64 2,Bf s,.int .i64 b,AH r,AH w,.lst 6 (l.map recV)]]⟩]) (by rw[hfin];rfl) (Ad _) H9 trivial,rfl,v1,by rw[hfin]<;>rfl⟩
theorem zah(k:Int)(s:List Span)(b:Int)(r w:List Int)(l:List Rec)(f S:Nat)(R:List Rule)(v:Nat)(hf:Ea (.mk k s b r w l))(hfu:Gx S R=false)(h1:¬k=1)(h2:¬k=2)(h3:¬k=3)(h5:¬k=5)(h6:¬k=6)(ih:∀n∈l,PZ n)(hS:S+8 * cntN (.mk k s b r w l)<=300000)(hR:R.length+8 * cntN (.mk k s b r w l)<=300000):
 B2 Tryz.prog 47 [.ptr 0 1 0 0,recV (.mk k s b r w l),.int .i64 f] (Abs.hl (mkH S R v)) λy H'=>y=.int .i64 ((mkM (.mk k s b r w l) f (S,R)).2:Nat)/\∃v',H'=Abs.hl (mkH (mkM (.mk k s b r w l) f (S,R)).1.1 (mkM (.mk k s b r w l) f (S,R)).1.2 v'):=by
 cases hf with
 |mk hs hr hw hl hch =>
 rw[cntN] at hS hR;have ps:=AX s;have pr:AD (r.map (AV.int .i32))=true:=AG .i32 _;have pw:AD (w.map (AV.int .i32))=true:=AG .i32 _;have pl:=BN l
 have e0:mkM (.mk k s b r w l) f (S,R)=catR l f (S,R):=by
  rw[mkM,Ac (by rw[show Gm (S,R)=Gx S R from rfl,hfu];simp),Ac h1,Ac h2,Ac h3,Ac h5,Ac h6]
 have hFu:=Fc S R v;rw[hfu] at hFu;have hSt:=E4 S R v (by omega);rw[Ck,e0];clear e0;refine DJ (G3 Dh (W_T ?_));unfold CJ;generalize hT2:catR l f (S,R)=T2;obtain⟨⟨S2,R2⟩,f2⟩:=T2;unfold mkH at hFu ⊢;(with_reducible repeat'(first|simp (disch:=omega) only[push_cast,↓zz,seval,ps,pr,pw,pl]|apply Aa|refine sp_ ?_ ?_<;>intro hc<;>push_cast at hc|omega|intro _))
 (refine Ch [0,1] (hFu) (by decide) (by simp) (by (simp(disch:=omega)only[push_cast,↓zz,seval,ps,pr,pw,pl,h1,h2,h3,h5,h6])) (by (simp(disch:=omega)only[push_cast,↓zz,seval,ps,pr,pw,pl,h1,h2,h3,h5,h6])) (by (simp(disch:=omega)only[push_cast,↓zz,seval,ps,pr,pw,pl,h1,h2,h3,h5,h6])) (by (simp(disch:=omega)only[push_cast,↓zz,seval,Af,Aj,Ar,Aw,AL,As,ps,pr,pw,pl,h1,h2,h3,h5,h6])) ?_)
 rintro y H' ⟨rfl,rfl⟩;refine⟨_,rfl,by simp,?_⟩;(with_reducible repeat'(first|simp (disch:=omega) only[push_cast,↓zz,seval,ps,pr,pw,pl,h1,h2,h3,h5,h6]|apply Aa|refine sp_ ?_ ?_<;>intro hc<;>push_cast at hc|omega|intro _))
 refine Bw (B5 (λ(q:CSt)=>q.i<=l.length/\catR (l.drop q.i) q.f (q.S,q.R)=((S2,R2),f2)/\q.S+8 * cntA (l.drop q.i)<=300000/\q.R.length+8 * cntA (l.drop q.i)<=300000) (λq=>l.length-q.i)
  (λq=>[(0,.ptr 0 1 0 0),(2,.int .i64 q.f),(145,.lst 6 (l.map recV)),(146,.int .i64 l.length),(147,.int .i64 q.i)]) (λq=>mkH q.S q.R q.v) (λ_ _=>[]) ⟨0,f,S,R,v⟩ ⟨A6 _,hT2,by simp only[Bz];omega,by simp only[Bz];omega⟩ ?_ ?_)
 ·unfold mkH
  (with_reducible repeat'(first|simp (disch:=omega) only[push_cast,↓zz,seval,ps,pr,pw,pl]|apply Aa|refine sp_ ?_ ?_<;>intro hc<;>push_cast at hc|omega|intro _))
 rintro⟨i,f',S',R',v'⟩ ⟨hi,hk,hb1,hb2⟩;simp only at hi hk hb1 hb2 ⊢;rcases Ak i l.length with hil|hil
 ·rw[drop_at hil,catR] at hk
  have hm:=ih _ (Bo hil);have hgr:=MD (nth l i);obtain⟨k',s',b',r',w',l',he⟩:∃k' s' b' r' w' l',nth l i=.mk k' s' b' r' w' l':=by cases nth l i;exact⟨_,_,_,_,_,_,rfl⟩
  have hrm:=Ck k' s' b' r' w' l';have ps':=AX s';have pr':AD (r'.map (AV.int .i32))=true:=AG .i32 _;have pw':AD (w'.map (AV.int .i32))=true:=AG .i32 _;have pl':=BN l';have hca:cntA (l.drop i)=cntN (nth l i)+cntA (l.drop (i+1)):=by rw[drop_at hil,cntA]
  rw[hca] at hb1 hb2;have hm:=hm f' S' R' v' (by omega) (by omega);have hgr:=hgr f' (S',R');generalize hTe:mkM (nth l i) f' (S',R')=TT at *;obtain⟨⟨S3,R3⟩,f3⟩:=TT;simp only at hm hk hgr;rw[he,hrm] at hm;unfold mkH at hm ⊢;refine W_T ?_;(with_reducible repeat'(first|simp (disch:=omega) only[push_cast,↓zz,seval,ps,pr,pw,pl,ps',pr',pw',pl',he,hrm]|apply Aa|refine sp_ ?_ ?_<;>intro hc<;>push_cast at hc|omega|intro _))
  (refine Ch [0,1] (hm) (by decide) (by simp) (by (simp(disch:=omega)only[push_cast,↓zz,seval,ps,pr,pw,pl,ps',pr',pw',pl',he,hrm])) (by (simp(disch:=omega)only[push_cast,↓zz,seval,ps,pr,pw,pl,ps',pr',pw',pl',he,hrm])) (by (simp(disch:=omega)only[push_cast,↓zz,seval,ps,pr,pw,pl,ps',pr',pw',pl',he,hrm])) (by (simp(disch:=omega)only[push_cast,↓zz,seval,Af,Aj,Ar,Aw,AL,As,ps,pr,pw,pl,ps',pr',pw',pl',he,hrm])) ?_)
  rintro y H' ⟨rfl,v3,rfl⟩;refine⟨_,rfl,by simp,?_⟩;(with_reducible repeat'(first|simp (disch:=omega) only[push_cast,↓zz,seval,ps,pr,pw,pl,ps',pr',pw',pl',he,hrm]|apply Aa|refine sp_ ?_ ?_<;>intro hc<;>push_cast at hc|omega|intro _))
  all_goals
   refine⟨⟨i+1,f3,S3,R3,v3⟩,?_⟩;(with_reducible repeat'(first|simp (disch:=omega) only[push_cast,↓zz,seval,ps,pr,pw,pl]|apply Aa|refine sp_ ?_ ?_<;>intro hc<;>push_cast at hc|omega|intro _))
  all_goals first|exact hk|omega|trace_state
 ·obtain rfl:i=l.length:=by omega
  rw[List.drop_length,catR] at hk;obtain⟨⟨rfl,rfl⟩,rfl⟩:(S'=S2/\R'=R2)/\f'=f2:=by simpa using hk
  unfold mkH;refine W_T ?_;(with_reducible repeat'(first|simp (disch:=omega) only[push_cast,↓zz,seval,ps,pr,pw,pl]|apply Aa|refine sp_ ?_ ?_<;>intro hc<;>push_cast at hc|omega|intro _));exact⟨_,_,Ent.refl,rfl,v',rfl⟩
theorem zai(s:List Span)(b:Int)(r w:List Int)(l:List Rec)(f S:Nat)(R:List Rule)(v:Nat)(hf:Ea (.mk 5 s b r w l))(hfu:Gx S R=false)(ih:∀n∈l,PZ n)(hS:S+8 * cntN (.mk 5 s b r w l)<=300000)(hR:R.length+8 * cntN (.mk 5 s b r w l)<=300000):
 B2 Tryz.prog 47 [.ptr 0 1 0 0,recV (.mk 5 s b r w l),.int .i64 f] (Abs.hl (mkH S R v)) λy H'=>y=.int .i64 ((mkM (.mk 5 s b r w l) f (S,R)).2:Nat)/\∃v',H'=Abs.hl (mkH (mkM (.mk 5 s b r w l) f (S,R)).1.1 (mkM (.mk 5 s b r w l) f (S,R)).1.2 v'):=by
 cases hf with
 |mk hs hr hw hl hch =>
 rw[cntN] at hS hR;have ps:=AX s;have pr:AD (r.map (AV.int .i32))=true:=AG .i32 _;have pw:AD (w.map (AV.int .i32))=true:=AG .i32 _;have pl:=BN l
 have e0:mkM (.mk 5 s b r w l) f (S,R)=(altR l f S (newS (S,R)),S):=by
  rw[mkM,Ac (by rw[show Gm (S,R)=Gx S R from rfl,hfu];simp),Ac (show ¬(5:Int)=1 by decide),Ac (show ¬(5:Int)=2 by decide),Ac (show ¬(5:Int)=3 by decide),Ae rfl]
 have hFu:=Fc S R v;rw[hfu] at hFu;have hSt:=E4 S R v (by omega);rw[Ck,e0];clear e0;refine DJ (G3 Dh (W_T ?_));unfold CJ;generalize hT2:altR l f S (newS (S,R))=T2;obtain⟨S2,R2⟩:=T2;unfold mkH at hFu hSt ⊢;(with_reducible repeat'(first|simp (disch:=omega) only[push_cast,↓zz,seval,ps,pr,pw,pl]|apply Aa|refine sp_ ?_ ?_<;>intro hc<;>push_cast at hc|omega|intro _))
 (refine Ch [0,1] (hFu) (by decide) (by simp) (by (simp(disch:=omega)only[push_cast,↓zz,seval,ps,pr,pw,pl])) (by (simp(disch:=omega)only[push_cast,↓zz,seval,ps,pr,pw,pl])) (by (simp(disch:=omega)only[push_cast,↓zz,seval,ps,pr,pw,pl])) (by (simp(disch:=omega)only[push_cast,↓zz,seval,Af,Aj,Ar,Aw,AL,As,ps,pr,pw,pl])) ?_)
 rintro y H' ⟨rfl,rfl⟩;refine⟨_,rfl,by simp,?_⟩;(with_reducible repeat'(first|simp (disch:=omega) only[push_cast,↓zz,seval,ps,pr,pw,pl]|apply Aa|refine sp_ ?_ ?_<;>intro hc<;>push_cast at hc|omega|intro _))
 (refine Ch [0,1] (hSt) (by decide) (by simp) (by (simp(disch:=omega)only[push_cast,↓zz,seval,ps,pr,pw,pl])) (by (simp(disch:=omega)only[push_cast,↓zz,seval,ps,pr,pw,pl])) (by (simp(disch:=omega)only[push_cast,↓zz,seval,ps,pr,pw,pl])) (by (simp(disch:=omega)only[push_cast,↓zz,seval,Af,Aj,Ar,Aw,AL,As,ps,pr,pw,pl])) ?_)
 rintro y H' ⟨rfl,rfl⟩;refine⟨_,rfl,by simp,?_⟩;(with_reducible repeat'(first|simp (disch:=omega) only[push_cast,↓zz,seval,ps,pr,pw,pl]|apply Aa|refine sp_ ?_ ?_<;>intro hc<;>push_cast at hc|omega|intro _))
 refine Bw (B5 (λ(q:CSt)=>q.i<=l.length/\altR (l.drop q.i) f S (q.S,q.R)=(S2,R2)/\q.S+8 * cntA (l.drop q.i)+7<=300000/\q.R.length+8 * cntA (l.drop q.i)+7<=300000) (λq=>l.length-q.i)
  (λq=>[(0,.ptr 0 1 0 0),(2,.int .i64 f),(12,.int .i64 S),(85,.lst 6 (l.map recV)),(86,.int .i64 l.length),(87,.int .i64 q.i)]) (λq=>mkH q.S q.R q.v) (λ_ _=>[]) ⟨0,0,S+1,R,v⟩ ⟨A6 _,hT2,by simp only[Bz];omega,by simp only[Bz];omega⟩ ?_ ?_)
 ·unfold mkH
  (with_reducible repeat'(first|simp (disch:=omega) only[push_cast,↓zz,seval,ps,pr,pw,pl]|apply Aa|refine sp_ ?_ ?_<;>intro hc<;>push_cast at hc|omega|intro _))
 rintro⟨i,f',S',R',v'⟩ ⟨hi,hk,hb1,hb2⟩;simp only at hi hk hb1 hb2 ⊢;rcases Ak i l.length with hil|hil
 ·rw[drop_at hil,altR] at hk
  have hm:=ih _ (Bo hil);have hgr:=MD (nth l i);obtain⟨k',s',b',r',w',l',he⟩:∃k' s' b' r' w' l',nth l i=.mk k' s' b' r' w' l':=by cases nth l i;exact⟨_,_,_,_,_,_,rfl⟩
  have hrm:=Ck k' s' b' r' w' l';have ps':=AX s';have pr':AD (r'.map (AV.int .i32))=true:=AG .i32 _;have pw':AD (w'.map (AV.int .i32))=true:=AG .i32 _;have pl':=BN l';have hca:cntA (l.drop i)=cntN (nth l i)+cntA (l.drop (i+1)):=by rw[drop_at hil,cntA]
  rw[hca] at hb1 hb2;have hSt2:=E4 S' R' v' (by omega);have hRu:=λv''=>Gn (S'+1) R' v'' f S' (by omega);have hm:=λv''=>hm S' (S'+1) (R'++[CN f S' [] []]) v'' (by omega) (by simp;omega);have hgr:=hgr S' (S'+1,R'++[CN f S' [] []]);have hk:altR (l.drop (i+1)) f S (addR (mkM (nth l i) S' (S'+1,R'++[CN f S' [] []])).1 (mkM (nth l i) S' (S'+1,R'++[CN f S' [] []])).2 S [] [])=(S2,R2):=hk;generalize hTe:mkM (nth l i) S' (S'+1,R'++[CN f S' [] []])=TT at *;obtain⟨⟨S3,R3⟩,f3⟩:=TT;simp only[Ah,List.length_singleton] at hm hk hgr;have hRu2:=λv''=>Gn S3 R3 v'' f3 S (by omega);unfold addR at hk;simp only at hk;simp only[he,hrm] at hm;unfold mkH at hSt2 hRu hm hRu2 ⊢;refine W_T ?_;(with_reducible repeat'(first|simp (disch:=omega) only[push_cast,↓zz,seval,ps,pr,pw,pl,ps',pr',pw',pl',he,hrm]|apply Aa|refine sp_ ?_ ?_<;>intro hc<;>push_cast at hc|omega|intro _))
  (refine Ch [0,1] (hSt2) (by decide) (by simp) (by (simp(disch:=omega)only[push_cast,↓zz,seval,ps,pr,pw,pl,ps',pr',pw',pl',he,hrm])) (by (simp(disch:=omega)only[push_cast,↓zz,seval,ps,pr,pw,pl,ps',pr',pw',pl',he,hrm])) (by (simp(disch:=omega)only[push_cast,↓zz,seval,ps,pr,pw,pl,ps',pr',pw',pl',he,hrm])) (by (simp(disch:=omega)only[push_cast,↓zz,seval,Af,Aj,Ar,Aw,AL,As,ps,pr,pw,pl,ps',pr',pw',pl',he,hrm])) ?_)
  rintro y H' ⟨rfl,rfl⟩;refine⟨_,rfl,by simp,?_⟩;(with_reducible repeat'(first|simp (disch:=omega) only[push_cast,↓zz,seval,ps,pr,pw,pl,ps',pr',pw',pl',he,hrm]|apply Aa|refine sp_ ?_ ?_<;>intro hc<;>push_cast at hc|omega|intro _))
  (refine Ch [0,1] ((hRu v')) (by decide) (by simp) (by (simp(disch:=omega)only[push_cast,↓zz,seval,ps,pr,pw,pl,ps',pr',pw',pl',he,hrm])) (by (simp(disch:=omega)only[push_cast,↓zz,seval,ps,pr,pw,pl,ps',pr',pw',pl',he,hrm])) (by (simp(disch:=omega)only[push_cast,↓zz,seval,ps,pr,pw,pl,ps',pr',pw',pl',he,hrm])) (by (simp(disch:=omega)only[push_cast,↓zz,seval,Af,Aj,Ar,Aw,AL,As,ps,pr,pw,pl,ps',pr',pw',pl',he,hrm])) ?_)
  rintro y H' ⟨rfl,v1,rfl⟩;refine⟨_,rfl,by simp,?_⟩;(with_reducible repeat'(first|simp (disch:=omega) only[push_cast,↓zz,seval,ps,pr,pw,pl,ps',pr',pw',pl',he,hrm]|apply Aa|refine sp_ ?_ ?_<;>intro hc<;>push_cast at hc|omega|intro _))
  (refine Ch [0,1] ((hm v1)) (by decide) (by simp) (by (simp(disch:=omega)only[push_cast,↓zz,seval,ps,pr,pw,pl,ps',pr',pw',pl',he,hrm,Ao,A4,A8,Ah,List.length_singleton])) (by (simp(disch:=omega)only[push_cast,↓zz,seval,ps,pr,pw,pl,ps',pr',pw',pl',he,hrm,Ao,A4,A8,Ah,List.length_singleton])) (by (simp(disch:=omega)only[push_cast,↓zz,seval,ps,pr,pw,pl,ps',pr',pw',pl',he,hrm,Ao,A4,A8,Ah,List.length_singleton])) (by (simp(disch:=omega)only[push_cast,↓zz,seval,Af,Aj,Ar,Aw,AL,As,ps,pr,pw,pl,ps',pr',pw',pl',he,hrm,Ao,A4,A8,Ah,List.length_singleton])) ?_)
  rintro y H' ⟨rfl,v2,rfl⟩;refine⟨_,rfl,by simp,?_⟩;(with_reducible repeat'(first|simp (disch:=omega) only[push_cast,↓zz,seval,ps,pr,pw,pl,ps',pr',pw',pl',he,hrm,Ao,A4,A8,Ah,List.length_singleton]|apply Aa|refine sp_ ?_ ?_<;>intro hc<;>push_cast at hc|omega|intro _))
  (refine Ch [0,1] ((hRu2 v2)) (by decide) (by simp) (by (simp(disch:=omega)only[push_cast,↓zz,seval,ps,pr,pw,pl,ps',pr',pw',pl',he,hrm])) (by (simp(disch:=omega)only[push_cast,↓zz,seval,ps,pr,pw,pl,ps',pr',pw',pl',he,hrm])) (by (simp(disch:=omega)only[push_cast,↓zz,seval,ps,pr,pw,pl,ps',pr',pw',pl',he,hrm])) (by (simp(disch:=omega)only[push_cast,↓zz,seval,Af,Aj,Ar,Aw,AL,As,ps,pr,pw,pl,ps',pr',pw',pl',he,hrm])) ?_)
  rintro y H' ⟨rfl,v3,rfl⟩;refine⟨_,rfl,by simp,?_⟩;(with_reducible repeat'(first|simp (disch:=omega) only[push_cast,↓zz,seval,ps,pr,pw,pl,ps',pr',pw',pl',he,hrm]|apply Aa|refine sp_ ?_ ?_<;>intro hc<;>push_cast at hc|omega|intro _))
  all_goals
   refine⟨⟨i+1,0,S3,R3++[CN f3 S [] []],v3⟩,?_⟩;(with_reducible repeat'(first|simp (disch:=omega) only[push_cast,↓zz,seval,ps,pr,pw,pl]|apply Aa|refine sp_ ?_ ?_<;>intro hc<;>push_cast at hc|omega|intro _))
  all_goals first|exact hk|(simp;omega)|omega|trace_state
 ·obtain rfl:i=l.length:=by omega
  rw[List.drop_length,altR] at hk;obtain⟨rfl,rfl⟩:S'=S2/\R'=R2:=by simpa using hk
  unfold mkH;refine W_T ?_;(with_reducible repeat'(first|simp (disch:=omega) only[push_cast,↓zz,seval,ps,pr,pw,pl]|apply Aa|refine sp_ ?_ ?_<;>intro hc<;>push_cast at hc|omega|intro _));exact⟨_,_,Ent.refl,rfl,v',rfl⟩
theorem z4u(s:List Span)(b:Int)(r w:List Int)(l:List Rec)(f S:Nat)(R:List Rule)(v:Nat)(hf:Ea (.mk 6 s b r w l))(hfu:Gx S R=false)(ih:∀n∈l,PZ n)(hS:S+8 * cntN (.mk 6 s b r w l)<=300000)(hR:R.length+8 * cntN (.mk 6 s b r w l)<=300000):
 B2 Tryz.prog 47 [.ptr 0 1 0 0,recV (.mk 6 s b r w l),.int .i64 f] (Abs.hl (mkH S R v)) λy H'=>y=.int .i64 ((mkM (.mk 6 s b r w l) f (S,R)).2:Nat)/\∃v',H'=Abs.hl (mkH (mkM (.mk 6 s b r w l) f (S,R)).1.1 (mkM (.mk 6 s b r w l) f (S,R)).1.2 v'):=by
 cases hf with
 |mk hs hr hw hl hch =>
 rw[cntN] at hS hR;have ps:=AX s;have pr:AD (r.map (AV.int .i32))=true:=AG .i32 _;have pw:AD (w.map (AV.int .i32))=true:=AG .i32 _;have pl:=BN l
 have e0:mkM (.mk 6 s b r w l) f (S,R)=(addR (newS (addR (catR l (S+1) (S+1+1,(R++[CN f S [] []])++[CN S (S+1:Nat) [] []])).1 (catR l (S+1) (S+1+1,(R++[CN f S [] []])++[CN S (S+1:Nat) [] []])).2 S [] [])) S (catR l (S+1) (S+1+1,(R++[CN f S [] []])++[CN S (S+1:Nat) [] []])).1.1 [] [],(catR l (S+1) (S+1+1,(R++[CN f S [] []])++[CN S (S+1:Nat) [] []])).1.1):=by
  rw[mkM,Ac (by rw[show Gm (S,R)=Gx S R from rfl,hfu];simp),Ac (show ¬(6:Int)=1 by decide),Ac (show ¬(6:Int)=2 by decide),Ac (show ¬(6:Int)=3 by decide),Ac (show ¬(6:Int)=5 by decide),Ae rfl];rfl
 have hFu:=Fc S R v;rw[hfu] at hFu;have hSt:=E4 S R v (by omega);rw[Ck,e0];clear e0;refine DJ (G3 Dh (W_T ?_));unfold CJ;have hgc:=KJ l (λn _=>MD n) (S+1) (S+1+1,(R++[CN f S [] []])++[CN S (S+1:Nat) [] []]);simp only[Ah,List.length_singleton] at hgc;generalize hT2:catR l (S+1) (S+1+1,(R++[CN f S [] []])++[CN S (S+1:Nat) [] []])=T2 at *;obtain⟨⟨S2,R2⟩,f2⟩:=T2;simp only at hgc;unfold addR newS;simp only;have hRa:=λv=>Gn (S+1) R v f S (by omega);have hSt1:=λv=>E4 (S+1) (R++[CN f S [] []]) v (by omega);have hRb:=λv=>Gn (S+1+1) (R++[CN f S [] []]) v S (S+1:Nat) (by simp;omega);have hRc:=λv=>Gn S2 R2 v f2 S (by omega);have hSt2:=λv=>E4 S2 (R2++[CN f2 S [] []]) v (by omega);have hRd:=λv=>Gn (S2+1) (R2++[CN f2 S [] []]) v S S2 (by simp;omega);unfold mkH at hFu hSt hRa hSt1 hRb hRc hSt2 hRd ⊢;(with_reducible repeat'(first|simp (disch:=omega) only[push_cast,↓zz,seval,ps,pr,pw,pl]|apply Aa|refine sp_ ?_ ?_<;>intro hc<;>push_cast at hc|omega|intro _))
 (refine Ch [0,1] (hFu) (by decide) (by simp) (by (simp(disch:=omega)only[push_cast,↓zz,seval,ps,pr,pw,pl])) (by (simp(disch:=omega)only[push_cast,↓zz,seval,ps,pr,pw,pl])) (by (simp(disch:=omega)only[push_cast,↓zz,seval,ps,pr,pw,pl])) (by (simp(disch:=omega)only[push_cast,↓zz,seval,Af,Aj,Ar,Aw,AL,As,ps,pr,pw,pl])) ?_)
 rintro y H' ⟨rfl,rfl⟩;refine⟨_,rfl,by simp,?_⟩;(with_reducible repeat'(first|simp (disch:=omega) only[push_cast,↓zz,seval,ps,pr,pw,pl]|apply Aa|refine sp_ ?_ ?_<;>intro hc<;>push_cast at hc|omega|intro _))
 (refine Ch [0,1] (hSt) (by decide) (by simp) (by (simp(disch:=omega)only[push_cast,↓zz,seval,ps,pr,pw,pl])) (by (simp(disch:=omega)only[push_cast,↓zz,seval,ps,pr,pw,pl])) (by (simp(disch:=omega)only[push_cast,↓zz,seval,ps,pr,pw,pl])) (by (simp(disch:=omega)only[push_cast,↓zz,seval,Af,Aj,Ar,Aw,AL,As,ps,pr,pw,pl])) ?_)
 rintro y H' ⟨rfl,rfl⟩;refine⟨_,rfl,by simp,?_⟩;(with_reducible repeat'(first|simp (disch:=omega) only[push_cast,↓zz,seval,ps,pr,pw,pl]|apply Aa|refine sp_ ?_ ?_<;>intro hc<;>push_cast at hc|omega|intro _))
 (refine Ch [0,1] ((hRa v)) (by decide) (by simp) (by (simp(disch:=omega)only[push_cast,↓zz,seval,ps,pr,pw,pl])) (by (simp(disch:=omega)only[push_cast,↓zz,seval,ps,pr,pw,pl])) (by (simp(disch:=omega)only[push_cast,↓zz,seval,ps,pr,pw,pl])) (by (simp(disch:=omega)only[push_cast,↓zz,seval,Af,Aj,Ar,Aw,AL,As,ps,pr,pw,pl])) ?_)
 rintro y H' ⟨rfl,v1,rfl⟩;refine⟨_,rfl,by simp,?_⟩;(with_reducible repeat'(first|simp (disch:=omega) only[push_cast,↓zz,seval,ps,pr,pw,pl]|apply Aa|refine sp_ ?_ ?_<;>intro hc<;>push_cast at hc|omega|intro _))
 (refine Ch [0,1] ((hSt1 v1)) (by decide) (by simp) (by (simp(disch:=omega)only[push_cast,↓zz,seval,ps,pr,pw,pl,Ao,A4,A8,Ah,List.length_singleton])) (by (simp(disch:=omega)only[push_cast,↓zz,seval,ps,pr,pw,pl,Ao,A4,A8,Ah,List.length_singleton])) (by (simp(disch:=omega)only[push_cast,↓zz,seval,ps,pr,pw,pl,Ao,A4,A8,Ah,List.length_singleton])) (by (simp(disch:=omega)only[push_cast,↓zz,seval,Af,Aj,Ar,Aw,AL,As,ps,pr,pw,pl,Ao,A4,A8,Ah,List.length_singleton])) ?_)
 rintro y H' ⟨rfl,rfl⟩;refine⟨_,rfl,by simp,?_⟩;(with_reducible repeat'(first|simp (disch:=omega) only[push_cast,↓zz,seval,ps,pr,pw,pl,Ao,A4,A8,Ah,List.length_singleton]|apply Aa|refine sp_ ?_ ?_<;>intro hc<;>push_cast at hc|omega|intro _))
 (refine Ch [0,1] ((hRb v1)) (by decide) (by simp) (by (simp(disch:=omega)only[push_cast,↓zz,seval,ps,pr,pw,pl,Ao,A4,A8,Ah,List.length_singleton])) (by (simp(disch:=omega)only[push_cast,↓zz,seval,ps,pr,pw,pl,Ao,A4,A8,Ah,List.length_singleton])) (by (simp(disch:=omega)only[push_cast,↓zz,seval,ps,pr,pw,pl,Ao,A4,A8,Ah,List.length_singleton])) (by (simp(disch:=omega)only[push_cast,↓zz,seval,Af,Aj,Ar,Aw,AL,As,ps,pr,pw,pl,Ao,A4,A8,Ah,List.length_singleton])) ?_)
 rintro y H' ⟨rfl,v2,rfl⟩;refine⟨_,rfl,by simp,?_⟩;(with_reducible repeat'(first|simp (disch:=omega) only[push_cast,↓zz,seval,ps,pr,pw,pl,Ao,A4,A8,Ah,List.length_singleton]|apply Aa|refine sp_ ?_ ?_<;>intro hc<;>push_cast at hc|omega|intro _))
 refine Bw (B5 (λ(q:CSt)=>q.i<=l.length/\catR (l.drop q.i) q.f (q.S,q.R)=((S2,R2),f2)/\q.S+8 * cntA (l.drop q.i)<=300000/\q.R.length+8 * cntA (l.drop q.i)<=300000) (λq=>l.length-q.i)
  (λq=>[(0,.ptr 0 1 0 0),(16,.int .i64 S),(18,.int .i64 q.f),(122,.lst 6 (l.map recV)),(123,.int .i64 l.length),(124,.int .i64 q.i)]) (λq=>mkH q.S q.R q.v) (λ_ _=>[]) ⟨0,S+1,S+1+1,(R++[CN f S [] []])++[CN S (S+1:Nat) [] []],v2⟩ ⟨A6 _,hT2,by simp only[Bz];omega,by simp only[Bz,Ah,List.length_singleton];omega⟩ ?_ ?_)
 ·unfold mkH
  (with_reducible repeat'(first|simp (disch:=omega) only[push_cast,↓zz,seval,ps,pr,pw,pl]|apply Aa|refine sp_ ?_ ?_<;>intro hc<;>push_cast at hc|omega|intro _))
 rintro⟨i,f',S',R',v'⟩ ⟨hi,hk,hb1,hb2⟩;simp only at hi hk hb1 hb2 ⊢;rcases Ak i l.length with hil|hil
 ·rw[drop_at hil,catR] at hk
  have hm:=ih _ (Bo hil);have hgr:=MD (nth l i);obtain⟨k',s',b',r',w',l',he⟩:∃k' s' b' r' w' l',nth l i=.mk k' s' b' r' w' l':=by cases nth l i;exact⟨_,_,_,_,_,_,rfl⟩
  have hrm:=Ck k' s' b' r' w' l';have ps':=AX s';have pr':AD (r'.map (AV.int .i32))=true:=AG .i32 _;have pw':AD (w'.map (AV.int .i32))=true:=AG .i32 _;have pl':=BN l';have hca:cntA (l.drop i)=cntN (nth l i)+cntA (l.drop (i+1)):=by rw[drop_at hil,cntA]
  rw[hca] at hb1 hb2;have hm:=hm f' S' R' v' (by omega) (by omega);have hgr:=hgr f' (S',R');generalize hTe:mkM (nth l i) f' (S',R')=TT at *;obtain⟨⟨S3,R3⟩,f3⟩:=TT;simp only at hm hk hgr;rw[he,hrm] at hm;unfold mkH at hm ⊢;refine W_T ?_;(with_reducible repeat'(first|simp (disch:=omega) only[push_cast,↓zz,seval,ps,pr,pw,pl,ps',pr',pw',pl',he,hrm]|apply Aa|refine sp_ ?_ ?_<;>intro hc<;>push_cast at hc|omega|intro _))
  (refine Ch [0,1] (hm) (by decide) (by simp) (by (simp(disch:=omega)only[push_cast,↓zz,seval,ps,pr,pw,pl,ps',pr',pw',pl',he,hrm])) (by (simp(disch:=omega)only[push_cast,↓zz,seval,ps,pr,pw,pl,ps',pr',pw',pl',he,hrm])) (by (simp(disch:=omega)only[push_cast,↓zz,seval,ps,pr,pw,pl,ps',pr',pw',pl',he,hrm])) (by (simp(disch:=omega)only[push_cast,↓zz,seval,Af,Aj,Ar,Aw,AL,As,ps,pr,pw,pl,ps',pr',pw',pl',he,hrm])) ?_)
  rintro y H' ⟨rfl,v3,rfl⟩;refine⟨_,rfl,by simp,?_⟩;(with_reducible repeat'(first|simp (disch:=omega) only[push_cast,↓zz,seval,ps,pr,pw,pl,ps',pr',pw',pl',he,hrm]|apply Aa|refine sp_ ?_ ?_<;>intro hc<;>push_cast at hc|omega|intro _))
  all_goals
   refine⟨⟨i+1,f3,S3,R3,v3⟩,?_⟩;(with_reducible repeat'(first|simp (disch:=omega) only[push_cast,↓zz,seval,ps,pr,pw,pl]|apply Aa|refine sp_ ?_ ?_<;>intro hc<;>push_cast at hc|omega|intro _))
  all_goals first|exact hk|omega|trace_state
 ·obtain rfl:i=l.length:=by omega
  rw[List.drop_length,catR] at hk;obtain⟨⟨rfl,rfl⟩,rfl⟩:(S'=S2/\R'=R2)/\f'=f2:=by simpa using hk
  unfold mkH;refine W_T ?_;(with_reducible repeat'(first|simp (disch:=omega) only[push_cast,↓zz,seval,ps,pr,pw,pl]|apply Aa|refine sp_ ?_ ?_<;>intro hc<;>push_cast at hc|omega|intro _))
  (refine Ch [0,1] ((hRc v')) (by decide) (by simp) (by (simp(disch:=omega)only[push_cast,↓zz,seval,ps,pr,pw,pl])) (by (simp(disch:=omega)only[push_cast,↓zz,seval,ps,pr,pw,pl])) (by (simp(disch:=omega)only[push_cast,↓zz,seval,ps,pr,pw,pl])) (by (simp(disch:=omega)only[push_cast,↓zz,seval,Af,Aj,Ar,Aw,AL,As,ps,pr,pw,pl])) ?_)
  rintro y H' ⟨rfl,v3,rfl⟩;refine⟨_,rfl,by simp,?_⟩;(with_reducible repeat'(first|simp (disch:=omega) only[push_cast,↓zz,seval,ps,pr,pw,pl]|apply Aa|refine sp_ ?_ ?_<;>intro hc<;>push_cast at hc|omega|intro _))
  (refine Ch [0,1] ((hSt2 v3)) (by decide) (by simp) (by (simp(disch:=omega)only[push_cast,↓zz,seval,ps,pr,pw,pl,Ao,A4,A8,Ah,List.length_singleton])) (by (simp(disch:=omega)only[push_cast,↓zz,seval,ps,pr,pw,pl,Ao,A4,A8,Ah,List.length_singleton])) (by (simp(disch:=omega)only[push_cast,↓zz,seval,ps,pr,pw,pl,Ao,A4,A8,Ah,List.length_singleton])) (by (simp(disch:=omega)only[push_cast,↓zz,seval,Af,Aj,Ar,Aw,AL,As,ps,pr,pw,pl,Ao,A4,A8,Ah,List.length_singleton])) ?_)
  rintro y H' ⟨rfl,rfl⟩;refine⟨_,rfl,by simp,?_⟩;(with_reducible repeat'(first|simp (disch:=omega) only[push_cast,↓zz,seval,ps,pr,pw,pl,Ao,A4,A8,Ah,List.length_singleton]|apply Aa|refine sp_ ?_ ?_<;>intro hc<;>push_cast at hc|omega|intro _))
  (refine Ch [0,1] ((hRd v3)) (by decide) (by simp) (by (simp(disch:=omega)only[push_cast,↓zz,seval,ps,pr,pw,pl,Ao,A4,A8,Ah,List.length_singleton])) (by (simp(disch:=omega)only[push_cast,↓zz,seval,ps,pr,pw,pl,Ao,A4,A8,Ah,List.length_singleton])) (by (simp(disch:=omega)only[push_cast,↓zz,seval,ps,pr,pw,pl,Ao,A4,A8,Ah,List.length_singleton])) (by (simp(disch:=omega)only[push_cast,↓zz,seval,Af,Aj,Ar,Aw,AL,As,ps,pr,pw,pl,Ao,A4,A8,Ah,List.length_singleton])) ?_)
  rintro y H' ⟨rfl,v4,rfl⟩;refine⟨_,rfl,by simp,?_⟩;(with_reducible repeat'(first|simp (disch:=omega) only[push_cast,↓zz,seval,ps,pr,pw,pl,Ao,A4,A8,Ah,List.length_singleton]|apply Aa|refine sp_ ?_ ?_<;>intro hc<;>push_cast at hc|omega|intro _));exact⟨_,_,Ent.refl,rfl,v4,by simp⟩
theorem Za(n:Rec):Ea n->PZ n:=by
 refine Rec.ind (P:=λn=>Ea n->PZ n) ?_ n;intro k s b r w l ih hf f S R v hS hR;cases hfu:Gx S R with
 |true =>
  have e:mkM (.mk k s b r w l) f (S,R)=((S,R),f):=by rw[mkM,Ae (show Gm (S,R)=true from hfu)]
  rw[e];exact z4r _ f S R v hfu
 |false =>
  have ih2:∀n∈l,PZ n:=λn hn=>ih n hn (by cases hf with|mk _ _ _ _ h=>exact h n hn);by_cases h1:k=1
  ·subst h1;exact z4s s b r w l f S R v hf hfu hS hR
  by_cases h2:k=2
  ·subst h2;exact z4t s b r w l f S R v hf hfu hS hR
  by_cases h3:k=3
  ·subst h3;exact z4q r s b w l f S R v hf hS hR
  by_cases h5:k=5
  ·subst h5;exact zai s b r w l f S R v hf hfu ih2 hS hR
  by_cases h6:k=6
  ·subst h6;exact z4u s b r w l f S R v hf hfu ih2 hS hR
  exact zah k s b r w l f S R v hf hfu h1 h2 h3 h5 h6 ih2 hS hR
set_option maxRecDepth 100000
theorem Vr:PC Tryz.prog 46 [.int .i64 2,.int .i64 2] (.agg [.int .i64 2,.int .i64 2,.int .i64 1,.int .i64 0,.nilS,.nilS]):=by
 refine Cg Sx ?_;unfold LI;(with_reducible repeat'(first|simp (disch:=omega) only[push_cast,↓zz,seval]|apply Aa|refine sp_ ?_ ?_<;>intro hc<;>push_cast at hc|omega|intro _))
 all_goals trace_state
def zgk:Desc:=⟨0,0,0,0,[],[]⟩
def HC(n:Rec):Desc:=⟨2,2,(mkM n 0 (1,[])).1.1,0,(mkM n 0 (1,[])).1.2,[⟨(mkM n 0 (1,[])).2,[],[]⟩]⟩
def IH(n:Rec):Int:=if okR n 0=false then 2 else if Gm (mkM n 0 (1,[])).1=true then 4 else 0
abbrev zaj(n:Rec):AV:=.tup [E8 (if IH n=0 then HC n else zgk),.int .i64 (IH n)]
abbrev zgl(n:Rec):AV:=.tup [if IH n=0 then .agg [.int .i64 2,.int .i64 2,.int .i64 (mkM n 0 (1,[])).1.1,.int .i64 0,F4 (mkM n 0 (1,[])).1.2,.lst 3 [.agg [.int .i64 (mkM n 0 (1,[])).2,.nilS,.nilS]]] else E8 zgk,.int .i64 (IH n)]
theorem Rr(n:Rec)(hf:Ea n)(hc:cntN n<=10000):PC Tryz.prog 18 [recV n] (zgl n):=by
 have hR:=L3 n hf;have hE:=Vr;have hM:=Za n hf 0 1 [] 1 (by omega) (by simp;omega);unfold zgl IH zgk;have pn:(recV n).pure=true:=NK n;obtain⟨k,s,b,r,w,l,he⟩:∃k s b r w l,n=.mk k s b r w l:=by cases n;exact⟨_,_,_,_,_,_,rfl⟩
 generalize hT:mkM n 0 (1,[])=T at *;generalize okR n 0=q at *;rw[he,Ck] at *;obtain⟨⟨S,R⟩,t⟩:=T;simp only at hM ⊢;have ps:=AX s;have pr:AD (r.map (AV.int .i32))=true:=AG .i32 _;have pw:AD (w.map (AV.int .i32))=true:=AG .i32 _;have pl:=BN l;refine z8w O7 ?_;unfold Jj;refine F8 (W_T ?_);(with_reducible repeat'(first|simp (disch:=omega) only[push_cast,↓zz,seval,ps,pr,pw,pl]|apply Aa|refine sp_ ?_ ?_<;>intro hc<;>push_cast at hc|omega|intro _));refine F8 (W_T ?_);cases q with
 |false =>
  rw[Ae rfl,Ac (by decide)];(with_reducible repeat'(first|simp (disch:=omega) only[push_cast,↓zz,seval,ps,pr,pw,pl]|apply Aa|refine sp_ ?_ ?_<;>intro hc<;>push_cast at hc|refine ee hR ?_|(refine cc hR ?_;(simp(disch:=omega)only[push_cast,↓zz,seval,ps,pr,pw,pl]);(fail_if_success change False))|omega|intro _))
  all_goals first|((repeat'(first|(simp(disch:=omega)only[push_cast,↓zz,seval,DC])|omega|(with_reducible refine Aa ?_ ?_)));done)|trace_state
 |true =>
 rw[Ac (show ¬(true=false) by decide)];(with_reducible repeat'(first|simp (disch:=omega) only[push_cast,↓zz,seval,ps,pr,pw,pl]|apply Aa|refine sp_ ?_ ?_<;>intro hc<;>push_cast at hc|refine ee hR ?_|(refine cc hR ?_;(simp(disch:=omega)only[push_cast,↓zz,seval,ps,pr,pw,pl]);(fail_if_success change False))|omega|intro _));refine F8 (W_T ?_);(with_reducible repeat'(first|simp (disch:=omega) only[push_cast,↓zz,seval,ps,pr,pw,pl]|apply Aa|refine sp_ ?_ ?_<;>intro hc<;>push_cast at hc|refine ee hE ?_|(refine cc hE ?_;(simp(disch:=omega)only[push_cast,↓zz,seval,ps,pr,pw,pl]);(fail_if_success change False))|omega|intro _))
 refine Mt ((Q1 [5] (by decide)).trans (Sq (l':=[⟨6,1,true,[.agg [.int .i64 k,Bf s,.int .i64 b,AH r,AH w,.lst 6 (l.map recV)]]⟩,⟨6,1,true,[.agg [.int .i64 0,.int .i64 0,.int .i64 0,.int .i64 0,.nilS,.nilS]]⟩,
  ⟨6,1,true,[.agg [.int .i64 2,.int .i64 2,.int .i64 1,.int .i64 0,.ref 3 1 0 0,.nilS]]⟩,⟨5,1,false,[]⟩])
  ⟨⟨rfl,rfl,id,Br _ _⟩,⟨rfl,rfl,id,Br _ _⟩,⟨rfl,rfl,id,⟨⟨EC _ _,EC _ _,EC _ _,EC _ _,⟨rfl,rfl,rfl,(show 0<5 by decide),rfl,rfl,by simp⟩,EC _ _,rfl⟩,rfl⟩⟩,⟨rfl,rfl,λh=>(by cases h),rfl⟩,trivial⟩ (λi _=>EC _ _))) (F8 (W_T ?_))
 have hM:B2 Tryz.prog 47 [.ptr 0 1 0 0,.agg [.int .i64 k,Bf s,.int .i64 b,AH r,AH w,.lst 6 (l.map recV)],.int .i64 0] (Abs.hl [⟨6,1,true,[.agg [.int .i64 2,.int .i64 2,.int .i64 1,.int .i64 0,.ref 1 1 0 0,.nilS]]⟩,⟨5,1,false,[]⟩])
  λy H'=>y=.int .i64 t/\∃v',H'=Abs.hl [⟨6,1,true,[.agg [.int .i64 2,.int .i64 2,.int .i64 S,.int .i64 0,.ref 1 v' 0 R.length,.nilS]]⟩,⟨5,v',false,R.map Hs⟩]:=hM
 have hFu:=λv=>Fc S R v;unfold mkH at hFu;(with_reducible repeat'(first|simp (disch:=omega) only[push_cast,↓zz,seval,ps,pr,pw,pl]|apply Aa|refine sp_ ?_ ?_<;>intro hc<;>push_cast at hc|omega|intro _))
 (refine Ch [2,3] (hM) (by decide) (by simp) (by (simp(disch:=omega)only[push_cast,↓zz,seval,ps,pr,pw,pl])) (by (simp(disch:=omega)only[push_cast,↓zz,seval,ps,pr,pw,pl])) (by (simp(disch:=omega)only[push_cast,↓zz,seval,ps,pr,pw,pl])) (by (simp(disch:=omega)only[push_cast,↓zz,seval,Af,Aj,Ar,Aw,AL,As,ps,pr,pw,pl])) ?_)
 rintro y H' ⟨rfl,v1,rfl⟩;refine⟨_,rfl,by simp,?_⟩;(with_reducible repeat'(first|simp (disch:=omega) only[push_cast,↓zz,seval,ps,pr,pw,pl]|apply Aa|refine sp_ ?_ ?_<;>intro hc<;>push_cast at hc|omega|intro _));refine F8 (W_T ?_);have hFu:=hFu v1;rw[show Gm (S,R)=Gx S R from rfl];cases hfu:Gx S R with
 |true =>
  rw[hfu] at hFu;rw[Ae rfl,Ac (by decide)];(with_reducible repeat'(first|simp (disch:=omega) only[push_cast,↓zz,seval,ps,pr,pw,pl]|apply Aa|refine sp_ ?_ ?_<;>intro hc<;>push_cast at hc|omega|intro _))
  (refine Ch [2,3] (hFu) (by decide) (by simp) (by (simp(disch:=omega)only[push_cast,↓zz,seval,ps,pr,pw,pl])) (by (simp(disch:=omega)only[push_cast,↓zz,seval,ps,pr,pw,pl])) (by (simp(disch:=omega)only[push_cast,↓zz,seval,ps,pr,pw,pl])) (by (simp(disch:=omega)only[push_cast,↓zz,seval,Af,Aj,Ar,Aw,AL,As,ps,pr,pw,pl])) ?_)
  rintro y H' ⟨rfl,rfl⟩;refine⟨_,rfl,by simp,?_⟩;(with_reducible repeat'(first|simp (disch:=omega) only[push_cast,↓zz,seval,ps,pr,pw,pl]|apply Aa|refine sp_ ?_ ?_<;>intro hc<;>push_cast at hc|omega|intro _))
  all_goals first|((repeat'(first|(simp(disch:=omega)only[push_cast,↓zz,seval,DC])|omega|(with_reducible refine Aa ?_ ?_)));done)|trace_state
 |false =>
  rw[hfu] at hFu;rw[Ac (show ¬(false=true) by decide),Ae rfl];(with_reducible repeat'(first|simp (disch:=omega) only[push_cast,↓zz,seval,ps,pr,pw,pl]|apply Aa|refine sp_ ?_ ?_<;>intro hc<;>push_cast at hc|omega|intro _))
  (refine Ch [2,3] (hFu) (by decide) (by simp) (by (simp(disch:=omega)only[push_cast,↓zz,seval,ps,pr,pw,pl])) (by (simp(disch:=omega)only[push_cast,↓zz,seval,ps,pr,pw,pl])) (by (simp(disch:=omega)only[push_cast,↓zz,seval,ps,pr,pw,pl])) (by (simp(disch:=omega)only[push_cast,↓zz,seval,Af,Aj,Ar,Aw,AL,As,ps,pr,pw,pl])) ?_)
  rintro y H' ⟨rfl,rfl⟩;refine⟨_,rfl,by simp,?_⟩;(with_reducible repeat'(first|simp (disch:=omega) only[push_cast,↓zz,seval,ps,pr,pw,pl]|apply Aa|refine sp_ ?_ ?_<;>intro hc<;>push_cast at hc|omega|intro _));refine F8 (W_T ?_);(with_reducible repeat'(first|simp (disch:=omega) only[push_cast,↓zz,seval,ps,pr,pw,pl]|apply Aa|refine sp_ ?_ ?_<;>intro hc<;>push_cast at hc|omega|intro _));refine F8 (W_T ?_);(with_reducible repeat'(first|simp (disch:=omega) only[push_cast,↓zz,seval,ps,pr,pw,pl]|apply Aa|refine sp_ ?_ ?_<;>intro hc<;>push_cast at hc|omega|intro _));refine W_T ?_;(with_reducible repeat'(first|simp (disch:=omega) only[push_cast,↓zz,seval,ps,pr,pw,pl]|apply Aa|refine sp_ ?_ ?_<;>intro hc<;>push_cast at hc|omega|intro _))
  all_goals first|((repeat'(first|(simp(disch:=omega)only[push_cast,↓zz,seval,DC])|omega|(with_reducible refine Aa ?_ ?_)));done)|trace_state
theorem Mr(n:Rec)(hf:Ea n)(hc:cntN n<=10000):PC Tryz.prog 18 [recV n] (zaj n):=by
 refine zk9 (Rr n hf hc) ?_;unfold zgl zaj;by_cases h:IH n=0
 ·rw[Ae h,Ae h]
  refine AV.le_tup (Bl (AV.le_agg ?_) (Bl (AV.le_refl _) Ee));refine Bl (AV.le_refl _) (Bl (AV.le_refl _) (Bl (AV.le_refl _) (Bl (AV.le_refl _) (Bl (AV.le_refl _) (Bl (AV.le_lst rfl (Cn [_]) ?_) Ee)))));exact Bl (AV.le_agg (Bl (AV.le_refl _) (Bl (AV.le_nilS (by decide)) (Bl (AV.le_nilS (by decide)) Ee)))) Ee
 ·rw[Ac h,Ac h]
  exact AV.le_refl _
set_option maxRecDepth 100000
theorem Zb{c:Int}{gs:List (List Span)}(h4:gs.length<=4)(hc:E3 2 c=true):Ly (Fj c) 2 2 gs=true:=by
 have hb:=TN hc;refine za7 (x:=c) h4 ?_ hb hc;have hs:Gc c=true:=AO (by omega);simp only[H7,Dz,conT,hs,Pt,Gk,Jo];simp[Ym,Gc];rfl
theorem zak{s:List Span}{b:Int}(hb:¬(b < -1114111\/1114111<b))(hm:Er (Fl s b) (domL 2)=[]):Ly (cpyT b) 2 2 [s]=true:=by
 have hsm:Gc b=true:=AO (by omega);refine (Oh (by simp)).2 ⟨?_,λw hw=>?_⟩
 ·simp only[H7,Dz,cpyT,hsm,Pt,Gk]
  simp[Ym,Gc,Jo,E7,Ii];rfl
 ·obtain⟨x,r,rfl,h1,h2⟩:=win_cons.1 hw
  obtain rfl:=z2z.1 h2;have hx:=((K6 s).2 x).1 h1;have hr:E7 ⟨0,0,21,0⟩ 1=true:=by decide
  have hv:valP ⟨0,0,21,0⟩ x=x:=(NJ (p:=⟨0,0,21,0⟩) (by decide) (by omega)).2.2
  have hd:memL (domL 2) (x+b):=by
   have hmv:memL (Fl s b) (x+b):=(W7 (by omega)).2 ⟨⟨by rw[Int.add_sub_cancel];exact hx.2,by omega,by omega⟩,by omega,by omega⟩
   exact B3 λhn=>by
    have h3:=((Ls (Fl s b) (domL 2)).2 (x+b)).2 ⟨hmv,⟨by omega,by omega⟩,hn⟩;rw[hm] at h3;obtain⟨_,h4,_⟩:=h3;cases h4
  have hi:=Ra.1 hd;have hbd:=TN hi;have:=z2d (t:=cpyT b) (p:=⟨0,0,21,0⟩) (x:=x) rfl hr rfl hsm rfl hx.1;have ho:(cpyT b).outer=⟨0,0,21,0⟩:=rfl;have hs:(cpyT b).sum=b:=rfl;have hbs:(cpyT b).base=0:=rfl;have hv2:valP ⟨0,0,21,0⟩ (b+x)=b+x:=(NJ (p:=⟨0,0,21,0⟩) (by decide) (by omega)).2.2;rw[ho,hs,hbs,hv,hv2,Ae (by omega),Int.zero_add,Int.add_comm] at this;rw[fitW,this];simp only[Ab,Ai];exact⟨hbd,hi⟩
def TP(r:Rule):Prop:=G0 2 r.guards=true/\eatB r.guards.length r.eat=true/\(r.out.length<=64/\∀t∈r.out,Ly t 2 2 r.guards=true)
theorem HD(a c:Int):TP (CN a c [] []):=⟨rfl,rfl,A6 _,λt ht=>by cases ht⟩
theorem Vs(a c:Int){w:List Int}(hl:w.length<=64)(hw:∀x∈w,E3 2 x=true):TP (CN a c [] (w.map Fj)):=by
 refine⟨rfl,rfl,by show (w.map Fj).length<=64;rw[Bi];exact hl,λt ht=>?_⟩;have ht:t∈w.map Fj:=ht;obtain⟨x,hx,rfl⟩:=Au.1 ht;exact Zb (A6 _) (hw x hx)
theorem z4v{c:Int}(hc:E3 2 c=true):EN 2 [⟨c,c⟩]=true:=by
 have hb:=TN hc
 have hm:Er [⟨c,c⟩] (domL 2)=[]:=by
  refine (Of (λv hv=>?_) (λs hs=>?_)).2 λv hv=>?_
  ·obtain⟨s,hs,h1⟩:=hv
   simp only[An] at hs;subst hs;simp only at h1;omega
  ·simp only[An] at hs
   subst hs;exact BD _
  ·obtain⟨s,hs,h1⟩:=hv
   simp only[An] at hs;subst hs;simp only at h1;obtain rfl:v=c:=by omega
   exact Ra.2 hc
 have hk:Jp [⟨c,c⟩]=true:=by
  simp only[Jp,K8];simp<;>omega
 simp[EN,hm,hk]
theorem L4(a c:Int){s:List Span}(hs:EN 2 s=true){out:List Term}(hl:out.length<=64)(ho:∀t∈out,Ly t 2 2 [s]=true):TP ⟨a,c,[s],1,out⟩ :=
 ⟨by simp[G0,hs],rfl,hl,ho⟩
def Xv(n:Rec):Prop:=∀f S,∀r∈(mkP n f S).1,TP r
theorem Xw:∀(n:Nat)(w:List Int)(f S:Nat),(∀c∈w,E3 2 c=true)->∀r∈(wrP n w f S).1,TP r
 |0,w,f,S,hw,r,hr=>by cases hr
 |n+1,w,f,S,hw,r,hr=>by
  rw[wrP] at hr;split at hr
  ·cases hr
  ·rcases Af.1 hr with rfl|hr
   ·exact Vs _ _ (by rw[BJ];omega) λc hc=>hw c (B6 hc)
   ·exact Xw n (w.drop 64) S (S+1) (λc hc=>hw c (BB hc)) r hr
theorem Xx:∀(w:List Int)(f S:Nat),(∀c∈w,E3 2 c=true)->∀r∈(rdP w f S).1,TP r
 |[],f,S,hw,r,hr=>by cases hr
 |c::w,f,S,hw,r,hr=>by
  rcases Af.1 hr with rfl|hr
  ·rw[KO _ _ (by simp)]
   exact L4 _ _ (z4v (hw c (by simp))) (A6 _) λt ht=>by cases ht
  ·exact Xx w S (S+1) (λc hc=>hw c (by simp[hc])) r hr
theorem Oy:∀(l:List Rec),(∀n∈l,Xv n)->∀f S,∀r∈(catP l f S).1,TP r
 |[],_,f,S,r,hr=>by rw[catP] at hr;cases hr
 |n::l,h,f,S,r,hr=>by
  rw[catP] at hr;rcases Am.1 hr with hr|hr
  ·exact h n (by simp) _ _ r hr
  ·exact Oy l (λm hm=>h m (by simp[hm])) _ _ r hr
theorem TQ:∀(l:List Rec),(∀n∈l,Xv n)->∀f t S,∀r∈(altP l f t S).1,TP r
 |[],_,f,t,S,r,hr=>by rw[altP] at hr;cases hr
 |n::l,h,f,t,S,r,hr=>by
  rw[altP] at hr;simp only[Am,Af] at hr;rcases hr with (rfl|hr)|rfl|hr
  ·exact HD _ _
  ·exact h n (by simp) _ _ r hr
  ·exact HD _ _
  ·exact TQ l (λm hm=>h m (by simp[hm])) _ _ _ r hr
theorem Xy(n:Rec):∀d,okR n d=true->Xv n:=by
 refine Rec.ind (P:=λn=>∀d,okR n d=true->Xv n) ?_ n;intro k s b r w l ih d h f S q hq;rw[okR,Ab] at h;obtain⟨_,h⟩:=h;rw[mkP] at hq;by_cases h1:k=1
 ·subst h1
  simp only[Int.reduceEq,↓reduceIte,or_self,Ar,BV,BW,B7,Bp,BA,Ab,AQ,Bc,Ai] at h hq;have hs:=KN h.2.1;rw[KO _ _ hs,An] at hq;subst hq;refine L4 _ _ h.2.1 (by show 1<=64;omega) λt ht=>?_;rw[An] at ht;subst ht;exact zak h.1 h.2.2
 by_cases h2:k=2
 ·subst h2
  simp only[Int.reduceEq,↓reduceIte,or_self,Ar,BV,BW,B7,Bp,BA,Ab,AQ] at h hq;have hs:=KN h;rw[KO _ _ hs,An] at hq;subst hq;exact L4 _ _ h (A6 _) λt ht=>by cases ht
 by_cases h3:k=3
 ·subst h3
  simp only[Int.reduceEq,↓reduceIte,or_self,Ar,BV,BW,B7,Bp,BA,Ab,AQ] at h hq;rw[AR,AR] at h;rcases Am.1 hq with hq|hq
  ·exact Xw _ _ _ _ h.2 q hq
  ·exact Xx _ _ _ h.1 q hq
 by_cases h5:k=5
 ·subst h5
  simp only[Int.reduceEq,↓reduceIte,or_self,Ar,BV,BW,B7,Bp,BA,Ab,AQ] at h hq;exact TQ l (λn hn=>ih n hn _ (JP h n hn)) _ _ _ q hq
 by_cases h6:k=6
 ·subst h6
  simp only[Int.reduceEq,↓reduceIte,or_self,Ar,BV,BW,B7,Bp,BA,Ab,AQ] at h hq;rw[zgg] at hq;simp only[Am,Af,Aj,Ar] at hq;rcases hq with ((rfl|rfl)|hq)|rfl|rfl
  ·exact HD _ _
  ·exact HD _ _
  ·exact Oy l (λn hn=>ih n hn _ (JP h.1 n hn)) _ _ q hq
  ·exact HD _ _
  ·exact HD _ _
 by_cases h4:k=4
 ·subst h4
  simp only[Int.reduceEq,↓reduceIte,or_self,Ar,BV,BW,B7,Bp,BA,Ab,AQ] at h hq;exact Oy l (λn hn=>ih n hn _ (JP h n hn)) _ _ q hq
 ·rw[Ac h1,Ac h2,Ac h3,Ac (by omega),Ac h6] at h
  cases h
theorem L5{n:Rec}(h:IH n=0):okR n 0=true/\Gm (mkM n 0 (1,[])).1=false/\HC n=⟨2,2,(mkP n 0 1).2.1,0,(mkP n 0 1).1,[⟨(mkP n 0 1).2.2,[],[]⟩]⟩/\(mkP n 0 1).2.1<=1024/\(mkP n 0 1).1.length<=4096:=by
 have h1:okR n 0=true:=by
  cases e:okR n 0
  ·rw[IH,Ae e] at h;cases h
  ·rfl
 have h2:Gm (mkM n 0 (1,[])).1=false:=by
  cases e:Gm (mkM n 0 (1,[])).1
  ·rfl
  ·rw[IH,Ac (by rw[h1];simp),Ae e] at h;cases h
 have hl:=zgj n 0 (1,[]) h2;rw[isP] at hl;simp only[List.nil_append] at hl;have hD:HC n=⟨2,2,(mkP n 0 1).2.1,0,(mkP n 0 1).1,[⟨(mkP n 0 1).2.2,[],[]⟩]⟩:=by rw[HC,hl]
 rw[hl] at h2;simp only[Gm,Gx,Bool.or_eq_false_iff,Bc] at h2;exact⟨h1,by rw[hl];simp only[Gm,Gx,Bool.or_eq_false_iff,Bc];exact h2,hD,by omega,by omega⟩
theorem TR{n:Rec}(h:IH n=0)(x:List Int):Good x (semR x n) (G1 n) 0 1 (mkP n 0 1):=zgi n 0 (L5 h).1 0 1 (Nat.lt_succ_self 0)
theorem Qa{n:Rec}(h:IH n=0):Gw (HC n)=0:=by
 obtain⟨h1,_,hD,h3,h4⟩:=L5 h;have hg:=TR h [];have hm:=hg.mono;have hto:=hg.to_;rw[inP] at hto;have hR:=Xy n 0 h1 0 1;rw[hD];refine (UU ?_ (λr hr=>?_) (λg hf=>?_) ?_).2
 ·simp only[QV,Ik,Ab,Ai]
  refine⟨by decide,by decide,by omega,by omega,⟨by omega,by omega⟩,by omega,by simp⟩
 ·obtain⟨a,c,k1,k2,k3,k4,k5⟩:=hg.dom r hr
  obtain⟨p1,p2,p3,p4⟩:=hR r hr;rw[inP] at k3;simp only[K9,Ik,Ia,Ab,Ai,AR];exact⟨by omega,by omega,p1,p2,by omega,p4⟩
 ·simp only[An] at hf
  subst hf;simp only[Ha,Ik,Ia,Ab,Ai];exact⟨by omega,rfl,by decide,rfl⟩
 ·rintro⟨C,hC,j,hj⟩
  have h0:¬C (0:Nat):=λh=>by
   obtain⟨_,r,hr,he,ht,_⟩:=hC _ h;obtain⟨a,c,k1,k2,k3,k4,k5⟩:=hg.dom r hr;omega
  obtain⟨hb,_⟩:=hC j hj;have hc:=(hg.cyc _ _ C hC λr hr c _ _ _=>hr).1;simp only[Int.toNat_natCast] at hb;rcases Nat.eq_zero_or_pos j.toNat with e|e
  ·exact h0 (by rw[show ((0:Nat):Int)=j by omega];exact hj)
  ·refine h0 (hc j.toNat e (by omega) ?_)
   rw[BK hb.1];exact hj
theorem Xz{n:Rec}(h:IH n=0):Lz (HC n):=by
 obtain⟨h1,_,hD,h3,h4⟩:=L5 h;have hR:=Xy n 0 h1 0 1;rw[hD];refine⟨λr hr t ht=>?_,λf hf t ht=>?_⟩
 ·obtain⟨p1,p2,p3,p4⟩:=hR r hr
  have hb:r.guards.length<=4:=by simp only[G0,Ab,Ai] at p1;omega
  have:=((Oh hb).1 (p4 t ht)).1;simp only[H7,Dz,Ab,Ai] at this;omega
 ·simp only[An] at hf
  subst hf;cases ht
theorem zal{n:Rec}(h:IH n=0)(x w:List Int):RelW (HC n) x 0 (HC n).start w↔semR x n 0 x.length w:=by
 obtain⟨h1,_,hD,h3,h4⟩:=L5 h;have hg:=TR h x;rw[hD]
 have hH:Host ⟨2,2,(mkP n 0 1).2.1,0,(mkP n 0 1).1,[⟨(mkP n 0 1).2.2,[],[]⟩]⟩ 0 1 (mkP n 0 1):=by
  refine⟨λr hr=>hr,λr hr a _ _ _=>hr,λg hf a hga _=>?_⟩;simp only[An] at hf;subst hf;simp only at hga;omega
 have hend:∀e v,e<=x.length->(RelW ⟨2,2,(mkP n 0 1).2.1,0,(mkP n 0 1).1,[⟨(mkP n 0 1).2.2,[],[]⟩]⟩ x e ((mkP n 0 1).2.2:Nat) v↔e=x.length/\v=[]):=by
  intro e v he;rw[Ic];constructor
  ·rintro (⟨f,hf,k1,⟨k2,k3⟩,k4⟩|⟨r,hr,k1,k2,v',k3,rfl⟩)
   ·simp only[An] at hf
    subst hf;exact⟨by simpa using k2,k4⟩
   ·obtain⟨a,c,p1,p2,p3,p4,p5⟩:=hg.dom r hr
    exfalso;omega
  ·rintro⟨rfl,rfl⟩
   exact .inl ⟨⟨(mkP n 0 1).2.2,[],[]⟩,by simp,rfl,⟨by simp,by simp[goB]⟩,rfl⟩
 refine Iff.trans (hg.rel _ hH 0 w (A6 _)) ?_;constructor
 ·rintro⟨e,u,v,k1,k2,rfl⟩
  obtain⟨rfl,rfl⟩:=(hend e v (hg.semd _ _ _ k1 (A6 _)).2.1).1 k2;rw[AB];exact k1
 ·intro k1
  exact⟨_,w,[],k1,(hend _ _ (Ad _)).2 ⟨rfl,rfl⟩,(AB _).symm⟩
set_option maxRecDepth 100000
abbrev exP:Rec:=.mk 3 [] 0 [97] [98,98] []
abbrev exN:Rec:=.mk 6 [] 0 [] [] [exP]
abbrev exM:Rec:=.mk 6 [] 0 [] [] [exN]
theorem Oz:IH exN=0:=by decide +kernel
theorem zam:G1 exN=true:=by decide +kernel
theorem zkp:okR exM 0=false:=by decide +kernel
theorem O0{a e:Nat}{u:List Int}:semC [97,97] [exP] a e u↔a<2/\e=a+1/\u=[98,98]:=by
 have hs:semC [97,97] [exP]=seqS (seqS (wrS [98,98]) (seqS (symS [97,97] 97) idS)) idS:=by
  simp only[semC,semR,rdS,Int.reduceEq,↓reduceIte]
 rw[hs];constructor
 ·rintro⟨e1,u1,u2,⟨e2,v1,v2,⟨rfl,rfl⟩,⟨e3,w1,w2,⟨h1,h2,rfl,rfl⟩,⟨rfl,rfl⟩,rfl⟩,rfl⟩,⟨rfl,rfl⟩,rfl⟩
  exact⟨h1,rfl,rfl⟩
 ·rintro⟨h1,rfl,rfl⟩
  refine⟨_,_,[],⟨_,_,[],⟨rfl,rfl⟩,⟨_,[],[],⟨h1,?_,rfl,rfl⟩,⟨rfl,rfl⟩,rfl⟩,rfl⟩,⟨rfl,rfl⟩,rfl⟩;rcases (show a=0\/a=1 by omega) with rfl|rfl<;>rfl
theorem zgm{w:List Int}:semR [97,97] exN 0 2 w↔w=[98,98,98,98]:=by
 have hs:semR [97,97] exN=Star (semC [97,97] [exP]):=by
  conv=>lhs;rw[semR]
  simp only[Int.reduceEq,↓reduceIte]
 rw[hs]
 have h2:∀{a v},a=2->(Star (semC [97,97] [exP]) a 2 v↔v=[]):=by
  intro a v ha;constructor
  ·intro h
   cases h with
   |nil=>rfl
   |cons h1 h2=>have:=(O0.1 h1).1;omega
  ·rintro rfl;subst ha;exact .nil _
 have h1:∀{a v},a=1->(Star (semC [97,97] [exP]) a 2 v↔v=[98,98]):=by
  intro a v ha;constructor
  ·intro h
   cases h with
   |nil=>omega
   |cons k1 k2 =>
    obtain⟨_,rfl,rfl⟩:=O0.1 k1;rw[(h2 (by omega)).1 k2];rfl
  ·rintro rfl;subst ha;exact .cons (O0.2 ⟨by omega,rfl,rfl⟩) ((h2 rfl).2 rfl)
 constructor
 ·intro h
  cases h with
  |cons k1 k2 =>
   obtain⟨_,rfl,rfl⟩:=O0.1 k1;rw[(h1 (by omega)).1 k2];rfl
 ·rintro rfl
  exact .cons (O0.2 ⟨by omega,rfl,rfl⟩) ((h1 rfl).2 rfl)
theorem zgn:askV (HC exN) [97,97]=0:=Xp.2 ⟨Qa Oz,by decide,by rw[(L5 Oz).2.2.1];decide⟩
theorem zgo:outW (HC exN) [97,97] 0 (HC exN).start=[[98,98,98,98]]:=by
 refine z3b ⟨by simp[Oj],λw=>?_⟩;rw[zal Oz,show ([97,97]:List Int).length=2 from rfl,zgm,An]
abbrev exNV:AV:=.agg [.int .i64 6,.nilS,.int .i64 0,.nilS,.nilS,.lst 6 [.agg [.int .i64 3,.nilS,.int .i64 0,.lst 1 [.int .i32 97],.lst 1 [.int .i32 98,.int .i32 98],.nilS]]]
theorem Vt:AV.le exNV (recV exN):=by
 rw[Ck];refine AV.le_agg (Bl (AV.le_refl _) (Bl (AV.le_nilS (by decide)) (Bl (AV.le_refl _) (Bl (AV.le_nilS (by decide)) (Bl (AV.le_nilS (by decide)) (Bl (AV.le_lst rfl (BN _) ?_) Ee))))));refine Bl ?_ Ee;rw[Ck];exact AV.le_agg (Bl (AV.le_refl _) (Bl (AV.le_nilS (by decide)) (Bl (AV.le_refl _) (Bl (AV.le_refl _) (Bl (AV.le_refl _) (Bl (AV.le_nilS (by decide)) Ee))))))
abbrev exMV:AV:=.agg [.int .i64 6,.nilS,.int .i64 0,.nilS,.nilS,.lst 6 [exNV]]
theorem zgp:AV.le exMV (recV exM):=by
 rw[Ck];refine AV.le_agg (Bl (AV.le_refl _) (Bl (AV.le_nilS (by decide)) (Bl (AV.le_refl _) (Bl (AV.le_nilS (by decide)) (Bl (AV.le_nilS (by decide)) (Bl (AV.le_lst rfl (BN _) (Bl Vt Ee)) Ee))))))
theorem z4w:Ea exM:=by
 refine TH exM ?_ (by decide +kernel);refine .mk (by simp[i64s];decide) ⟨by decide,λx hx=>by cases hx⟩ ⟨by decide,λx hx=>by cases hx⟩ ⟨by decide,λx hx=>by cases hx⟩ (by decide) λn hn=>?_;rw[An] at hn;subst hn;refine .mk (by simp[i64s];decide) ⟨by decide,λx hx=>by cases hx⟩ ⟨by decide,λx hx=>by cases hx⟩ ⟨by decide,λx hx=>by cases hx⟩ (by decide) λn hn=>?_;rw[An] at hn;subst hn;exact .mk (by simp[i64s];decide) ⟨by decide,λx hx=>by cases hx⟩ ⟨by decide,by decide⟩ ⟨by decide,by decide⟩ (by decide) λn hn=>by cases hn
theorem z4x:Ea exN:=by
 cases z4w with
 |mk hs hr hw hl hch=>exact hch exN (by simp)
theorem O4:PC Tryz.prog 17 [] (.bool true):=by
 have hC:=Iw (Mr exN z4x (by decide +kernel)) (Bl Vt Ee);unfold zaj at hC;rw[Ae Oz,Oz] at hC;have hO:=TE (HC exN) [97,97] (Xz Oz) (by decide) (by decide) 2 (by decide) λ_=>AZ (Nat.min_le_left _ _) (by decide);unfold runA outA at hO;rw[Ac (by simp[zgn]),Ac (by decide),zgo,Ae (by decide)] at hO;have hR:=Iw (L3 exM z4w) (Bl zgp Ee);have hN:=Iw (TF exN z4x) (Bl Vt Ee);rw[zkp] at hR;rw[(L5 Oz).1,zam] at hN;have pR:=Ca (HC exN).rules;have pF:=Cn (HC exN).finals;generalize HC exN=D at *;have hrs:Jv [98,98,98,98]=[98,98,98,98]:=by decide +kernel
 refine z8w Q3 ?_;unfold Ki;refine F8 (W_T ?_);(with_reducible repeat'(first|simp (disch:=omega) only[push_cast,↓zz,seval]|apply Aa|refine sp_ ?_ ?_<;>intro hc<;>push_cast at hc|omega|intro _));refine F8 (W_T ?_);(with_reducible repeat'(first|simp (disch:=omega) only[push_cast,↓zz,seval]|apply Aa|refine sp_ ?_ ?_<;>intro hc<;>push_cast at hc|omega|intro _));refine Mt (Yt (l':=[⟨0,2,false,[]⟩,⟨0,2,false,[]⟩,⟨0,2,false,[]⟩,⟨6,1,true,[exNV]⟩]) (g:=3) (d:=8) [0,1,2] (by decide) (by simp) rfl (by decide) ?_ ?_) (F8 (W_T ?_))
 ·(simp(disch:=omega)only[push_cast,↓zz,seval])
 ·rfl
 (with_reducible repeat'(first|simp (disch:=omega) only[push_cast,↓zz,seval,pR,pF]|apply Aa|refine sp_ ?_ ?_<;>intro hc<;>push_cast at hc|refine ee hC ?_|(refine cc hC ?_;(simp(disch:=omega)only[push_cast,↓zz,seval,pR,pF]);(fail_if_success change False))|omega|intro _));refine F8 (W_T ?_);(with_reducible repeat'(first|simp (disch:=omega) only[push_cast,↓zz,seval,pR,pF]|apply Aa|refine sp_ ?_ ?_<;>intro hc<;>push_cast at hc|refine ee hO ?_|(refine cc hO ?_;(simp(disch:=omega)only[push_cast,↓zz,seval,pR,pF]);(fail_if_success change False))|omega|intro _));refine W_T ?_;(with_reducible repeat'(first|simp (disch:=omega) only[push_cast,↓zz,seval,pR,pF,hrs]|apply Aa|refine sp_ ?_ ?_<;>intro hc<;>push_cast at hc|refine ee hR ?_|refine ee hN ?_|((first|refine cc hR ?_|refine cc hN ?_);(simp(disch:=omega)only[push_cast,↓zz,seval,pR,pF,hrs]);(fail_if_success change False))|omega|intro _))
 all_goals
  refine⟨[98,98,98,98],rfl,?_⟩;(with_reducible repeat'(first|simp (disch:=omega) only[push_cast,↓zz,seval,pR,pF,hrs]|apply Aa|refine sp_ ?_ ?_<;>intro hc<;>push_cast at hc|refine ee hR ?_|refine ee hN ?_|((first|refine cc hR ?_|refine cc hN ?_);(simp(disch:=omega)only[push_cast,↓zz,seval,pR,pF,hrs]);(fail_if_success change False))|omega|intro _))
 all_goals trace_state
set_option maxRecDepth 100000
theorem OF(n:Rec)(hok:Lm n):PC Tryz.prog 8 [recV n] (.bool true):=by
 have hS:=TK n hok;have hA:=O4;have hf:=Mq (n:=n) hok;have h1:=λh=>L3 n (hf h);have h2:=λh=>TG n (hf h) 0 (by decide) (by decide);have h3:=λh=>z4f n (hf h);have h4:=λh=>zab n (hf h);have h5:=λh=>TF n (hf h);have h6:=λh=>zaa n (hf h);obtain⟨k,s,b,r,w,l,he⟩:∃k s b r w l,n=.mk k s b r w l:=by cases n;exact⟨_,_,_,_,_,_,rfl⟩
 generalize (okR n 0&&G1 n)=q2 at *;generalize okR n 0=q1 at *;generalize If n=z at *;generalize PX n=c at *;rw[he,Ck] at *;have b1:(q1 == q1)=true:=beq_self_eq_true _;have b2:(q2 == q2)=true:=beq_self_eq_true _;have ps:=AX s;have pr:AD (r.map (AV.int .i32))=true:=AG .i32 _;have pw:AD (w.map (AV.int .i32))=true:=AG .i32 _;have pl:=BN l;refine z8w Kg ?_;unfold GU;refine F8 (W_T ?_);(with_reducible repeat'(first|simp (disch:=omega) only[push_cast,↓zz,seval,ps,pr,pw,pl]|apply Aa|refine sp_ ?_ ?_<;>intro hc<;>push_cast at hc|omega|intro _));refine F8 (W_T ?_);cases c with
 |false =>
  (with_reducible repeat'(first|simp (disch:=omega) only[push_cast,↓zz,seval,ps,pr,pw,pl]|apply Aa|refine sp_ ?_ ?_<;>intro hc<;>push_cast at hc|refine ee hS ?_|refine ee hA ?_|((first|refine cc hS ?_|refine cc hA ?_);(simp(disch:=omega)only[push_cast,↓zz,seval,ps,pr,pw,pl]);(fail_if_success change False))|omega|intro _))
  all_goals first|((repeat'(first|(simp(disch:=omega)only[push_cast,↓zz,seval,DC])|omega|(with_reducible refine Aa ?_ ?_)));done)|trace_state
 |true =>
  have h1:=h1 rfl;have h2:=h2 rfl;have h3:=h3 rfl;have h4:=h4 rfl;have h5:=h5 rfl;have h6:=h6 rfl;(with_reducible repeat'(first|simp (disch:=omega) only[push_cast,↓zz,seval,ps,pr,pw,pl]|apply Aa|refine sp_ ?_ ?_<;>intro hc<;>push_cast at hc|refine ee hS ?_|refine ee hA ?_|((first|refine cc hS ?_|refine cc hA ?_);(simp(disch:=omega)only[push_cast,↓zz,seval,ps,pr,pw,pl]);(fail_if_success change False))|omega|intro _));refine F8 (W_T ?_);(with_reducible repeat'(first|simp (disch:=omega) only[push_cast,↓zz,seval,ps,pr,pw,pl,b1,b2]|apply Aa|refine sp_ ?_ ?_<;>intro hc<;>push_cast at hc|refine ee hA ?_|refine ee h1 ?_|refine ee h2 ?_|refine ee h3 ?_|refine ee h4 ?_|refine ee h5 ?_|refine ee h6 ?_|((first|refine cc hA ?_|refine cc h1 ?_|refine cc h2 ?_|refine cc h3 ?_|refine cc h4 ?_|refine cc h5 ?_|refine cc h6 ?_);(simp(disch:=omega)only[push_cast,↓zz,seval,ps,pr,pw,pl,b1,b2]);(fail_if_success change False))|omega|intro _))
  all_goals
   refine W_T ?_;(with_reducible repeat'(first|simp (disch:=omega) only[push_cast,↓zz,seval]|apply Aa|refine sp_ ?_ ?_<;>intro hc<;>push_cast at hc|omega|intro _))
theorem OG(n:Rec)(hok:Lm n):PC Tryz.prog 4 [recV n] (.bool true):=by
 have hS:=TK n hok;have hA:=O4;have hC:=λh=>Mr n (Mq (n:=n) hok h) (by have:=TJ h;omega)
 have hK:IH n=0->PC Tryz.prog 25 [E8 (HC n)] (.int .i64 0):=λh=>by
  have:=PF (HC n) (Xz h)
  rwa [Qa h] at this
 have e2:IH n=0->(HC n).in_=2/\(HC n).out=2:=λh=>⟨rfl,rfl⟩;obtain⟨k,s,b,r,w,l,he⟩:∃k s b r w l,n=.mk k s b r w l:=by cases n;exact⟨_,_,_,_,_,_,rfl⟩
 unfold zaj at hC;generalize IH n=e at *;generalize HC n=D at *;generalize PX n=c at *;rw[he,Ck] at *;have ps:=AX s;have pr:AD (r.map (AV.int .i32))=true:=AG .i32 _;have pw:AD (w.map (AV.int .i32))=true:=AG .i32 _;have pl:=BN l;have pR:=Ca D.rules;have pF:=Cn D.finals;refine z8w Kf ?_;unfold GT;refine F8 (W_T ?_);(with_reducible repeat'(first|simp (disch:=omega) only[push_cast,↓zz,seval,ps,pr,pw,pl]|apply Aa|refine sp_ ?_ ?_<;>intro hc<;>push_cast at hc|omega|intro _));refine F8 (W_T ?_);cases c with
 |false =>
  (with_reducible repeat'(first|simp (disch:=omega) only[push_cast,↓zz,seval,ps,pr,pw,pl]|apply Aa|refine sp_ ?_ ?_<;>intro hc<;>push_cast at hc|refine ee hS ?_|refine ee hA ?_|((first|refine cc hS ?_|refine cc hA ?_);(simp(disch:=omega)only[push_cast,↓zz,seval,ps,pr,pw,pl]);(fail_if_success change False))|omega|intro _))
  all_goals first|((repeat'(first|(simp(disch:=omega)only[push_cast,↓zz,seval,DC])|omega|(with_reducible refine Aa ?_ ?_)));done)|trace_state
 |true =>
  have hC:=hC rfl;(with_reducible repeat'(first|simp (disch:=omega) only[push_cast,↓zz,seval,ps,pr,pw,pl]|apply Aa|refine sp_ ?_ ?_<;>intro hc<;>push_cast at hc|refine ee hS ?_|refine ee hA ?_|((first|refine cc hS ?_|refine cc hA ?_);(simp(disch:=omega)only[push_cast,↓zz,seval,ps,pr,pw,pl]);(fail_if_success change False))|omega|intro _));refine F8 (W_T ?_);by_cases h0:e=0
  ·subst h0
   obtain⟨d1,d2⟩:=e2 rfl;have hK:=hK rfl;rw[Ae rfl] at hC;obtain⟨i,o,st,s0,R,F⟩:=D;simp only at d1 d2;subst d1 d2;(with_reducible repeat'(first|simp (disch:=omega) only[push_cast,↓zz,seval,ps,pr,pw,pl,pR,pF]|apply Aa|refine sp_ ?_ ?_<;>intro hc<;>push_cast at hc|refine ee hC ?_|(refine cc hC ?_;(simp(disch:=omega)only[push_cast,↓zz,seval,ps,pr,pw,pl,pR,pF]);(fail_if_success change False))|omega|intro _));refine W_T ?_;(with_reducible repeat'(first|simp (disch:=omega) only[push_cast,↓zz,seval,ps,pr,pw,pl,pR,pF]|apply Aa|refine sp_ ?_ ?_<;>intro hc<;>push_cast at hc|refine ee hK ?_|refine ee hA ?_|((first|refine cc hK ?_|refine cc hA ?_);(simp(disch:=omega)only[push_cast,↓zz,seval,ps,pr,pw,pl,pR,pF]);(fail_if_success change False))|omega|intro _))
   all_goals first|((repeat'(first|(simp(disch:=omega)only[push_cast,↓zz,seval,DC])|omega|(with_reducible refine Aa ?_ ?_)));done)|trace_state
  ·rw[Ac h0] at hC
   (with_reducible repeat'(first|simp (disch:=omega) only[push_cast,↓zz,seval,ps,pr,pw,pl,pR,pF]|apply Aa|refine sp_ ?_ ?_<;>intro hc<;>push_cast at hc|refine ee hC ?_|(refine cc hC ?_;(simp(disch:=omega)only[push_cast,↓zz,seval,ps,pr,pw,pl,pR,pF]);(fail_if_success change False))|omega|intro _));refine W_T ?_;(with_reducible repeat'(first|simp (disch:=omega) only[push_cast,↓zz,seval,ps,pr,pw,pl,pR,pF,h0]|apply Aa|refine sp_ ?_ ?_<;>intro hc<;>push_cast at hc|refine ee hA ?_|(refine cc hA ?_;(simp(disch:=omega)only[push_cast,↓zz,seval,ps,pr,pw,pl,pR,pF,h0]);(fail_if_success change False))|omega|intro _))
   all_goals first|((repeat'(first|(simp(disch:=omega)only[push_cast,↓zz,seval,DC])|omega|(with_reducible refine Aa ?_ ?_)));done)|trace_state
end Go.Proofs.YtflibbceibjddaaGreat
