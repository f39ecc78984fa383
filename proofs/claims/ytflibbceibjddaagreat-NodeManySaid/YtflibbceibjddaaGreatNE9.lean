/-
  Parts of the proof that the law holds whatever the input; without conditions.
-/
import Derived.Test.YtflibbceibjddaaGreatNE8
import Derived.Test.YtflibbceibjddaaGreatNE6
set_option linter.unusedSimpArgs false
set_option linter.unusedVariables false
set_option linter.unusedSectionVars false
set_option maxRecDepth 100000
namespace Go.Proofs.YtflibbceibjddaaGreat
open Abs O1 O2 O3
theorem z64(n:Rec)(f S:Nat)(R:List Rule)(v:Nat)(hfu:GD S R=true):
 B6 Tryz.prog 47 [.ptr 0 1 0 0,recV n,.int .i64 f] (Abs.hl (mkH S R v)) λy H'=>y=.int .i64 f/\∃v',H'=Abs.hl (mkH S R v'):=by
 obtain⟨k,s,b,r,w,l⟩:=n;have ps:=Be s;have pr:AF (r.map (AV.int .i32))=true:=AB .i32 _;have pw:AF (w.map (AV.int .i32))=true:=AB .i32 _;have pl:=BO l;have hFu:=Fl S R v;rw[hfu] at hFu;rw[Ck];refine DT (GI Dq (W_T ?_));unfold CP;unfold mkH at hFu ⊢;(with_reducible repeat'(first|simp (disch:=omega) only[push_cast,↓zz,seval,ps,pr,pw,pl]|apply Aa|refine sp_ ?_ ?_<;>intro hc<;>push_cast at hc|omega|intro _))
 (refine Cj [0,1] (hFu) (by decide) (by simp) (by (simp(disch:=omega)only[push_cast,↓zz,seval,ps,pr,pw,pl])) (by (simp(disch:=omega)only[push_cast,↓zz,seval,ps,pr,pw,pl])) (by (simp(disch:=omega)only[push_cast,↓zz,seval,ps,pr,pw,pl])) (by (simp(disch:=omega)only[push_cast,↓zz,seval,Af,Aj,Ar,Ax,AO,Au,ps,pr,pw,pl])) ?_)
 rintro y H' ⟨rfl,rfl⟩;refine⟨_,rfl,by simp,?_⟩;(with_reducible repeat'(first|simp (disch:=omega) only[push_cast,↓zz,seval,ps,pr,pw,pl]|apply Aa|refine sp_ ?_ ?_<;>intro hc<;>push_cast at hc|omega|intro _));exact⟨_,_,Hs (l0:=mkH S R v) (gar:=[_]) rfl (Ad _) HX trivial,rfl,v,rfl⟩
theorem z65(s:List Span)(b:Int)(r w:List Int)(l:List Rec)(f S:Nat)(R:List Rule)(v:Nat)(hf:E0 (.mk 1 s b r w l))(hfu:GD S R=false)(hS:S+8 * cntN (.mk 1 s b r w l)<=300000)(hR:R.length+8 * cntN (.mk 1 s b r w l)<=300000):
 B6 Tryz.prog 47 [.ptr 0 1 0 0,recV (.mk 1 s b r w l),.int .i64 f] (Abs.hl (mkH S R v)) λy H'=>y=.int .i64 ((mkM (.mk 1 s b r w l) f (S,R)).2:Nat)/\∃v',H'=Abs.hl (mkH (mkM (.mk 1 s b r w l) f (S,R)).1.1 (mkM (.mk 1 s b r w l) f (S,R)).1.2 v'):=by
 cases hf with
 |mk hs hr hw hl hch =>
 rw[cntN] at hS hR;have ps:=Be s;have pr:AF (r.map (AV.int .i32))=true:=AB .i32 _;have pw:AF (w.map (AV.int .i32))=true:=AB .i32 _;have pl:=BO l
 have e0:mkM (.mk 1 s b r w l) f (S,R)=(addR (newS (S,R)) f S s [cpyT b],S):=by
  rw[mkM,Ac (by rw[show G0 (S,R)=GD S R from rfl,hfu];simp),Ae rfl]
 have hRu:=J3 (S+1) R v f S s [cpyT b] hs (by omega);have hCp:=z2t 0 b;have hcv:Ha (cpyT b)=.agg [.int .i64 0,.int .i64 0,.int .i64 21,.int .i64 0,.int .i64 b,.lst 4 [FU ⟨0,0,21,0⟩]]:=rfl;have hFu:=Fl S R v;rw[hfu] at hFu;have hSt:=E9 S R v (by omega);rw[Ck,e0];clear e0;refine DT (GI Dq (W_T ?_));unfold CP;unfold addR newS;simp only;unfold mkH at hFu hSt hRu ⊢;(with_reducible repeat'(first|simp (disch:=omega) only[push_cast,↓zz,seval,ps,pr,pw,pl]|apply Aa|refine sp_ ?_ ?_<;>intro hc<;>push_cast at hc|omega|intro _))
 (refine Cj [0,1] (hFu) (by decide) (by simp) (by (simp(disch:=omega)only[push_cast,↓zz,seval,ps,pr,pw,pl])) (by (simp(disch:=omega)only[push_cast,↓zz,seval,ps,pr,pw,pl])) (by (simp(disch:=omega)only[push_cast,↓zz,seval,ps,pr,pw,pl])) (by (simp(disch:=omega)only[push_cast,↓zz,seval,Af,Aj,Ar,Ax,AO,Au,ps,pr,pw,pl])) ?_)
 rintro y H' ⟨rfl,rfl⟩;refine⟨_,rfl,by simp,?_⟩;(with_reducible repeat'(first|simp (disch:=omega) only[push_cast,↓zz,seval,ps,pr,pw,pl]|apply Aa|refine sp_ ?_ ?_<;>intro hc<;>push_cast at hc|omega|intro _))
 (refine Cj [0,1] (hSt) (by decide) (by simp) (by (simp(disch:=omega)only[push_cast,↓zz,seval,ps,pr,pw,pl])) (by (simp(disch:=omega)only[push_cast,↓zz,seval,ps,pr,pw,pl])) (by (simp(disch:=omega)only[push_cast,↓zz,seval,ps,pr,pw,pl])) (by (simp(disch:=omega)only[push_cast,↓zz,seval,Af,Aj,Ar,Ax,AO,Au,ps,pr,pw,pl])) ?_)
 rintro y H' ⟨rfl,rfl⟩;refine⟨_,rfl,by simp,?_⟩;(with_reducible repeat'(first|simp (disch:=omega) only[push_cast,↓zz,seval,ps,pr,pw,pl]|apply Aa|refine sp_ ?_ ?_<;>intro hc<;>push_cast at hc|refine ee hCp ?_|(refine cc hCp ?_;(simp(disch:=omega)only[push_cast,↓zz,seval,ps,pr,pw,pl]);(fail_if_success change False))|omega|intro _));refine U2 (l':=[⟨6,1,true,[.agg [.int .i64 2,.int .i64 2,.int .i64 ((S:Int)+1),.int .i64 0,.ref 1 v 0 R.length,.nilS]]⟩,⟨5,v,false,R.map HD⟩,⟨6,1,true,[.agg [.int .i64 1,Bc s,.int .i64 b,AD r,AD w,.lst 6 (l.map recV)]]⟩,⟨0,2,false,[]⟩]) 4 3 6 1 1 (by decide) (by simp) rfl (by simp[AF,AV.pure]) rfl rfl rfl ?_
 (refine Cj [0,1] (hRu) (by decide) (by simp) (by (simp(disch:=omega)only[push_cast,↓zz,seval,ps,pr,pw,pl,List.set_cons_succ,List.set_cons_zero,cpyT])) (by (simp(disch:=omega)only[push_cast,↓zz,seval,ps,pr,pw,pl,List.set_cons_succ,List.set_cons_zero,cpyT])) (by (simp(disch:=omega)only[push_cast,↓zz,seval,ps,pr,pw,pl,List.set_cons_succ,List.set_cons_zero,cpyT])) (by (simp(disch:=omega)only[push_cast,↓zz,seval,Af,Aj,Ar,Ax,AO,Au,ps,pr,pw,pl,List.set_cons_succ,List.set_cons_zero,cpyT])) ?_)
 rintro y H' ⟨rfl,v1,rfl⟩;refine⟨_,rfl,by simp,?_⟩;(with_reducible repeat'(first|simp (disch:=omega) only[push_cast,↓zz,seval,ps,pr,pw,pl,List.set_cons_succ,List.set_cons_zero,cpyT]|apply Aa|refine sp_ ?_ ?_<;>intro hc<;>push_cast at hc|omega|intro _));have hfin:mkH (S+1) (R++[CU f S s [cpyT b]]) v1=[⟨6,1,true,[.agg [.int .i64 2,.int .i64 2,.int .i64 ((S:Int)+1),.int .i64 0,.ref 1 v1 0 (R.length+1),.nilS]]⟩,⟨5,v1,false,R.map HD++[HD (CU f S s [cpyT b])]⟩]:=by simp[mkH]
 exact⟨_,_,Hs (l0:=mkH (S+1) (R++[CU f S s [cpyT b]]) v1) (gar:=[⟨6,1,true,[.agg [.int .i64 1,Bc s,.int .i64 b,AD r,AD w,.lst 6 (l.map recV)]]⟩,⟨0,2,false,[]⟩]) (by rw[hfin];rfl) (Ad _) HX trivial,rfl,v1,by rw[hfin]<;>rfl⟩
theorem z67(s:List Span)(b:Int)(r w:List Int)(l:List Rec)(f S:Nat)(R:List Rule)(v:Nat)(hf:E0 (.mk 2 s b r w l))(hfu:GD S R=false)(hS:S+8 * cntN (.mk 2 s b r w l)<=300000)(hR:R.length+8 * cntN (.mk 2 s b r w l)<=300000):
 B6 Tryz.prog 47 [.ptr 0 1 0 0,recV (.mk 2 s b r w l),.int .i64 f] (Abs.hl (mkH S R v)) λy H'=>y=.int .i64 ((mkM (.mk 2 s b r w l) f (S,R)).2:Nat)/\∃v',H'=Abs.hl (mkH (mkM (.mk 2 s b r w l) f (S,R)).1.1 (mkM (.mk 2 s b r w l) f (S,R)).1.2 v'):=by
 cases hf with
 |mk hs hr hw hl hch =>
 rw[cntN] at hS hR;have ps:=Be s;have pr:AF (r.map (AV.int .i32))=true:=AB .i32 _;have pw:AF (w.map (AV.int .i32))=true:=AB .i32 _;have pl:=BO l
 have e0:mkM (.mk 2 s b r w l) f (S,R)=(addR (newS (S,R)) f S s [],S):=by
  rw[mkM,Ac (by rw[show G0 (S,R)=GD S R from rfl,hfu];simp),Ac (show ¬(2:Int)=1 by decide),Ae rfl]
 have hRu:=OT (S+1) R v f S s hs (by omega);have hFu:=Fl S R v;rw[hfu] at hFu;have hSt:=E9 S R v (by omega);rw[Ck,e0];clear e0;refine DT (GI Dq (W_T ?_));unfold CP;unfold addR newS;simp only;unfold mkH at hFu hSt hRu ⊢;(with_reducible repeat'(first|simp (disch:=omega) only[push_cast,↓zz,seval,ps,pr,pw,pl]|apply Aa|refine sp_ ?_ ?_<;>intro hc<;>push_cast at hc|omega|intro _))
 (refine Cj [0,1] (hFu) (by decide) (by simp) (by (simp(disch:=omega)only[push_cast,↓zz,seval,ps,pr,pw,pl])) (by (simp(disch:=omega)only[push_cast,↓zz,seval,ps,pr,pw,pl])) (by (simp(disch:=omega)only[push_cast,↓zz,seval,ps,pr,pw,pl])) (by (simp(disch:=omega)only[push_cast,↓zz,seval,Af,Aj,Ar,Ax,AO,Au,ps,pr,pw,pl])) ?_)
 rintro y H' ⟨rfl,rfl⟩;refine⟨_,rfl,by simp,?_⟩;(with_reducible repeat'(first|simp (disch:=omega) only[push_cast,↓zz,seval,ps,pr,pw,pl]|apply Aa|refine sp_ ?_ ?_<;>intro hc<;>push_cast at hc|omega|intro _))
 (refine Cj [0,1] (hSt) (by decide) (by simp) (by (simp(disch:=omega)only[push_cast,↓zz,seval,ps,pr,pw,pl])) (by (simp(disch:=omega)only[push_cast,↓zz,seval,ps,pr,pw,pl])) (by (simp(disch:=omega)only[push_cast,↓zz,seval,ps,pr,pw,pl])) (by (simp(disch:=omega)only[push_cast,↓zz,seval,Af,Aj,Ar,Ax,AO,Au,ps,pr,pw,pl])) ?_)
 rintro y H' ⟨rfl,rfl⟩;refine⟨_,rfl,by simp,?_⟩;(with_reducible repeat'(first|simp (disch:=omega) only[push_cast,↓zz,seval,ps,pr,pw,pl]|apply Aa|refine sp_ ?_ ?_<;>intro hc<;>push_cast at hc|omega|intro _))
 (refine Cj [0,1] (hRu) (by decide) (by simp) (by (simp(disch:=omega)only[push_cast,↓zz,seval,ps,pr,pw,pl])) (by (simp(disch:=omega)only[push_cast,↓zz,seval,ps,pr,pw,pl])) (by (simp(disch:=omega)only[push_cast,↓zz,seval,ps,pr,pw,pl])) (by (simp(disch:=omega)only[push_cast,↓zz,seval,Af,Aj,Ar,Ax,AO,Au,ps,pr,pw,pl])) ?_)
 rintro y H' ⟨rfl,v1,rfl⟩;refine⟨_,rfl,by simp,?_⟩;(with_reducible repeat'(first|simp (disch:=omega) only[push_cast,↓zz,seval,ps,pr,pw,pl]|apply Aa|refine sp_ ?_ ?_<;>intro hc<;>push_cast at hc|omega|intro _));have hfin:mkH (S+1) (R++[CU f S s []]) v1=[⟨6,1,true,[.agg [.int .i64 2,.int .i64 2,.int .i64 ((S:Int)+1),.int .i64 0,.ref 1 v1 0 (R.length+1),.nilS]]⟩,⟨5,v1,false,R.map HD++[HD (CU f S s [])]⟩]:=by simp[mkH]
 exact⟨_,_,Hs (l0:=mkH (S+1) (R++[CU f S s []]) v1) (gar:=[⟨6,1,true,[.agg [.int .i64 2,Bc s,.int .i64 b,AD r,AD w,.lst 6 (l.map recV)]]⟩]) (by rw[hfin];rfl) (Ad _) HX trivial,rfl,v1,by rw[hfin]<;>rfl⟩
theorem zbs(k:Int)(s:List Span)(b:Int)(r w:List Int)(l:List Rec)(f S:Nat)(R:List Rule)(v:Nat)(hf:E0 (.mk k s b r w l))(hfu:GD S R=false)(h1:¬k=1)(h2:¬k=2)(h3:¬k=3)(h5:¬k=5)(h6:¬k=6)(ih:∀n∈l,Q9 n)(hS:S+8 * cntN (.mk k s b r w l)<=300000)(hR:R.length+8 * cntN (.mk k s b r w l)<=300000):
 B6 Tryz.prog 47 [.ptr 0 1 0 0,recV (.mk k s b r w l),.int .i64 f] (Abs.hl (mkH S R v)) λy H'=>y=.int .i64 ((mkM (.mk k s b r w l) f (S,R)).2:Nat)/\∃v',H'=Abs.hl (mkH (mkM (.mk k s b r w l) f (S,R)).1.1 (mkM (.mk k s b r w l) f (S,R)).1.2 v'):=by
 cases hf with
 |mk hs hr hw hl hch =>
 rw[cntN] at hS hR;have ps:=Be s;have pr:AF (r.map (AV.int .i32))=true:=AB .i32 _;have pw:AF (w.map (AV.int .i32))=true:=AB .i32 _;have pl:=BO l
 have e0:mkM (.mk k s b r w l) f (S,R)=catR l f (S,R):=by
  rw[mkM,Ac (by rw[show G0 (S,R)=GD S R from rfl,hfu];simp),Ac h1,Ac h2,Ac h3,Ac h5,Ac h6]
 have hFu:=Fl S R v;rw[hfu] at hFu;have hSt:=E9 S R v (by omega);rw[Ck,e0];clear e0;refine DT (GI Dq (W_T ?_));unfold CP;generalize hT2:catR l f (S,R)=T2;obtain⟨⟨S2,R2⟩,f2⟩:=T2;unfold mkH at hFu ⊢;(with_reducible repeat'(first|simp (disch:=omega) only[push_cast,↓zz,seval,ps,pr,pw,pl]|apply Aa|refine sp_ ?_ ?_<;>intro hc<;>push_cast at hc|omega|intro _))
 (refine Cj [0,1] (hFu) (by decide) (by simp) (by (simp(disch:=omega)only[push_cast,↓zz,seval,ps,pr,pw,pl,h1,h2,h3,h5,h6])) (by (simp(disch:=omega)only[push_cast,↓zz,seval,ps,pr,pw,pl,h1,h2,h3,h5,h6])) (by (simp(disch:=omega)only[push_cast,↓zz,seval,ps,pr,pw,pl,h1,h2,h3,h5,h6])) (by (simp(disch:=omega)only[push_cast,↓zz,seval,Af,Aj,Ar,Ax,AO,Au,ps,pr,pw,pl,h1,h2,h3,h5,h6])) ?_)
 rintro y H' ⟨rfl,rfl⟩;refine⟨_,rfl,by simp,?_⟩;(with_reducible repeat'(first|simp (disch:=omega) only[push_cast,↓zz,seval,ps,pr,pw,pl,h1,h2,h3,h5,h6]|apply Aa|refine sp_ ?_ ?_<;>intro hc<;>push_cast at hc|omega|intro _))
 refine Bs (B5 (λ(q:CSt)=>q.i<=l.length/\catR (l.drop q.i) q.f (q.S,q.R)=((S2,R2),f2)/\q.S+8 * cntA (l.drop q.i)<=300000/\q.R.length+8 * cntA (l.drop q.i)<=300000) (λq=>l.length-q.i)
  (λq=>[(0,.ptr 0 1 0 0),(2,.int .i64 q.f),(145,.lst 6 (l.map recV)),(146,.int .i64 l.length),(147,.int .i64 q.i)]) (λq=>mkH q.S q.R q.v) (λ_ _=>[]) ⟨0,f,S,R,v⟩ ⟨A4 _,hT2,by simp only[B3];omega,by simp only[B3];omega⟩ ?_ ?_)
 ·unfold mkH
  (with_reducible repeat'(first|simp (disch:=omega) only[push_cast,↓zz,seval,ps,pr,pw,pl]|apply Aa|refine sp_ ?_ ?_<;>intro hc<;>push_cast at hc|omega|intro _))
 rintro⟨i,f',S',R',v'⟩ ⟨hi,hk,hb1,hb2⟩;simp only at hi hk hb1 hb2 ⊢;rcases Ak i l.length with hil|hil
 ·rw[drop_at hil,catR] at hk
  have hm:=ih _ (Bo hil);have hgr:=Ns (nth l i);obtain⟨k',s',b',r',w',l',he⟩:∃k' s' b' r' w' l',nth l i=.mk k' s' b' r' w' l':=by cases nth l i;exact⟨_,_,_,_,_,_,rfl⟩
  have hrm:=Ck k' s' b' r' w' l';have ps':=Be s';have pr':AF (r'.map (AV.int .i32))=true:=AB .i32 _;have pw':AF (w'.map (AV.int .i32))=true:=AB .i32 _;have pl':=BO l';have hca:cntA (l.drop i)=cntN (nth l i)+cntA (l.drop (i+1)):=by rw[drop_at hil,cntA]
  rw[hca] at hb1 hb2;have hm:=hm f' S' R' v' (by omega) (by omega);have hgr:=hgr f' (S',R');generalize hTe:mkM (nth l i) f' (S',R')=TT at *;obtain⟨⟨S3,R3⟩,f3⟩:=TT;simp only at hm hk hgr;rw[he,hrm] at hm;unfold mkH at hm ⊢;refine W_T ?_;(with_reducible repeat'(first|simp (disch:=omega) only[push_cast,↓zz,seval,ps,pr,pw,pl,ps',pr',pw',pl',he,hrm]|apply Aa|refine sp_ ?_ ?_<;>intro hc<;>push_cast at hc|omega|intro _))
  (refine Cj [0,1] (hm) (by decide) (by simp) (by (simp(disch:=omega)only[push_cast,↓zz,seval,ps,pr,pw,pl,ps',pr',pw',pl',he,hrm])) (by (simp(disch:=omega)only[push_cast,↓zz,seval,ps,pr,pw,pl,ps',pr',pw',pl',he,hrm])) (by (simp(disch:=omega)only[push_cast,↓zz,seval,ps,pr,pw,pl,ps',pr',pw',pl',he,hrm])) (by (simp(disch:=omega)only[push_cast,↓zz,seval,Af,Aj,Ar,Ax,AO,Au,ps,pr,pw,pl,ps',pr',pw',pl',he,hrm])) ?_)
  rintro y H' ⟨rfl,v3,rfl⟩;refine⟨_,rfl,by simp,?_⟩;(with_reducible repeat'(first|simp (disch:=omega) only[push_cast,↓zz,seval,ps,pr,pw,pl,ps',pr',pw',pl',he,hrm]|apply Aa|refine sp_ ?_ ?_<;>intro hc<;>push_cast at hc|omega|intro _))
  all_goals
   refine⟨⟨i+1,f3,S3,R3,v3⟩,?_⟩;(with_reducible repeat'(first|simp (disch:=omega) only[push_cast,↓zz,seval,ps,pr,pw,pl]|apply Aa|refine sp_ ?_ ?_<;>intro hc<;>push_cast at hc|omega|intro _))
  all_goals first|exact hk|omega|trace_state
 ·obtain rfl:i=l.length:=by omega
  rw[List.drop_length,catR] at hk;obtain⟨⟨rfl,rfl⟩,rfl⟩:(S'=S2/\R'=R2)/\f'=f2:=by simpa using hk
  unfold mkH;refine W_T ?_;(with_reducible repeat'(first|simp (disch:=omega) only[push_cast,↓zz,seval,ps,pr,pw,pl]|apply Aa|refine sp_ ?_ ?_<;>intro hc<;>push_cast at hc|omega|intro _));exact⟨_,_,Ent.refl,rfl,v',rfl⟩
theorem zbt(s:List Span)(b:Int)(r w:List Int)(l:List Rec)(f S:Nat)(R:List Rule)(v:Nat)(hf:E0 (.mk 5 s b r w l))(hfu:GD S R=false)(ih:∀n∈l,Q9 n)(hS:S+8 * cntN (.mk 5 s b r w l)<=300000)(hR:R.length+8 * cntN (.mk 5 s b r w l)<=300000):
 B6 Tryz.prog 47 [.ptr 0 1 0 0,recV (.mk 5 s b r w l),.int .i64 f] (Abs.hl (mkH S R v)) λy H'=>y=.int .i64 ((mkM (.mk 5 s b r w l) f (S,R)).2:Nat)/\∃v',H'=Abs.hl (mkH (mkM (.mk 5 s b r w l) f (S,R)).1.1 (mkM (.mk 5 s b r w l) f (S,R)).1.2 v'):=by
 cases hf with
 |mk hs hr hw hl hch =>
 rw[cntN] at hS hR;have ps:=Be s;have pr:AF (r.map (AV.int .i32))=true:=AB .i32 _;have pw:AF (w.map (AV.int .i32))=true:=AB .i32 _;have pl:=BO l
 have e0:mkM (.mk 5 s b r w l) f (S,R)=(altR l f S (newS (S,R)),S):=by
  rw[mkM,Ac (by rw[show G0 (S,R)=GD S R from rfl,hfu];simp),Ac (show ¬(5:Int)=1 by decide),Ac (show ¬(5:Int)=2 by decide),Ac (show ¬(5:Int)=3 by decide),Ae rfl]
 have hFu:=Fl S R v;rw[hfu] at hFu;have hSt:=E9 S R v (by omega);rw[Ck,e0];clear e0;refine DT (GI Dq (W_T ?_));unfold CP;generalize hT2:altR l f S (newS (S,R))=T2;obtain⟨S2,R2⟩:=T2;unfold mkH at hFu hSt ⊢;(with_reducible repeat'(first|simp (disch:=omega) only[push_cast,↓zz,seval,ps,pr,pw,pl]|apply Aa|refine sp_ ?_ ?_<;>intro hc<;>push_cast at hc|omega|intro _))
 (refine Cj [0,1] (hFu) (by decide) (by simp) (by (simp(disch:=omega)only[push_cast,↓zz,seval,ps,pr,pw,pl])) (by (simp(disch:=omega)only[push_cast,↓zz,seval,ps,pr,pw,pl])) (by (simp(disch:=omega)only[push_cast,↓zz,seval,ps,pr,pw,pl])) (by (simp(disch:=omega)only[push_cast,↓zz,seval,Af,Aj,Ar,Ax,AO,Au,ps,pr,pw,pl])) ?_)
 rintro y H' ⟨rfl,rfl⟩;refine⟨_,rfl,by simp,?_⟩;(with_reducible repeat'(first|simp (disch:=omega) only[push_cast,↓zz,seval,ps,pr,pw,pl]|apply Aa|refine sp_ ?_ ?_<;>intro hc<;>push_cast at hc|omega|intro _))
 (refine Cj [0,1] (hSt) (by decide) (by simp) (by (simp(disch:=omega)only[push_cast,↓zz,seval,ps,pr,pw,pl])) (by (simp(disch:=omega)only[push_cast,↓zz,seval,ps,pr,pw,pl])) (by (simp(disch:=omega)only[push_cast,↓zz,seval,ps,pr,pw,pl])) (by (simp(disch:=omega)only[push_cast,↓zz,seval,Af,Aj,Ar,Ax,AO,Au,ps,pr,pw,pl])) ?_)
 rintro y H' ⟨rfl,rfl⟩;refine⟨_,rfl,by simp,?_⟩;(with_reducible repeat'(first|simp (disch:=omega) only[push_cast,↓zz,seval,ps,pr,pw,pl]|apply Aa|refine sp_ ?_ ?_<;>intro hc<;>push_cast at hc|omega|intro _))
 refine Bs (B5 (λ(q:CSt)=>q.i<=l.length/\altR (l.drop q.i) f S (q.S,q.R)=(S2,R2)/\q.S+8 * cntA (l.drop q.i)+7<=300000/\q.R.length+8 * cntA (l.drop q.i)+7<=300000) (λq=>l.length-q.i)
  (λq=>[(0,.ptr 0 1 0 0),(2,.int .i64 f),(12,.int .i64 S),(85,.lst 6 (l.map recV)),(86,.int .i64 l.length),(87,.int .i64 q.i)]) (λq=>mkH q.S q.R q.v) (λ_ _=>[]) ⟨0,0,S+1,R,v⟩ ⟨A4 _,hT2,by simp only[B3];omega,by simp only[B3];omega⟩ ?_ ?_)
 ·unfold mkH
  (with_reducible repeat'(first|simp (disch:=omega) only[push_cast,↓zz,seval,ps,pr,pw,pl]|apply Aa|refine sp_ ?_ ?_<;>intro hc<;>push_cast at hc|omega|intro _))
 rintro⟨i,f',S',R',v'⟩ ⟨hi,hk,hb1,hb2⟩;simp only at hi hk hb1 hb2 ⊢;rcases Ak i l.length with hil|hil
 ·rw[drop_at hil,altR] at hk
  have hm:=ih _ (Bo hil);have hgr:=Ns (nth l i);obtain⟨k',s',b',r',w',l',he⟩:∃k' s' b' r' w' l',nth l i=.mk k' s' b' r' w' l':=by cases nth l i;exact⟨_,_,_,_,_,_,rfl⟩
  have hrm:=Ck k' s' b' r' w' l';have ps':=Be s';have pr':AF (r'.map (AV.int .i32))=true:=AB .i32 _;have pw':AF (w'.map (AV.int .i32))=true:=AB .i32 _;have pl':=BO l';have hca:cntA (l.drop i)=cntN (nth l i)+cntA (l.drop (i+1)):=by rw[drop_at hil,cntA]
  rw[hca] at hb1 hb2;have hSt2:=E9 S' R' v' (by omega);have hRu:=λv''=>G1 (S'+1) R' v'' f S' (by omega);have hm:=λv''=>hm S' (S'+1) (R'++[CU f S' [] []]) v'' (by omega) (by simp;omega);have hgr:=hgr S' (S'+1,R'++[CU f S' [] []]);have hk:altR (l.drop (i+1)) f S (addR (mkM (nth l i) S' (S'+1,R'++[CU f S' [] []])).1 (mkM (nth l i) S' (S'+1,R'++[CU f S' [] []])).2 S [] [])=(S2,R2):=hk;generalize hTe:mkM (nth l i) S' (S'+1,R'++[CU f S' [] []])=TT at *;obtain⟨⟨S3,R3⟩,f3⟩:=TT;simp only[Ah,List.length_singleton] at hm hk hgr;have hRu2:=λv''=>G1 S3 R3 v'' f3 S (by omega);unfold addR at hk;simp only at hk;simp only[he,hrm] at hm;unfold mkH at hSt2 hRu hm hRu2 ⊢;refine W_T ?_;(with_reducible repeat'(first|simp (disch:=omega) only[push_cast,↓zz,seval,ps,pr,pw,pl,ps',pr',pw',pl',he,hrm]|apply Aa|refine sp_ ?_ ?_<;>intro hc<;>push_cast at hc|omega|intro _))
  (refine Cj [0,1] (hSt2) (by decide) (by simp) (by (simp(disch:=omega)only[push_cast,↓zz,seval,ps,pr,pw,pl,ps',pr',pw',pl',he,hrm])) (by (simp(disch:=omega)only[push_cast,↓zz,seval,ps,pr,pw,pl,ps',pr',pw',pl',he,hrm])) (by (simp(disch:=omega)only[push_cast,↓zz,seval,ps,pr,pw,pl,ps',pr',pw',pl',he,hrm])) (by (simp(disch:=omega)only[push_cast,↓zz,seval,Af,Aj,Ar,Ax,AO,Au,ps,pr,pw,pl,ps',pr',pw',pl',he,hrm])) ?_)
  rintro y H' ⟨rfl,rfl⟩;refine⟨_,rfl,by simp,?_⟩;(with_reducible repeat'(first|simp (disch:=omega) only[push_cast,↓zz,seval,ps,pr,pw,pl,ps',pr',pw',pl',he,hrm]|apply Aa|refine sp_ ?_ ?_<;>intro hc<;>push_cast at hc|omega|intro _))
  (refine Cj [0,1] ((hRu v')) (by decide) (by simp) (by (simp(disch:=omega)only[push_cast,↓zz,seval,ps,pr,pw,pl,ps',pr',pw',pl',he,hrm])) (by (simp(disch:=omega)only[push_cast,↓zz,seval,ps,pr,pw,pl,ps',pr',pw',pl',he,hrm])) (by (simp(disch:=omega)only[push_cast,↓zz,seval,ps,pr,pw,pl,ps',pr',pw',pl',he,hrm])) (by (simp(disch:=omega)only[push_cast,↓zz,seval,Af,Aj,Ar,Ax,AO,Au,ps,pr,pw,pl,ps',pr',pw',pl',he,hrm])) ?_)
  rintro y H' ⟨rfl,v1,rfl⟩;refine⟨_,rfl,by simp,?_⟩;(with_reducible repeat'(first|simp (disch:=omega) only[push_cast,↓zz,seval,ps,pr,pw,pl,ps',pr',pw',pl',he,hrm]|apply Aa|refine sp_ ?_ ?_<;>intro hc<;>push_cast at hc|omega|intro _))
  (refine Cj [0,1] ((hm v1)) (by decide) (by simp) (by (simp(disch:=omega)only[push_cast,↓zz,seval,ps,pr,pw,pl,ps',pr',pw',pl',he,hrm,Ao,A7,AA,Ah,List.length_singleton])) (by (simp(disch:=omega)only[push_cast,↓zz,seval,ps,pr,pw,pl,ps',pr',pw',pl',he,hrm,Ao,A7,AA,Ah,List.length_singleton])) (by (simp(disch:=omega)only[push_cast,↓zz,seval,ps,pr,pw,pl,ps',pr',pw',pl',he,hrm,Ao,A7,AA,Ah,List.length_singleton])) (by (simp(disch:=omega)only[push_cast,↓zz,seval,Af,Aj,Ar,Ax,AO,Au,ps,pr,pw,pl,ps',pr',pw',pl',he,hrm,Ao,A7,AA,Ah,List.length_singleton])) ?_)
  rintro y H' ⟨rfl,v2,rfl⟩;refine⟨_,rfl,by simp,?_⟩;(with_reducible repeat'(first|simp (disch:=omega) only[push_cast,↓zz,seval,ps,pr,pw,pl,ps',pr',pw',pl',he,hrm,Ao,A7,AA,Ah,List.length_singleton]|apply Aa|refine sp_ ?_ ?_<;>intro hc<;>push_cast at hc|omega|intro _))
  (refine Cj [0,1] ((hRu2 v2)) (by decide) (by simp) (by (simp(disch:=omega)only[push_cast,↓zz,seval,ps,pr,pw,pl,ps',pr',pw',pl',he,hrm])) (by (simp(disch:=omega)only[push_cast,↓zz,seval,ps,pr,pw,pl,ps',pr',pw',pl',he,hrm])) (by (simp(disch:=omega)only[push_cast,↓zz,seval,ps,pr,pw,pl,ps',pr',pw',pl',he,hrm])) (by (simp(disch:=omega)only[push_cast,↓zz,seval,Af,Aj,Ar,Ax,AO,Au,ps,pr,pw,pl,ps',pr',pw',pl',he,hrm])) ?_)
  rintro y H' ⟨rfl,v3,rfl⟩;refine⟨_,rfl,by simp,?_⟩;(with_reducible repeat'(first|simp (disch:=omega) only[push_cast,↓zz,seval,ps,pr,pw,pl,ps',pr',pw',pl',he,hrm]|apply Aa|refine sp_ ?_ ?_<;>intro hc<;>push_cast at hc|omega|intro _))
  all_goals
   refine⟨⟨i+1,0,S3,R3++[CU f3 S [] []],v3⟩,?_⟩;(with_reducible repeat'(first|simp (disch:=omega) only[push_cast,↓zz,seval,ps,pr,pw,pl]|apply Aa|refine sp_ ?_ ?_<;>intro hc<;>push_cast at hc|omega|intro _))
  all_goals first|exact hk|(simp;omega)|omega|trace_state
 ·obtain rfl:i=l.length:=by omega
  rw[List.drop_length,altR] at hk;obtain⟨rfl,rfl⟩:S'=S2/\R'=R2:=by simpa using hk
  unfold mkH;refine W_T ?_;(with_reducible repeat'(first|simp (disch:=omega) only[push_cast,↓zz,seval,ps,pr,pw,pl]|apply Aa|refine sp_ ?_ ?_<;>intro hc<;>push_cast at hc|omega|intro _));exact⟨_,_,Ent.refl,rfl,v',rfl⟩
theorem z68(s:List Span)(b:Int)(r w:List Int)(l:List Rec)(f S:Nat)(R:List Rule)(v:Nat)(hf:E0 (.mk 6 s b r w l))(hfu:GD S R=false)(ih:∀n∈l,Q9 n)(hS:S+8 * cntN (.mk 6 s b r w l)<=300000)(hR:R.length+8 * cntN (.mk 6 s b r w l)<=300000):
 B6 Tryz.prog 47 [.ptr 0 1 0 0,recV (.mk 6 s b r w l),.int .i64 f] (Abs.hl (mkH S R v)) λy H'=>y=.int .i64 ((mkM (.mk 6 s b r w l) f (S,R)).2:Nat)/\∃v',H'=Abs.hl (mkH (mkM (.mk 6 s b r w l) f (S,R)).1.1 (mkM (.mk 6 s b r w l) f (S,R)).1.2 v'):=by
 cases hf with
 |mk hs hr hw hl hch =>
 rw[cntN] at hS hR;have ps:=Be s;have pr:AF (r.map (AV.int .i32))=true:=AB .i32 _;have pw:AF (w.map (AV.int .i32))=true:=AB .i32 _;have pl:=BO l
 have e0:mkM (.mk 6 s b r w l) f (S,R)=(addR (newS (addR (catR l (S+1) (S+1+1,(R++[CU f S [] []])++[CU S (S+1:Nat) [] []])).1 (catR l (S+1) (S+1+1,(R++[CU f S [] []])++[CU S (S+1:Nat) [] []])).2 S [] [])) S (catR l (S+1) (S+1+1,(R++[CU f S [] []])++[CU S (S+1:Nat) [] []])).1.1 [] [],(catR l (S+1) (S+1+1,(R++[CU f S [] []])++[CU S (S+1:Nat) [] []])).1.1):=by
  rw[mkM,Ac (by rw[show G0 (S,R)=GD S R from rfl,hfu];simp),Ac (show ¬(6:Int)=1 by decide),Ac (show ¬(6:Int)=2 by decide),Ac (show ¬(6:Int)=3 by decide),Ac (show ¬(6:Int)=5 by decide),Ae rfl];rfl
 have hFu:=Fl S R v;rw[hfu] at hFu;have hSt:=E9 S R v (by omega);rw[Ck,e0];clear e0;refine DT (GI Dq (W_T ?_));unfold CP;have hgc:=Lk l (λn _=>Ns n) (S+1) (S+1+1,(R++[CU f S [] []])++[CU S (S+1:Nat) [] []]);simp only[Ah,List.length_singleton] at hgc;generalize hT2:catR l (S+1) (S+1+1,(R++[CU f S [] []])++[CU S (S+1:Nat) [] []])=T2 at *;obtain⟨⟨S2,R2⟩,f2⟩:=T2;simp only at hgc;unfold addR newS;simp only;have hRa:=λv=>G1 (S+1) R v f S (by omega);have hSt1:=λv=>E9 (S+1) (R++[CU f S [] []]) v (by omega);have hRb:=λv=>G1 (S+1+1) (R++[CU f S [] []]) v S (S+1:Nat) (by simp;omega);have hRc:=λv=>G1 S2 R2 v f2 S (by omega);have hSt2:=λv=>E9 S2 (R2++[CU f2 S [] []]) v (by omega);have hRd:=λv=>G1 (S2+1) (R2++[CU f2 S [] []]) v S S2 (by simp;omega);unfold mkH at hFu hSt hRa hSt1 hRb hRc hSt2 hRd ⊢;(with_reducible repeat'(first|simp (disch:=omega) only[push_cast,↓zz,seval,ps,pr,pw,pl]|apply Aa|refine sp_ ?_ ?_<;>intro hc<;>push_cast at hc|omega|intro _))
 (refine Cj [0,1] (hFu) (by decide) (by simp) (by (simp(disch:=omega)only[push_cast,↓zz,seval,ps,pr,pw,pl])) (by (simp(disch:=omega)only[push_cast,↓zz,seval,ps,pr,pw,pl])) (by (simp(disch:=omega)only[push_cast,↓zz,seval,ps,pr,pw,pl])) (by (simp(disch:=omega)only[push_cast,↓zz,seval,Af,Aj,Ar,Ax,AO,Au,ps,pr,pw,pl])) ?_)
 rintro y H' ⟨rfl,rfl⟩;refine⟨_,rfl,by simp,?_⟩;(with_reducible repeat'(first|simp (disch:=omega) only[push_cast,↓zz,seval,ps,pr,pw,pl]|apply Aa|refine sp_ ?_ ?_<;>intro hc<;>push_cast at hc|omega|intro _))
 (refine Cj [0,1] (hSt) (by decide) (by simp) (by (simp(disch:=omega)only[push_cast,↓zz,seval,ps,pr,pw,pl])) (by (simp(disch:=omega)only[push_cast,↓zz,seval,ps,pr,pw,pl])) (by (simp(disch:=omega)only[push_cast,↓zz,seval,ps,pr,pw,pl])) (by (simp(disch:=omega)only[push_cast,↓zz,seval,Af,Aj,Ar,Ax,AO,Au,ps,pr,pw,pl])) ?_)
 rintro y H' ⟨rfl,rfl⟩;refine⟨_,rfl,by simp,?_⟩;(with_reducible repeat'(first|simp (disch:=omega) only[push_cast,↓zz,seval,ps,pr,pw,pl]|apply Aa|refine sp_ ?_ ?_<;>intro hc<;>push_cast at hc|omega|intro _))
 (refine Cj [0,1] ((hRa v)) (by decide) (by simp) (by (simp(disch:=omega)only[push_cast,↓zz,seval,ps,pr,pw,pl])) (by (simp(disch:=omega)only[push_cast,↓zz,seval,ps,pr,pw,pl])) (by (simp(disch:=omega)only[push_cast,↓zz,seval,ps,pr,pw,pl])) (by (simp(disch:=omega)only[push_cast,↓zz,seval,Af,Aj,Ar,Ax,AO,Au,ps,pr,pw,pl])) ?_)
 rintro y H' ⟨rfl,v1,rfl⟩;refine⟨_,rfl,by simp,?_⟩;(with_reducible repeat'(first|simp (disch:=omega) only[push_cast,↓zz,seval,ps,pr,pw,pl]|apply Aa|refine sp_ ?_ ?_<;>intro hc<;>push_cast at hc|omega|intro _))
 (refine Cj [0,1] ((hSt1 v1)) (by decide) (by simp) (by (simp(disch:=omega)only[push_cast,↓zz,seval,ps,pr,pw,pl,Ao,A7,AA,Ah,List.length_singleton])) (by (simp(disch:=omega)only[push_cast,↓zz,seval,ps,pr,pw,pl,Ao,A7,AA,Ah,List.length_singleton])) (by (simp(disch:=omega)only[push_cast,↓zz,seval,ps,pr,pw,pl,Ao,A7,AA,Ah,List.length_singleton])) (by (simp(disch:=omega)only[push_cast,↓zz,seval,Af,Aj,Ar,Ax,AO,Au,ps,pr,pw,pl,Ao,A7,AA,Ah,List.length_singleton])) ?_)
 rintro y H' ⟨rfl,rfl⟩;refine⟨_,rfl,by simp,?_⟩;(with_reducible repeat'(first|simp (disch:=omega) only[push_cast,↓zz,seval,ps,pr,pw,pl,Ao,A7,AA,Ah,List.length_singleton]|apply Aa|refine sp_ ?_ ?_<;>intro hc<;>push_cast at hc|omega|intro _))
 (refine Cj [0,1] ((hRb v1)) (by decide) (by simp) (by (simp(disch:=omega)only[push_cast,↓zz,seval,ps,pr,pw,pl,Ao,A7,AA,Ah,List.length_singleton])) (by (simp(disch:=omega)only[push_cast,↓zz,seval,ps,pr,pw,pl,Ao,A7,AA,Ah,List.length_singleton])) (by (simp(disch:=omega)only[push_cast,↓zz,seval,ps,pr,pw,pl,Ao,A7,AA,Ah,List.length_singleton])) (by (simp(disch:=omega)only[push_cast,↓zz,seval,Af,Aj,Ar,Ax,AO,Au,ps,pr,pw,pl,Ao,A7,AA,Ah,List.length_singleton])) ?_)
 rintro y H' ⟨rfl,v2,rfl⟩;refine⟨_,rfl,by simp,?_⟩;(with_reducible repeat'(first|simp (disch:=omega) only[push_cast,↓zz,seval,ps,pr,pw,pl,Ao,A7,AA,Ah,List.length_singleton]|apply Aa|refine sp_ ?_ ?_<;>intro hc<;>push_cast at hc|omega|intro _))
 refine Bs (B5 (λ(q:CSt)=>q.i<=l.length/\catR (l.drop q.i) q.f (q.S,q.R)=((S2,R2),f2)/\q.S+8 * cntA (l.drop q.i)<=300000/\q.R.length+8 * cntA (l.drop q.i)<=300000) (λq=>l.length-q.i)
  (λq=>[(0,.ptr 0 1 0 0),(16,.int .i64 S),(18,.int .i64 q.f),(122,.lst 6 (l.map recV)),(123,.int .i64 l.length),(124,.int .i64 q.i)]) (λq=>mkH q.S q.R q.v) (λ_ _=>[]) ⟨0,S+1,S+1+1,(R++[CU f S [] []])++[CU S (S+1:Nat) [] []],v2⟩ ⟨A4 _,hT2,by simp only[B3];omega,by simp only[B3,Ah,List.length_singleton];omega⟩ ?_ ?_)
 ·unfold mkH
  (with_reducible repeat'(first|simp (disch:=omega) only[push_cast,↓zz,seval,ps,pr,pw,pl]|apply Aa|refine sp_ ?_ ?_<;>intro hc<;>push_cast at hc|omega|intro _))
 rintro⟨i,f',S',R',v'⟩ ⟨hi,hk,hb1,hb2⟩;simp only at hi hk hb1 hb2 ⊢;rcases Ak i l.length with hil|hil
 ·rw[drop_at hil,catR] at hk
  have hm:=ih _ (Bo hil);have hgr:=Ns (nth l i);obtain⟨k',s',b',r',w',l',he⟩:∃k' s' b' r' w' l',nth l i=.mk k' s' b' r' w' l':=by cases nth l i;exact⟨_,_,_,_,_,_,rfl⟩
  have hrm:=Ck k' s' b' r' w' l';have ps':=Be s';have pr':AF (r'.map (AV.int .i32))=true:=AB .i32 _;have pw':AF (w'.map (AV.int .i32))=true:=AB .i32 _;have pl':=BO l';have hca:cntA (l.drop i)=cntN (nth l i)+cntA (l.drop (i+1)):=by rw[drop_at hil,cntA]
  rw[hca] at hb1 hb2;have hm:=hm f' S' R' v' (by omega) (by omega);have hgr:=hgr f' (S',R');generalize hTe:mkM (nth l i) f' (S',R')=TT at *;obtain⟨⟨S3,R3⟩,f3⟩:=TT;simp only at hm hk hgr;rw[he,hrm] at hm;unfold mkH at hm ⊢;refine W_T ?_;(with_reducible repeat'(first|simp (disch:=omega) only[push_cast,↓zz,seval,ps,pr,pw,pl,ps',pr',pw',pl',he,hrm]|apply Aa|refine sp_ ?_ ?_<;>intro hc<;>push_cast at hc|omega|intro _))
  (refine Cj [0,1] (hm) (by decide) (by simp) (by (simp(disch:=omega)only[push_cast,↓zz,seval,ps,pr,pw,pl,ps',pr',pw',pl',he,hrm])) (by (simp(disch:=omega)only[push_cast,↓zz,seval,ps,pr,pw,pl,ps',pr',pw',pl',he,hrm])) (by (simp(disch:=omega)only[push_cast,↓zz,seval,ps,pr,pw,pl,ps',pr',pw',pl',he,hrm])) (by (simp(disch:=omega)only[push_cast,↓zz,seval,Af,Aj,Ar,Ax,AO,Au,ps,pr,pw,pl,ps',pr',pw',pl',he,hrm])) ?_)
  rintro y H' ⟨rfl,v3,rfl⟩;refine⟨_,rfl,by simp,?_⟩;(with_reducible repeat'(first|simp (disch:=omega) only[push_cast,↓zz,seval,ps,pr,pw,pl,ps',pr',pw',pl',he,hrm]|apply Aa|refine sp_ ?_ ?_<;>intro hc<;>push_cast at hc|omega|intro _))
  all_goals
   refine⟨⟨i+1,f3,S3,R3,v3⟩,?_⟩;(with_reducible repeat'(first|simp (disch:=omega) only[push_cast,↓zz,seval,ps,pr,pw,pl]|apply Aa|refine sp_ ?_ ?_<;>intro hc<;>push_cast at hc|omega|intro _))
  all_goals first|exact hk|omega|trace_state
 ·obtain rfl:i=l.length:=by omega
  rw[List.drop_length,catR] at hk;obtain⟨⟨rfl,rfl⟩,rfl⟩:(S'=S2/\R'=R2)/\f'=f2:=by simpa using hk
  unfold mkH;refine W_T ?_;(with_reducible repeat'(first|simp (disch:=omega) only[push_cast,↓zz,seval,ps,pr,pw,pl]|apply Aa|refine sp_ ?_ ?_<;>intro hc<;>push_cast at hc|omega|intro _))
  (refine Cj [0,1] ((hRc v')) (by decide) (by simp) (by (simp(disch:=omega)only[push_cast,↓zz,seval,ps,pr,pw,pl])) (by (simp(disch:=omega)only[push_cast,↓zz,seval,ps,pr,pw,pl])) (by (simp(disch:=omega)only[push_cast,↓zz,seval,ps,pr,pw,pl])) (by (simp(disch:=omega)only[push_cast,↓zz,seval,Af,Aj,Ar,Ax,AO,Au,ps,pr,pw,pl])) ?_)
  rintro y H' ⟨rfl,v3,rfl⟩;refine⟨_,rfl,by simp,?_⟩;(with_reducible repeat'(first|simp (disch:=omega) only[push_cast,↓zz,seval,ps,pr,pw,pl]|apply Aa|refine sp_ ?_ ?_<;>intro hc<;>push_cast at hc|omega|intro _))
  (refine Cj [0,1] ((hSt2 v3)) (by decide) (by simp) (by (simp(disch:=omega)only[push_cast,↓zz,seval,ps,pr,pw,pl,Ao,A7,AA,Ah,List.length_singleton])) (by (simp(disch:=omega)only[push_cast,↓zz,seval,ps,pr,pw,pl,Ao,A7,AA,Ah,List.length_singleton])) (by (simp(disch:=omega)only[push_cast,↓zz,seval,ps,pr,pw,pl,Ao,A7,AA,Ah,List.length_singleton])) (by (simp(disch:=omega)only[push_cast,↓zz,seval,Af,Aj,Ar,Ax,AO,Au,ps,pr,pw,pl,Ao,A7,AA,Ah,List.length_singleton])) ?_)
  rintro y H' ⟨rfl,rfl⟩;refine⟨_,rfl,by simp,?_⟩;(with_reducible repeat'(first|simp (disch:=omega) only[push_cast,↓zz,seval,ps,pr,pw,pl,Ao,A7,AA,Ah,List.length_singleton]|apply Aa|refine sp_ ?_ ?_<;>intro hc<;>push_cast at hc|omega|intro _))
  (refine Cj [0,1] ((hRd v3)) (by decide) (by simp) (by (simp(disch:=omega)only[push_cast,↓zz,seval,ps,pr,pw,pl,Ao,A7,AA,Ah,List.length_singleton])) (by (simp(disch:=omega)only[push_cast,↓zz,seval,ps,pr,pw,pl,Ao,A7,AA,Ah,List.length_singleton])) (by (simp(disch:=omega)only[push_cast,↓zz,seval,ps,pr,pw,pl,Ao,A7,AA,Ah,List.length_singleton])) (by (simp(disch:=omega)only[push_cast,↓zz,seval,Af,Aj,Ar,Ax,AO,Au,ps,pr,pw,pl,Ao,A7,AA,Ah,List.length_singleton])) ?_)
  rintro y H' ⟨rfl,v4,rfl⟩;refine⟨_,rfl,by simp,?_⟩;(with_reducible repeat'(first|simp (disch:=omega) only[push_cast,↓zz,seval,ps,pr,pw,pl,Ao,A7,AA,Ah,List.length_singleton]|apply Aa|refine sp_ ?_ ?_<;>intro hc<;>push_cast at hc|omega|intro _));exact⟨_,_,Ent.refl,rfl,v4,by simp⟩
theorem ZH(n:Rec):E0 n->Q9 n:=by
 refine Rec.ind (P:=λn=>E0 n->Q9 n) ?_ n;intro k s b r w l ih hf f S R v hS hR;cases hfu:GD S R with
 |true =>
  have e:mkM (.mk k s b r w l) f (S,R)=((S,R),f):=by rw[mkM,Ae (show G0 (S,R)=true from hfu)]
  rw[e];exact z64 _ f S R v hfu
 |false =>
  have ih2:∀n∈l,Q9 n:=λn hn=>ih n hn (by cases hf with|mk _ _ _ _ h=>exact h n hn);by_cases h1:k=1
  ·subst h1;exact z65 s b r w l f S R v hf hfu hS hR
  by_cases h2:k=2
  ·subst h2;exact z67 s b r w l f S R v hf hfu hS hR
  by_cases h3:k=3
  ·subst h3;exact z63 r s b w l f S R v hf hS hR
  by_cases h5:k=5
  ·subst h5;exact zbt s b r w l f S R v hf hfu ih2 hS hR
  by_cases h6:k=6
  ·subst h6;exact z68 s b r w l f S R v hf hfu ih2 hS hR
  exact zbs k s b r w l f S R v hf hfu h1 h2 h3 h5 h6 ih2 hS hR
set_option maxRecDepth 100000
theorem We:PC Tryz.prog 46 [.int .i64 2,.int .i64 2] (.agg [.int .i64 2,.int .i64 2,.int .i64 1,.int .i64 0,.nilS,.nilS]):=by
 refine Cg Tq ?_;unfold Mn;(with_reducible repeat'(first|simp (disch:=omega) only[push_cast,↓zz,seval]|apply Aa|refine sp_ ?_ ?_<;>intro hc<;>push_cast at hc|omega|intro _))
 all_goals trace_state
def ZI:Desc:=⟨0,0,0,0,[],[]⟩
def Hh(n:Rec):Desc:=⟨2,2,(mkM n 0 (1,[])).1.1,0,(mkM n 0 (1,[])).1.2,[⟨(mkM n 0 (1,[])).2,[],[]⟩]⟩
def Jg(n:Rec):Int:=if okR n 0=false then 2 else if G0 (mkM n 0 (1,[])).1=true then 4 else 0
abbrev zbu(n:Rec):AV:=.tup [EM (if Jg n=0 then Hh n else ZI),.int .i64 (Jg n)]
abbrev zi0(n:Rec):AV:=.tup [if Jg n=0 then .agg [.int .i64 2,.int .i64 2,.int .i64 (mkM n 0 (1,[])).1.1,.int .i64 0,FD (mkM n 0 (1,[])).1.2,.lst 3 [.agg [.int .i64 (mkM n 0 (1,[])).2,.nilS,.nilS]]] else EM ZI,.int .i64 (Jg n)]
theorem Sf(n:Rec)(hf:E0 n)(hc:cntN n<=10000):PC Tryz.prog 18 [recV n] (zi0 n):=by
 have hR:=J4 n hf;have hE:=We;have hM:=ZH n hf 0 1 [] 1 (by omega) (by simp;omega);unfold zi0 Jg ZI;have pn:(recV n).pure=true:=IV n;obtain⟨k,s,b,r,w,l,he⟩:∃k s b r w l,n=.mk k s b r w l:=by cases n;exact⟨_,_,_,_,_,_,rfl⟩
 generalize hT:mkM n 0 (1,[])=T at *;generalize okR n 0=q at *;rw[he,Ck] at *;obtain⟨⟨S,R⟩,t⟩:=T;simp only at hM ⊢;have ps:=Be s;have pr:AF (r.map (AV.int .i32))=true:=AB .i32 _;have pw:AF (w.map (AV.int .i32))=true:=AB .i32 _;have pl:=BO l;refine Zu Pk ?_;unfold JA;refine Dy (W_T ?_);(with_reducible repeat'(first|simp (disch:=omega) only[push_cast,↓zz,seval,ps,pr,pw,pl]|apply Aa|refine sp_ ?_ ?_<;>intro hc<;>push_cast at hc|omega|intro _));refine Dy (W_T ?_);cases q with
 |false =>
  rw[Ae rfl,Ac (by decide)];(with_reducible repeat'(first|simp (disch:=omega) only[push_cast,↓zz,seval,ps,pr,pw,pl]|apply Aa|refine sp_ ?_ ?_<;>intro hc<;>push_cast at hc|refine ee hR ?_|(refine cc hR ?_;(simp(disch:=omega)only[push_cast,↓zz,seval,ps,pr,pw,pl]);(fail_if_success change False))|omega|intro _))
  all_goals first|((repeat'(first|(simp(disch:=omega)only[push_cast,↓zz,seval,EP])|omega|(with_reducible refine Aa ?_ ?_)));done)|trace_state
 |true =>
 rw[Ac (show ¬(true=false) by decide)];(with_reducible repeat'(first|simp (disch:=omega) only[push_cast,↓zz,seval,ps,pr,pw,pl]|apply Aa|refine sp_ ?_ ?_<;>intro hc<;>push_cast at hc|refine ee hR ?_|(refine cc hR ?_;(simp(disch:=omega)only[push_cast,↓zz,seval,ps,pr,pw,pl]);(fail_if_success change False))|omega|intro _));refine Dy (W_T ?_);(with_reducible repeat'(first|simp (disch:=omega) only[push_cast,↓zz,seval,ps,pr,pw,pl]|apply Aa|refine sp_ ?_ ?_<;>intro hc<;>push_cast at hc|refine ee hE ?_|(refine cc hE ?_;(simp(disch:=omega)only[push_cast,↓zz,seval,ps,pr,pw,pl]);(fail_if_success change False))|omega|intro _))
 refine L5 ((Rc [5] (by decide)).trans (Tl (l':=[⟨6,1,true,[.agg [.int .i64 k,Bc s,.int .i64 b,AD r,AD w,.lst 6 (l.map recV)]]⟩,⟨6,1,true,[.agg [.int .i64 0,.int .i64 0,.int .i64 0,.int .i64 0,.nilS,.nilS]]⟩,
  ⟨6,1,true,[.agg [.int .i64 2,.int .i64 2,.int .i64 1,.int .i64 0,.ref 3 1 0 0,.nilS]]⟩,⟨5,1,false,[]⟩])
  ⟨⟨rfl,rfl,id,Bv _ _⟩,⟨rfl,rfl,id,Bv _ _⟩,⟨rfl,rfl,id,⟨⟨EF _ _,EF _ _,EF _ _,EF _ _,⟨rfl,rfl,rfl,(show 0<5 by decide),rfl,rfl,by simp⟩,EF _ _,rfl⟩,rfl⟩⟩,⟨rfl,rfl,λh=>(by cases h),rfl⟩,trivial⟩ (λi _=>EF _ _))) (Dy (W_T ?_))
 have hM:B6 Tryz.prog 47 [.ptr 0 1 0 0,.agg [.int .i64 k,Bc s,.int .i64 b,AD r,AD w,.lst 6 (l.map recV)],.int .i64 0] (Abs.hl [⟨6,1,true,[.agg [.int .i64 2,.int .i64 2,.int .i64 1,.int .i64 0,.ref 1 1 0 0,.nilS]]⟩,⟨5,1,false,[]⟩])
  λy H'=>y=.int .i64 t/\∃v',H'=Abs.hl [⟨6,1,true,[.agg [.int .i64 2,.int .i64 2,.int .i64 S,.int .i64 0,.ref 1 v' 0 R.length,.nilS]]⟩,⟨5,v',false,R.map HD⟩]:=hM
 have hFu:=λv=>Fl S R v;unfold mkH at hFu;(with_reducible repeat'(first|simp (disch:=omega) only[push_cast,↓zz,seval,ps,pr,pw,pl]|apply Aa|refine sp_ ?_ ?_<;>intro hc<;>push_cast at hc|omega|intro _))
 (refine Cj [2,3] (hM) (by decide) (by simp) (by (simp(disch:=omega)only[push_cast,↓zz,seval,ps,pr,pw,pl])) (by (simp(disch:=omega)only[push_cast,↓zz,seval,ps,pr,pw,pl])) (by (simp(disch:=omega)only[push_cast,↓zz,seval,ps,pr,pw,pl])) (by (simp(disch:=omega)only[push_cast,↓zz,seval,Af,Aj,Ar,Ax,AO,Au,ps,pr,pw,pl])) ?_)
 rintro y H' ⟨rfl,v1,rfl⟩;refine⟨_,rfl,by simp,?_⟩;(with_reducible repeat'(first|simp (disch:=omega) only[push_cast,↓zz,seval,ps,pr,pw,pl]|apply Aa|refine sp_ ?_ ?_<;>intro hc<;>push_cast at hc|omega|intro _));refine Dy (W_T ?_);have hFu:=hFu v1;rw[show G0 (S,R)=GD S R from rfl];cases hfu:GD S R with
 |true =>
  rw[hfu] at hFu;rw[Ae rfl,Ac (by decide)];(with_reducible repeat'(first|simp (disch:=omega) only[push_cast,↓zz,seval,ps,pr,pw,pl]|apply Aa|refine sp_ ?_ ?_<;>intro hc<;>push_cast at hc|omega|intro _))
  (refine Cj [2,3] (hFu) (by decide) (by simp) (by (simp(disch:=omega)only[push_cast,↓zz,seval,ps,pr,pw,pl])) (by (simp(disch:=omega)only[push_cast,↓zz,seval,ps,pr,pw,pl])) (by (simp(disch:=omega)only[push_cast,↓zz,seval,ps,pr,pw,pl])) (by (simp(disch:=omega)only[push_cast,↓zz,seval,Af,Aj,Ar,Ax,AO,Au,ps,pr,pw,pl])) ?_)
  rintro y H' ⟨rfl,rfl⟩;refine⟨_,rfl,by simp,?_⟩;(with_reducible repeat'(first|simp (disch:=omega) only[push_cast,↓zz,seval,ps,pr,pw,pl]|apply Aa|refine sp_ ?_ ?_<;>intro hc<;>push_cast at hc|omega|intro _))
  all_goals first|((repeat'(first|(simp(disch:=omega)only[push_cast,↓zz,seval,EP])|omega|(with_reducible refine Aa ?_ ?_)));done)|trace_state
 |false =>
  rw[hfu] at hFu;rw[Ac (show ¬(false=true) by decide),Ae rfl];(with_reducible repeat'(first|simp (disch:=omega) only[push_cast,↓zz,seval,ps,pr,pw,pl]|apply Aa|refine sp_ ?_ ?_<;>intro hc<;>push_cast at hc|omega|intro _))
  (refine Cj [2,3] (hFu) (by decide) (by simp) (by (simp(disch:=omega)only[push_cast,↓zz,seval,ps,pr,pw,pl])) (by (simp(disch:=omega)only[push_cast,↓zz,seval,ps,pr,pw,pl])) (by (simp(disch:=omega)only[push_cast,↓zz,seval,ps,pr,pw,pl])) (by (simp(disch:=omega)only[push_cast,↓zz,seval,Af,Aj,Ar,Ax,AO,Au,ps,pr,pw,pl])) ?_)
  rintro y H' ⟨rfl,rfl⟩;refine⟨_,rfl,by simp,?_⟩;(with_reducible repeat'(first|simp (disch:=omega) only[push_cast,↓zz,seval,ps,pr,pw,pl]|apply Aa|refine sp_ ?_ ?_<;>intro hc<;>push_cast at hc|omega|intro _));refine Dy (W_T ?_);(with_reducible repeat'(first|simp (disch:=omega) only[push_cast,↓zz,seval,ps,pr,pw,pl]|apply Aa|refine sp_ ?_ ?_<;>intro hc<;>push_cast at hc|omega|intro _));refine Dy (W_T ?_);(with_reducible repeat'(first|simp (disch:=omega) only[push_cast,↓zz,seval,ps,pr,pw,pl]|apply Aa|refine sp_ ?_ ?_<;>intro hc<;>push_cast at hc|omega|intro _));refine W_T ?_;(with_reducible repeat'(first|simp (disch:=omega) only[push_cast,↓zz,seval,ps,pr,pw,pl]|apply Aa|refine sp_ ?_ ?_<;>intro hc<;>push_cast at hc|omega|intro _))
  all_goals first|((repeat'(first|(simp(disch:=omega)only[push_cast,↓zz,seval,EP])|omega|(with_reducible refine Aa ?_ ?_)));done)|trace_state
theorem ML(n:Rec)(hf:E0 n)(hc:cntN n<=10000):PC Tryz.prog 18 [recV n] (zbu n):=by
 refine zcv (Sf n hf hc) ?_;unfold zi0 zbu;by_cases h:Jg n=0
 ·rw[Ae h,Ae h]
  refine AV.le_tup (A5 (AV.le_agg ?_) (A5 (AV.le_refl _) Cf));refine A5 (AV.le_refl _) (A5 (AV.le_refl _) (A5 (AV.le_refl _) (A5 (AV.le_refl _) (A5 (AV.le_refl _) (A5 (AV.le_lst rfl (Cr [_]) ?_) Cf)))));exact A5 (AV.le_agg (A5 (AV.le_refl _) (A5 (AV.le_nilS (by decide)) (A5 (AV.le_nilS (by decide)) Cf)))) Cf
 ·rw[Ac h,Ac h]
  exact AV.le_refl _
set_option maxRecDepth 100000
theorem ZJ{c:Int}{gs:List (List Span)}(h4:gs.length<=4)(hc:E8 2 c=true):LZ (Fu c) 2 2 gs=true:=by
 have hb:=U4 hc;refine zbl (x:=c) h4 ?_ hb hc;have hs:Gq c=true:=AJ (by omega);simp only[HU,D7,conT,hs,PV,Gy,JF];simp[YU,Gq];rfl
theorem zbv{s:List Span}{b:Int}(hb:¬(b < -1114111\/1114111<b))(hm:Ew (Fv s b) (domL 2)=[]):LZ (cpyT b) 2 2 [s]=true:=by
 have hsm:Gq b=true:=AJ (by omega);refine (OP (by simp)).2 ⟨?_,λw hw=>?_⟩
 ·simp only[HU,D7,cpyT,hsm,PV,Gy]
  simp[YU,Gq,JF,EC,I6];rfl
 ·obtain⟨x,r,rfl,h1,h2⟩:=win_cons.1 hw
  obtain rfl:=z4i.1 h2;have hx:=((KX s).2 x).1 h1;have hr:EC ⟨0,0,21,0⟩ 1=true:=by decide
  have hv:valP ⟨0,0,21,0⟩ x=x:=(Ox (p:=⟨0,0,21,0⟩) (by decide) (by omega)).2.2
  have hd:memL (domL 2) (x+b):=by
   have hmv:memL (Fv s b) (x+b):=(Xy (by omega)).2 ⟨⟨by rw[Int.add_sub_cancel];exact hx.2,by omega,by omega⟩,by omega,by omega⟩
   exact AS λhn=>by
    have h3:=((LR (Fv s b) (domL 2)).2 (x+b)).2 ⟨hmv,⟨by omega,by omega⟩,hn⟩;rw[hm] at h3;obtain⟨_,h4,_⟩:=h3;cases h4
  have hi:=RH.1 hd;have hbd:=U4 hi;have:=z3u (t:=cpyT b) (p:=⟨0,0,21,0⟩) (x:=x) rfl hr rfl hsm rfl hx.1;have ho:(cpyT b).outer=⟨0,0,21,0⟩:=rfl;have hs:(cpyT b).sum=b:=rfl;have hbs:(cpyT b).base=0:=rfl;have hv2:valP ⟨0,0,21,0⟩ (b+x)=b+x:=(Ox (p:=⟨0,0,21,0⟩) (by decide) (by omega)).2.2;rw[ho,hs,hbs,hv,hv2,Ae (by omega),Int.zero_add,Int.add_comm] at this;rw[fitW,this];simp only[Ab,Ai];exact⟨hbd,hi⟩
def U6(r:Rule):Prop:=GG 2 r.guards=true/\eatB r.guards.length r.eat=true/\(r.out.length<=64/\∀t∈r.out,LZ t 2 2 r.guards=true)
theorem Ic(a c:Int):U6 (CU a c [] []):=⟨rfl,rfl,A4 _,λt ht=>by cases ht⟩
theorem Wg(a c:Int){w:List Int}(hl:w.length<=64)(hw:∀x∈w,E8 2 x=true):U6 (CU a c [] (w.map Fu)):=by
 refine⟨rfl,rfl,by show (w.map Fu).length<=64;rw[Bi];exact hl,λt ht=>?_⟩;have ht:t∈w.map Fu:=ht;obtain⟨x,hx,rfl⟩:=Av.1 ht;exact ZJ (A4 _) (hw x hx)
theorem z69{c:Int}(hc:E8 2 c=true):ET 2 [⟨c,c⟩]=true:=by
 have hb:=U4 hc
 have hm:Ew [⟨c,c⟩] (domL 2)=[]:=by
  refine (ON (λv hv=>?_) (λs hs=>?_)).2 λv hv=>?_
  ·obtain⟨s,hs,h1⟩:=hv
   simp only[An] at hs;subst hs;simp only at h1;omega
  ·simp only[An] at hs
   subst hs;exact BF _
  ·obtain⟨s,hs,h1⟩:=hv
   simp only[An] at hs;subst hs;simp only at h1;obtain rfl:v=c:=by omega
   exact RH.2 hc
 have hk:JG [⟨c,c⟩]=true:=by
  simp only[JG,KZ];simp<;>omega
 simp[ET,hm,hk]
theorem Mc(a c:Int){s:List Span}(hs:ET 2 s=true){out:List Term}(hl:out.length<=64)(ho:∀t∈out,LZ t 2 2 [s]=true):U6 ⟨a,c,[s],1,out⟩ :=
 ⟨by simp[GG,hs],rfl,hl,ho⟩
def Ye(n:Rec):Prop:=∀f S,∀r∈(mkP n f S).1,U6 r
theorem Yf:∀(n:Nat)(w:List Int)(f S:Nat),(∀c∈w,E8 2 c=true)->∀r∈(wrP n w f S).1,U6 r
 |0,w,f,S,hw,r,hr=>by cases hr
 |n+1,w,f,S,hw,r,hr=>by
  rw[wrP] at hr;split at hr
  ·cases hr
  ·rcases Af.1 hr with rfl|hr
   ·exact Wg _ _ (by rw[BG];omega) λc hc=>hw c (By hc)
   ·exact Yf n (w.drop 64) S (S+1) (λc hc=>hw c (BD hc)) r hr
theorem Yg:∀(w:List Int)(f S:Nat),(∀c∈w,E8 2 c=true)->∀r∈(rdP w f S).1,U6 r
 |[],f,S,hw,r,hr=>by cases hr
 |c::w,f,S,hw,r,hr=>by
  rcases Af.1 hr with rfl|hr
  ·rw[Lm _ _ (by simp)]
   exact Mc _ _ (z69 (hw c (by simp))) (A4 _) λt ht=>by cases ht
  ·exact Yg w S (S+1) (λc hc=>hw c (by simp[hc])) r hr
theorem Pd:∀(l:List Rec),(∀n∈l,Ye n)->∀f S,∀r∈(catP l f S).1,U6 r
 |[],_,f,S,r,hr=>by rw[catP] at hr;cases hr
 |n::l,h,f,S,r,hr=>by
  rw[catP] at hr;rcases Am.1 hr with hr|hr
  ·exact h n (by simp) _ _ r hr
  ·exact Pd l (λm hm=>h m (by simp[hm])) _ _ r hr
theorem U7:∀(l:List Rec),(∀n∈l,Ye n)->∀f t S,∀r∈(altP l f t S).1,U6 r
 |[],_,f,t,S,r,hr=>by rw[altP] at hr;cases hr
 |n::l,h,f,t,S,r,hr=>by
  rw[altP] at hr;simp only[Am,Af] at hr;rcases hr with (rfl|hr)|rfl|hr
  ·exact Ic _ _
  ·exact h n (by simp) _ _ r hr
  ·exact Ic _ _
  ·exact U7 l (λm hm=>h m (by simp[hm])) _ _ _ r hr
theorem Yh(n:Rec):∀d,okR n d=true->Ye n:=by
 refine Rec.ind (P:=λn=>∀d,okR n d=true->Ye n) ?_ n;intro k s b r w l ih d h f S q hq;rw[okR,Ab] at h;obtain⟨_,h⟩:=h;rw[mkP] at hq;by_cases h1:k=1
 ·subst h1
  simp only[Int.reduceEq,↓reduceIte,or_self,Ar,BW,BX,B8,Br,BB,Ab,AQ,Ba,Ai] at h hq;have hs:=Ll h.2.1;rw[Lm _ _ hs,An] at hq;subst hq;refine Mc _ _ h.2.1 (by show 1<=64;omega) λt ht=>?_;rw[An] at ht;subst ht;exact zbv h.1 h.2.2
 by_cases h2:k=2
 ·subst h2
  simp only[Int.reduceEq,↓reduceIte,or_self,Ar,BW,BX,B8,Br,BB,Ab,AQ] at h hq;have hs:=Ll h;rw[Lm _ _ hs,An] at hq;subst hq;exact Mc _ _ h (A4 _) λt ht=>by cases ht
 by_cases h3:k=3
 ·subst h3
  simp only[Int.reduceEq,↓reduceIte,or_self,Ar,BW,BX,B8,Br,BB,Ab,AQ] at h hq;rw[AU,AU] at h;rcases Am.1 hq with hq|hq
  ·exact Yf _ _ _ _ h.2 q hq
  ·exact Yg _ _ _ h.1 q hq
 by_cases h5:k=5
 ·subst h5
  simp only[Int.reduceEq,↓reduceIte,or_self,Ar,BW,BX,B8,Br,BB,Ab,AQ] at h hq;exact U7 l (λn hn=>ih n hn _ (Km h n hn)) _ _ _ q hq
 by_cases h6:k=6
 ·subst h6
  simp only[Int.reduceEq,↓reduceIte,or_self,Ar,BW,BX,B8,Br,BB,Ab,AQ] at h hq;rw[zhw] at hq;simp only[Am,Af,Aj,Ar] at hq;rcases hq with ((rfl|rfl)|hq)|rfl|rfl
  ·exact Ic _ _
  ·exact Ic _ _
  ·exact Pd l (λn hn=>ih n hn _ (Km h.1 n hn)) _ _ q hq
  ·exact Ic _ _
  ·exact Ic _ _
 by_cases h4:k=4
 ·subst h4
  simp only[Int.reduceEq,↓reduceIte,or_self,Ar,BW,BX,B8,Br,BB,Ab,AQ] at h hq;exact Pd l (λn hn=>ih n hn _ (Km h n hn)) _ _ q hq
 ·rw[Ac h1,Ac h2,Ac h3,Ac (by omega),Ac h6] at h
  cases h
theorem Md{n:Rec}(h:Jg n=0):okR n 0=true/\G0 (mkM n 0 (1,[])).1=false/\Hh n=⟨2,2,(mkP n 0 1).2.1,0,(mkP n 0 1).1,[⟨(mkP n 0 1).2.2,[],[]⟩]⟩/\(mkP n 0 1).2.1<=1024/\(mkP n 0 1).1.length<=4096:=by
 have h1:okR n 0=true:=by
  cases e:okR n 0
  ·rw[Jg,Ae e] at h;cases h
  ·rfl
 have h2:G0 (mkM n 0 (1,[])).1=false:=by
  cases e:G0 (mkM n 0 (1,[])).1
  ·rfl
  ·rw[Jg,Ac (by rw[h1];simp),Ae e] at h;cases h
 have hl:=zhz n 0 (1,[]) h2;rw[isP] at hl;simp only[List.nil_append] at hl;have hD:Hh n=⟨2,2,(mkP n 0 1).2.1,0,(mkP n 0 1).1,[⟨(mkP n 0 1).2.2,[],[]⟩]⟩:=by rw[Hh,hl]
 rw[hl] at h2;simp only[G0,GD,Bool.or_eq_false_iff,Ba] at h2;exact⟨h1,by rw[hl];simp only[G0,GD,Bool.or_eq_false_iff,Ba];exact h2,hD,by omega,by omega⟩
theorem U8{n:Rec}(h:Jg n=0)(x:List Int):Good x (semR x n) (GH n) 0 1 (mkP n 0 1):=zhy n 0 (Md h).1 0 1 (Nat.lt_succ_self 0)
theorem ZK{n:Rec}(h:Jg n=0):GB (Hh n)=0:=by
 obtain⟨h1,_,hD,h3,h4⟩:=Md h;have hg:=U8 h [];have hm:=hg.mono;have hto:=hg.to_;rw[inP] at hto;have hR:=Yh n 0 h1 0 1;rw[hD];refine (VF ?_ (λr hr=>?_) (λg hf=>?_) ?_).2
 ·simp only[RD,I7,Ab,Ai]
  refine⟨by decide,by decide,by omega,by omega,⟨by omega,by omega⟩,by omega,by simp⟩
 ·obtain⟨a,c,k1,k2,k3,k4,k5⟩:=hg.dom r hr
  obtain⟨p1,p2,p3,p4⟩:=hR r hr;rw[inP] at k3;simp only[La,I7,Iv,Ab,Ai,AU];exact⟨by omega,by omega,p1,p2,by omega,p4⟩
 ·simp only[An] at hf
  subst hf;simp only[Hq,I7,Iv,Ab,Ai];exact⟨by omega,rfl,by decide,rfl⟩
 ·rintro⟨C,hC,j,hj⟩
  have h0:¬C (0:Nat):=λh=>by
   obtain⟨_,r,hr,he,ht,_⟩:=hC _ h;obtain⟨a,c,k1,k2,k3,k4,k5⟩:=hg.dom r hr;omega
  obtain⟨hb,_⟩:=hC j hj;have hc:=(hg.cyc _ _ C hC λr hr c _ _ _=>hr).1;simp only[Int.toNat_natCast] at hb;rcases Nat.eq_zero_or_pos j.toNat with e|e
  ·exact h0 (by rw[show ((0:Nat):Int)=j by omega];exact hj)
  ·refine h0 (hc j.toNat e (by omega) ?_)
   rw[BC hb.1];exact hj
theorem Yi{n:Rec}(h:Jg n=0):Ma (Hh n):=by
 obtain⟨h1,_,hD,h3,h4⟩:=Md h;have hR:=Yh n 0 h1 0 1;rw[hD];refine⟨λr hr t ht=>?_,λf hf t ht=>?_⟩
 ·obtain⟨p1,p2,p3,p4⟩:=hR r hr
  have hb:r.guards.length<=4:=by simp only[GG,Ab,Ai] at p1;omega
  have:=((OP hb).1 (p4 t ht)).1;simp only[HU,D7,Ab,Ai] at this;omega
 ·simp only[An] at hf
  subst hf;cases ht
theorem Yj{n:Rec}(h:Jg n=0)(x w:List Int):RelW (Hh n) x 0 (Hh n).start w↔semR x n 0 x.length w:=by
 obtain⟨h1,_,hD,h3,h4⟩:=Md h;have hg:=U8 h x;rw[hD]
 have hH:Host ⟨2,2,(mkP n 0 1).2.1,0,(mkP n 0 1).1,[⟨(mkP n 0 1).2.2,[],[]⟩]⟩ 0 1 (mkP n 0 1):=by
  refine⟨λr hr=>hr,λr hr a _ _ _=>hr,λg hf a hga _=>?_⟩;simp only[An] at hf;subst hf;simp only at hga;omega
 have hend:∀e v,e<=x.length->(RelW ⟨2,2,(mkP n 0 1).2.1,0,(mkP n 0 1).1,[⟨(mkP n 0 1).2.2,[],[]⟩]⟩ x e ((mkP n 0 1).2.2:Nat) v↔e=x.length/\v=[]):=by
  intro e v he;rw[Iz];constructor
  ·rintro (⟨f,hf,k1,⟨k2,k3⟩,k4⟩|⟨r,hr,k1,k2,v',k3,rfl⟩)
   ·simp only[An] at hf
    subst hf;exact⟨by simpa using k2,k4⟩
   ·obtain⟨a,c,p1,p2,p3,p4,p5⟩:=hg.dom r hr
    exfalso;omega
  ·rintro⟨rfl,rfl⟩
   exact .inl ⟨⟨(mkP n 0 1).2.2,[],[]⟩,by simp,rfl,⟨by simp,by simp[goB]⟩,rfl⟩
 refine Iff.trans (hg.rel _ hH 0 w (A4 _)) ?_;constructor
 ·rintro⟨e,u,v,k1,k2,rfl⟩
  obtain⟨rfl,rfl⟩:=(hend e v (hg.semd _ _ _ k1 (A4 _)).2.1).1 k2;rw[A9];exact k1
 ·intro k1
  exact⟨_,w,[],k1,(hend _ _ (Ad _)).2 ⟨rfl,rfl⟩,(A9 _).symm⟩
set_option maxRecDepth 100000
abbrev exP:Rec:=.mk 3 [] 0 [97] [98,98] []
abbrev exN:Rec:=.mk 6 [] 0 [] [] [exP]
abbrev exM:Rec:=.mk 6 [] 0 [] [] [exN]
theorem Pe:Jg exN=0:=by decide +kernel
theorem zbw:GH exN=true:=by decide +kernel
theorem zm5:okR exM 0=false:=by decide +kernel
theorem Pf{a e:Nat}{u:List Int}:semC [97,97] [exP] a e u↔a<2/\e=a+1/\u=[98,98]:=by
 have hs:semC [97,97] [exP]=seqS (seqS (wrS [98,98]) (seqS (symS [97,97] 97) idS)) idS:=by
  simp only[semC,semR,rdS,Int.reduceEq,↓reduceIte]
 rw[hs];constructor
 ·rintro⟨e1,u1,u2,⟨e2,v1,v2,⟨rfl,rfl⟩,⟨e3,w1,w2,⟨h1,h2,rfl,rfl⟩,⟨rfl,rfl⟩,rfl⟩,rfl⟩,⟨rfl,rfl⟩,rfl⟩
  exact⟨h1,rfl,rfl⟩
 ·rintro⟨h1,rfl,rfl⟩
  refine⟨_,_,[],⟨_,_,[],⟨rfl,rfl⟩,⟨_,[],[],⟨h1,?_,rfl,rfl⟩,⟨rfl,rfl⟩,rfl⟩,rfl⟩,⟨rfl,rfl⟩,rfl⟩;rcases (show a=0\/a=1 by omega) with rfl|rfl<;>rfl
theorem zi1{w:List Int}:semR [97,97] exN 0 2 w↔w=[98,98,98,98]:=by
 have hs:semR [97,97] exN=Star (semC [97,97] [exP]):=by
  conv=>lhs;rw[semR]
  simp only[Int.reduceEq,↓reduceIte]
 rw[hs]
 have h2:∀{a v},a=2->(Star (semC [97,97] [exP]) a 2 v↔v=[]):=by
  intro a v ha;constructor
  ·intro h
   cases h with
   |nil=>rfl
   |cons h1 h2=>have:=(Pf.1 h1).1;omega
  ·rintro rfl;subst ha;exact .nil _
 have h1:∀{a v},a=1->(Star (semC [97,97] [exP]) a 2 v↔v=[98,98]):=by
  intro a v ha;constructor
  ·intro h
   cases h with
   |nil=>omega
   |cons k1 k2 =>
    obtain⟨_,rfl,rfl⟩:=Pf.1 k1;rw[(h2 (by omega)).1 k2];rfl
  ·rintro rfl;subst ha;exact .cons (Pf.2 ⟨by omega,rfl,rfl⟩) ((h2 rfl).2 rfl)
 constructor
 ·intro h
  cases h with
  |cons k1 k2 =>
   obtain⟨_,rfl,rfl⟩:=Pf.1 k1;rw[(h1 (by omega)).1 k2];rfl
 ·rintro rfl
  exact .cons (Pf.2 ⟨by omega,rfl,rfl⟩) ((h1 rfl).2 rfl)
theorem zi2:askV (Hh exN) [97,97]=0:=RY.2 ⟨ZK Pe,by decide,by rw[(Md Pe).2.2.1];decide⟩
theorem zi3:outW (Hh exN) [97,97] 0 (Hh exN).start=[[98,98,98,98]]:=by
 refine z4n ⟨by simp[Ix],λw=>?_⟩;rw[Yj Pe,show ([97,97]:List Int).length=2 from rfl,zi1,An]
abbrev exNV:AV:=.agg [.int .i64 6,.nilS,.int .i64 0,.nilS,.nilS,.lst 6 [.agg [.int .i64 3,.nilS,.int .i64 0,.lst 1 [.int .i32 97],.lst 1 [.int .i32 98,.int .i32 98],.nilS]]]
theorem Wh:AV.le exNV (recV exN):=by
 rw[Ck];refine AV.le_agg (A5 (AV.le_refl _) (A5 (AV.le_nilS (by decide)) (A5 (AV.le_refl _) (A5 (AV.le_nilS (by decide)) (A5 (AV.le_nilS (by decide)) (A5 (AV.le_lst rfl (BO _) ?_) Cf))))));refine A5 ?_ Cf;rw[Ck];exact AV.le_agg (A5 (AV.le_refl _) (A5 (AV.le_nilS (by decide)) (A5 (AV.le_refl _) (A5 (AV.le_refl _) (A5 (AV.le_refl _) (A5 (AV.le_nilS (by decide)) Cf))))))
abbrev exMV:AV:=.agg [.int .i64 6,.nilS,.int .i64 0,.nilS,.nilS,.lst 6 [exNV]]
theorem zi4:AV.le exMV (recV exM):=by
 rw[Ck];refine AV.le_agg (A5 (AV.le_refl _) (A5 (AV.le_nilS (by decide)) (A5 (AV.le_refl _) (A5 (AV.le_nilS (by decide)) (A5 (AV.le_nilS (by decide)) (A5 (AV.le_lst rfl (BO _) (A5 Wh Cf)) Cf))))))
theorem z6a:E0 exM:=by
 refine U1 exM ?_ (by decide +kernel);refine .mk (by simp[i64s];decide) ⟨by decide,λx hx=>by cases hx⟩ ⟨by decide,λx hx=>by cases hx⟩ ⟨by decide,λx hx=>by cases hx⟩ (by decide) λn hn=>?_;rw[An] at hn;subst hn;refine .mk (by simp[i64s];decide) ⟨by decide,λx hx=>by cases hx⟩ ⟨by decide,λx hx=>by cases hx⟩ ⟨by decide,λx hx=>by cases hx⟩ (by decide) λn hn=>?_;rw[An] at hn;subst hn;exact .mk (by simp[i64s];decide) ⟨by decide,λx hx=>by cases hx⟩ ⟨by decide,by decide⟩ ⟨by decide,by decide⟩ (by decide) λn hn=>by cases hn
theorem z6b:E0 exN:=by
 cases z6a with
 |mk hs hr hw hl hch=>exact hch exN (by simp)
theorem Kn:PC Tryz.prog 17 [] (.bool true):=by
 have hC:=Fo (ML exN z6b (by decide +kernel)) (A5 Wh Cf);unfold zbu at hC;rw[Ae Pe,Pe] at hC;have hO:=Jf (Hh exN) [97,97] (Yi Pe) (by decide) (by decide) 2 (by decide) λ_=>AT (FT _ _) (by decide);unfold runA outA at hO;rw[Ac (by simp[zi2]),Ac (by decide),zi3,Ae (by decide)] at hO;have hR:=Fo (J4 exM z6a) (A5 zi4 Cf);have hN:=Fo (U0 exN z6b) (A5 Wh Cf);rw[zm5] at hR;rw[(Md Pe).1,zbw] at hN;have pR:=Ca (Hh exN).rules;have pF:=Cr (Hh exN).finals;generalize Hh exN=D at *;have hrs:JM [98,98,98,98]=[98,98,98,98]:=by decide +kernel
 refine Zu Rf ?_;unfold K6;refine Dy (W_T ?_);(with_reducible repeat'(first|simp (disch:=omega) only[push_cast,↓zz,seval]|apply Aa|refine sp_ ?_ ?_<;>intro hc<;>push_cast at hc|omega|intro _));refine Dy (W_T ?_);(with_reducible repeat'(first|simp (disch:=omega) only[push_cast,↓zz,seval]|apply Aa|refine sp_ ?_ ?_<;>intro hc<;>push_cast at hc|omega|intro _));refine L5 (PZ (l':=[⟨0,2,false,[]⟩,⟨0,2,false,[]⟩,⟨0,2,false,[]⟩,⟨6,1,true,[exNV]⟩]) (g:=3) (d:=8) [0,1,2] (by decide) (by simp) rfl (by decide) ?_ ?_) (Dy (W_T ?_))
 ·(simp(disch:=omega)only[push_cast,↓zz,seval])
 ·rfl
 (with_reducible repeat'(first|simp (disch:=omega) only[push_cast,↓zz,seval,pR,pF]|apply Aa|refine sp_ ?_ ?_<;>intro hc<;>push_cast at hc|refine ee hC ?_|(refine cc hC ?_;(simp(disch:=omega)only[push_cast,↓zz,seval,pR,pF]);(fail_if_success change False))|omega|intro _));refine Dy (W_T ?_);(with_reducible repeat'(first|simp (disch:=omega) only[push_cast,↓zz,seval,pR,pF]|apply Aa|refine sp_ ?_ ?_<;>intro hc<;>push_cast at hc|refine ee hO ?_|(refine cc hO ?_;(simp(disch:=omega)only[push_cast,↓zz,seval,pR,pF]);(fail_if_success change False))|omega|intro _));refine W_T ?_;(with_reducible repeat'(first|simp (disch:=omega) only[push_cast,↓zz,seval,pR,pF,hrs]|apply Aa|refine sp_ ?_ ?_<;>intro hc<;>push_cast at hc|refine ee hR ?_|refine ee hN ?_|((first|refine cc hR ?_|refine cc hN ?_);(simp(disch:=omega)only[push_cast,↓zz,seval,pR,pF,hrs]);(fail_if_success change False))|omega|intro _))
 all_goals
  refine⟨[98,98,98,98],rfl,?_⟩;(with_reducible repeat'(first|simp (disch:=omega) only[push_cast,↓zz,seval,pR,pF,hrs]|apply Aa|refine sp_ ?_ ?_<;>intro hc<;>push_cast at hc|refine ee hR ?_|refine ee hN ?_|((first|refine cc hR ?_|refine cc hN ?_);(simp(disch:=omega)only[push_cast,↓zz,seval,pR,pF,hrs]);(fail_if_success change False))|omega|intro _))
 all_goals trace_state
set_option maxRecDepth 100000
noncomputable def H6 (n:Rec) (x:List Int):Option (List (List Int)) :=
 if Jg n=0/\askV (Hh n) x=0/\(outW (Hh n) x 0 (Hh n).start).length<=200 then some (outW (Hh n) x 0 (Hh n).start) else none
abbrev outsA:Option (List (List Int))->AV
 |none=>.tup [.nilS,.bool false]
 |some l=>.tup [Et l,.bool true]
theorem U9(x:List Int):askV ZI x≠0:=λh=>by
 have:=(RY.1 h).1;revert this;decide +kernel
theorem Sg(n:Rec)(hf:E0 n)(hc:cntN n<=10000)(x:List Int)(hl:x.length<=9223372036854775807)(h32:∀v∈x,-2147483648<=v/\v<=2147483647):PC Tryz.prog 26 [recV n,AD x] (outsA (H6 n x)):=by
 have hC:=ML n hf hc;have hO1:=λh:Jg n=0=>Jf (Hh n) x (Yi h) hl h32 200 (by decide) λ_=>AT (FT _ _) (by decide);have hO2:=Jf ZI x ⟨λr hr=>(by cases hr),λr hr=>(by cases hr)⟩ hl h32 200 (by decide) λ_=>AT (FT _ _) (by decide);unfold runA at hO2;rw[Ae (U9 x)] at hO2;have ha2:=U9 x;generalize askV ZI x=q2 at *;obtain⟨k,s,b,r,w,l,he⟩:∃k s b r w l,n=.mk k s b r w l:=by cases n;exact⟨_,_,_,_,_,_,rfl⟩
 unfold zbu at hC;unfold H6;generalize Jg n=e at *;generalize Hh n=D at *;rw[he,Ck] at *;have ps:=Be s;have pr:AF (r.map (AV.int .i32))=true:=AB .i32 _;have pw:AF (w.map (AV.int .i32))=true:=AB .i32 _;have pX:AF (x.map (AV.int .i32))=true:=AB .i32 _;have pl:=BO l;have pR:=Ca D.rules;have pF:=Cr D.finals;refine Zu NP ?_;unfold IL;refine Dy (W_T ?_);(with_reducible repeat'(first|simp (disch:=omega) only[push_cast,↓zz,seval,ps,pr,pw,pl,pX]|apply Aa|refine sp_ ?_ ?_<;>intro hc<;>push_cast at hc|omega|intro _));refine Dy (W_T ?_);by_cases h0:e=0
 ·subst h0
  have hO1:=hO1 rfl;rw[Ae rfl] at hC;unfold runA outA at hO1;rw[show Int.toNat 200=200 from rfl] at hO1;by_cases h1:askV D x=0
  ·rw[Ac (by simp[h1]),Ac (by decide)] at hO1
   generalize hW:outW D x 0 D.start=W at *;have pW:=B2 W;by_cases h2:W.length<=200
   ·rw[Ae h2] at hO1
    rw[Ae ⟨rfl,h1,h2⟩];(with_reducible repeat'(first|simp (disch:=omega) only[push_cast,↓zz,seval,ps,pr,pw,pl,pX,pR,pF]|apply Aa|refine sp_ ?_ ?_<;>intro hc<;>push_cast at hc|refine ee hC ?_|(refine cc hC ?_;(simp(disch:=omega)only[push_cast,↓zz,seval,ps,pr,pw,pl,pX,pR,pF]);(fail_if_success change False))|omega|intro _));refine Dy (W_T ?_);(with_reducible repeat'(first|simp (disch:=omega) only[push_cast,↓zz,seval,ps,pr,pw,pl,pX,pR,pF]|apply Aa|refine sp_ ?_ ?_<;>intro hc<;>push_cast at hc|refine ee hO1 ?_|(refine cc hO1 ?_;(simp(disch:=omega)only[push_cast,↓zz,seval,ps,pr,pw,pl,pX,pR,pF]);(fail_if_success change False))|omega|intro _));refine W_T ?_;(with_reducible repeat'(first|simp (disch:=omega) only[push_cast,↓zz,seval,pW,pR,pF]|apply Aa|refine sp_ ?_ ?_<;>intro hc<;>push_cast at hc|omega|intro _))
   ·rw[Ac h2] at hO1
    rw[Ac (λh=>h2 h.2.2)];(with_reducible repeat'(first|simp (disch:=omega) only[push_cast,↓zz,seval,ps,pr,pw,pl,pX,pR,pF]|apply Aa|refine sp_ ?_ ?_<;>intro hc<;>push_cast at hc|refine ee hC ?_|(refine cc hC ?_;(simp(disch:=omega)only[push_cast,↓zz,seval,ps,pr,pw,pl,pX,pR,pF]);(fail_if_success change False))|omega|intro _));refine Dy (W_T ?_);(with_reducible repeat'(first|simp (disch:=omega) only[push_cast,↓zz,seval,ps,pr,pw,pl,pX,pR,pF]|apply Aa|refine sp_ ?_ ?_<;>intro hc<;>push_cast at hc|refine ee hO1 ?_|(refine cc hO1 ?_;(simp(disch:=omega)only[push_cast,↓zz,seval,ps,pr,pw,pl,pX,pR,pF]);(fail_if_success change False))|omega|intro _));refine W_T ?_;(with_reducible repeat'(first|simp (disch:=omega) only[push_cast,↓zz,seval,pR,pF]|apply Aa|refine sp_ ?_ ?_<;>intro hc<;>push_cast at hc|omega|intro _))
  ·rw[Ae h1] at hO1
   rw[Ac (λh=>h1 h.2.1)];generalize askV D x=q1 at *;(with_reducible repeat'(first|simp (disch:=omega) only[push_cast,↓zz,seval,ps,pr,pw,pl,pX,pR,pF]|apply Aa|refine sp_ ?_ ?_<;>intro hc<;>push_cast at hc|refine ee hC ?_|(refine cc hC ?_;(simp(disch:=omega)only[push_cast,↓zz,seval,ps,pr,pw,pl,pX,pR,pF]);(fail_if_success change False))|omega|intro _));refine Dy (W_T ?_);(with_reducible repeat'(first|simp (disch:=omega) only[push_cast,↓zz,seval,ps,pr,pw,pl,pX,pR,pF]|apply Aa|refine sp_ ?_ ?_<;>intro hc<;>push_cast at hc|refine ee hO1 ?_|(refine cc hO1 ?_;(simp(disch:=omega)only[push_cast,↓zz,seval,ps,pr,pw,pl,pX,pR,pF]);(fail_if_success change False))|omega|intro _));refine W_T ?_;(with_reducible repeat'(first|simp (disch:=omega) only[push_cast,↓zz,seval,pR,pF,h1]|apply Aa|refine sp_ ?_ ?_<;>intro hc<;>push_cast at hc|omega|intro _))
 ·rw[Ac h0] at hC
  rw[Ac (λh=>h0 h.1)];(with_reducible repeat'(first|simp (disch:=omega) only[push_cast,↓zz,seval,ps,pr,pw,pl,pX,pR,pF]|apply Aa|refine sp_ ?_ ?_<;>intro hc<;>push_cast at hc|refine ee hC ?_|(refine cc hC ?_;(simp(disch:=omega)only[push_cast,↓zz,seval,ps,pr,pw,pl,pX,pR,pF]);(fail_if_success change False))|omega|intro _));refine Dy (W_T ?_);(with_reducible repeat'(first|simp (disch:=omega) only[push_cast,↓zz,seval,ps,pr,pw,pl,pX,pR,pF]|apply Aa|refine sp_ ?_ ?_<;>intro hc<;>push_cast at hc|refine ee hO2 ?_|(refine cc hO2 ?_;(simp(disch:=omega)only[push_cast,↓zz,seval,ps,pr,pw,pl,pX,pR,pF]);(fail_if_success change False))|omega|intro _));refine W_T ?_;(with_reducible repeat'(first|simp (disch:=omega) only[push_cast,↓zz,seval,pR,pF,h0,ha2]|apply Aa|refine sp_ ?_ ?_<;>intro hc<;>push_cast at hc|omega|intro _))
  all_goals trace_state
set_option maxRecDepth 100000
abbrev litR(k:Int)(l:List Rec):Rec:=.mk k [] 0 [] [] l
theorem G6(k:Int)(l:List Rec):cntN (litR k l)=1+cntA l:=by rw[cntN];simp
theorem Gm{k:Int}{l:List Rec}(hl:l.length<=100)(h:∀n∈l,E0 n):E0 (litR k l) :=
 .mk (by decide) ⟨by decide,λx hx=>by cases hx⟩ ⟨by decide,λx hx=>by cases hx⟩ (by omega) h
section
variable {x:List Int}
theorem Pg{s t:Sem}(h:∀a e u,s a e u↔t a e u):s=t:=by
 funext a e u;exact propext (h a e u)
theorem zm6(s:Sem):seqS s idS=s:=Pg λa e u=>by
 constructor
 ·rintro⟨e1,u1,u2,h1,⟨rfl,rfl⟩,rfl⟩;rw[A9];exact h1
 ·intro h;exact⟨e,u,[],h,⟨rfl,rfl⟩,(A9 _).symm⟩
theorem z6c(s t r:Sem):seqS (seqS s t) r=seqS s (seqS t r):=Pg λa e u=>by
 constructor
 ·rintro⟨e1,u1,u2,⟨e2,v1,v2,h1,h2,rfl⟩,h3,rfl⟩;exact⟨e2,v1,v2++u2,h1,⟨e1,v2,u2,h2,h3,rfl⟩,Az _ _ _⟩
 ·rintro⟨e1,u1,_,h1,⟨e2,v1,v2,h2,h3,rfl⟩,rfl⟩;exact⟨e2,u1++v1,v2,⟨e1,u1,v1,h1,h2,rfl⟩,h3,(Az _ _ _).symm⟩
theorem Jh(l:List Rec):semR x (litR 4 l)=semC x l:=by
 conv=>lhs;rw[semR]
 rfl
theorem Si(l:List Rec):semR x (litR 5 l)=semA x l:=by
 conv=>lhs;rw[semR]
 rfl
theorem zbx(l:List Rec):semR x (litR 6 l)=Star (semC x l):=by
 conv=>lhs;rw[semR]
 rfl
theorem zm7(a:Rec):semC x [a]=semR x a:=by rw[semC,semC,zm6]
theorem ZL(a b:Rec):semC x [a,b]=seqS (semR x a) (semR x b):=by rw[semC,zm7]
theorem zm8(a b c:Rec):semC x [a,b,c]=seqS (semR x a) (seqS (semR x b) (semR x c)):=by rw[semC,ZL]
theorem zby(a b:Rec):semA x [a,b]=orS (semR x a) (semR x b):=by
 rw[semA,semA,semA];exact Pg λa e u=>by simp[orS,noS]
theorem Wi(s:Sem):Star s=orS idS (seqS s (Star s)):=Pg λa e u=>by
 constructor
 ·intro h
  cases h with
  |nil=>exact .inl ⟨rfl,rfl⟩
  |cons h1 h2=>exact .inr ⟨_,_,_,h1,h2,rfl⟩
 ·rintro (⟨rfl,rfl⟩|⟨e1,u1,u2,h1,h2,rfl⟩)
  ·exact .nil _
  ·exact .cons h1 h2
theorem zbz(a b c:Rec):semR x (litR 4 [litR 4 [a,b],c])=semR x (litR 4 [a,b,c]):=by
 rw[Jh,Jh,ZL,zm8,Jh,ZL,z6c]
theorem z6d(a b c:Rec):semR x (litR 4 [a,litR 4 [b,c]])=semR x (litR 4 [a,b,c]):=by
 rw[Jh,Jh,ZL,zm8,Jh,ZL]
theorem z6e(a:Rec):semR x (litR 5 [litR 4 [],litR 4 [a,litR 6 [a]]])=semR x (litR 6 [a]):=by
 rw[Si,zby,Jh,Jh,ZL,zbx,zm7,show semC x []=idS by rw[semC],<-Wi]
end
theorem FN{n:Rec}{x:List Int}{l:List (List Int)}(h:H6 n x=some l):l.length<=200/\Ix l/\(∀w,w∈l↔semR x n 0 x.length w)/\∀w∈l,w.length<=100000000:=by
 unfold H6 at h;split at h
 ·rename_i hh
  obtain⟨h1,h2,h3⟩:=hh;obtain rfl:=Cp h;obtain⟨m,hk⟩:=XY h2;obtain⟨k1,k2⟩:=Uz hk (A4 _) hk.start;exact⟨h3,k1,λw=>(k2 w).trans (Yj h1 x w),λw hw=>AT (z5q hk hw) (by decide)⟩
 ·cases h
theorem Ln{n m:Rec}{x:List Int}{l l':List (List Int)}(hs:semR x n=semR x m)(h:H6 n x=some l)(h':H6 m x=some l'):l=l':=by
 obtain⟨_,h1,h2,_⟩:=FN h;obtain⟨_,h3,h4,_⟩:=FN h';exact Nj h1 h3 λw=>by rw[h2,h4,hs]
theorem zc0{a b:Rec}{x:List Int}{l m o:List (List Int)}(h1:H6 a x=some l)(h2:H6 b x=some m)(h3:H6 (litR 5 [a,b]) x=some o):o=Hg (l++m):=by
 obtain⟨_,k1,k2,_⟩:=FN h3;refine (Nl k1 λw=>?_).symm;rw[k2,Am,(FN h1).2.2.1,(FN h2).2.2.1,Si,zby];exact FP
theorem zc1{x:List Int}(a b:Rec):semR x (litR 5 [a,b])=semR x (litR 5 [b,a]):=by
 rw[Si,Si,zby,zby];exact Pg λa e u=>Or.comm
theorem Sj:∀{l:List Rec}{d:Int},okL l d=true↔∀n∈l,okR n d=true
 |[],d=>by simp[okL]
 |a::l,d=>by rw[okL,Ab,Sj];simp
theorem zi5(n:Rec):∀d d':Int,d'<=d->okR n d=true->okR n d'=true:=by
 refine Rec.ind (P:=λn=>∀d d':Int,d'<=d->okR n d=true->okR n d'=true) ?_ n;intro k s b r w l ih d d' hd h;have hL:okL l (d+1)=true->okL l (d'+1)=true:=λh=>Sj.2 λm hm=>ih m hm (d+1) (d'+1) (by omega) (Sj.1 h m hm);rw[okR,Ab,AQ,Ba] at h ⊢;refine⟨by omega,?_⟩;have h:=h.2;by_cases h1:k=1
 ·rw[Ae h1] at h ⊢;exact h
 by_cases h2:k=2
 ·rw[Ac h1,Ae h2] at h ⊢;exact h
 by_cases h3:k=3
 ·rw[Ac h1,Ac h2,Ae h3] at h ⊢;exact h
 rw[Ac h1,Ac h2,Ac h3] at h ⊢;by_cases h4:k=4\/k=5
 ·rw[Ae h4] at h ⊢;exact hL h
 rw[Ac h4] at h ⊢;by_cases h6:k=6
 ·rw[Ae h6,Ab] at h ⊢;exact⟨hL h.1,h.2⟩
 ·rw[Ac h6] at h;cases h
theorem ZM(a:Rec):(okR (litR 6 [a]) 0 == (okR a 0&&!(okR a 0&&GH a)&&okR (litR 6 [a]) 0))=true:=by
 cases h:okR (litR 6 [a]) 0 with
 |false=>rw[C9];rfl
 |true =>
  have h0:=h;rw[okR,Ab,Ac (by decide),Ac (by decide),Ac (by decide),Ac (by decide),Ae rfl,Ab] at h;have h1:=zi5 a 1 0 (by decide) (Sj.1 h.2.1 a (by simp))
  have h2:GH a=false:=by
   have:=h.2.2;simpa [Fg] using this
  rw[h1,h2];rfl
set_option maxRecDepth 100000
set_option maxRecDepth 100000
theorem zc2(a b:List Int)(hl:a.length<=1000000000):PC Tryz.prog 132 [AD a,AD b] (.int .i64 (C6 a b)):=by
 have pa:AF (a.map (AV.int .i32))=true:=AB .i32 _;have pb:AF (b.map (AV.int .i32))=true:=AB .i32 _;refine Cg Ro ?_;unfold KF;(with_reducible repeat'(first|simp (disch:=omega) only[push_cast,↓zz,seval]|apply Aa|refine sp_ ?_ ?_<;>intro hc<;>push_cast at hc|omega|intro _))
 refine Bs (B5 (λ(k:Nat)=>k<=a.length/\k<=b.length/\C6 a b=k+C6 (a.drop k) (b.drop k)) (λk=>a.length-k)
  (λk=>[(0,AD a),(1,AD b),(5,.int .i64 k)]) (λs=>[]) (λenv _=>[]) 0 (by simp) ?_ ?_)
 ·(with_reducible repeat'(first|simp (disch:=omega) only[push_cast,↓zz,seval,pa,pb]|apply Aa|refine sp_ ?_ ?_<;>intro hc<;>push_cast at hc|omega|intro _))
 rintro k ⟨hk,hkb,hr⟩;refine W_T ?_;by_cases h:k<a.length/\k<b.length/\nth a k=nth b k
 ·obtain⟨h1,h2,h3⟩:=h
  have hs:=Q2 h1 h2 h3;(with_reducible repeat'(first|simp (disch:=omega) only[push_cast,↓zz,seval,pa,pb,h3]|apply Aa|refine sp_ ?_ ?_<;>intro hc<;>push_cast at hc|omega|intro _))
  all_goals
   refine⟨k+1,?_⟩;(with_reducible repeat'(first|simp (disch:=omega) only[push_cast,↓zz,seval,pa,pb]|apply Aa|refine sp_ ?_ ?_<;>intro hc<;>push_cast at hc|omega|intro _))
  all_goals first|omega|trace_state
 ·have hs:=Q3 h
  rw[hs] at hr;by_cases h1:k<a.length
  ·by_cases h2:k<b.length
   ·have h3:¬nth a k=nth b k:=λe=>h ⟨h1,h2,e⟩
    (with_reducible repeat'(first|simp (disch:=omega) only[push_cast,↓zz,seval,pa,pb,h3]|apply Aa|refine sp_ ?_ ?_<;>intro hc<;>push_cast at hc|omega|intro _))
    all_goals first|omega|trace_state
   ·(with_reducible repeat'(first|simp (disch:=omega) only[push_cast,↓zz,seval,pa,pb]|apply Aa|refine sp_ ?_ ?_<;>intro hc<;>push_cast at hc|omega|intro _))
    all_goals first|omega|trace_state
  ·(with_reducible repeat'(first|simp (disch:=omega) only[push_cast,↓zz,seval,pa,pb]|apply Aa|refine sp_ ?_ ?_<;>intro hc<;>push_cast at hc|omega|intro _))
   all_goals first|omega|trace_state
theorem QA(a b:List Int)(ha:a.length<=1000000000)(hb:b.length<=1000000000):PC Tryz.prog 96 [AD a,AD b] (.int .i64 (cmpL a b)):=by
 have pa:AF (a.map (AV.int .i32))=true:=AB .i32 _;have pb:AF (b.map (AV.int .i32))=true:=AB .i32 _;have hF:=zc2 a b ha;have hfl:=RQ a b
 have hst:C6 a b<a.length->C6 a b<b.length->¬nth a (C6 a b)=nth b (C6 a b):=λh1 h2 e=>by
  have key:∀(a b:List Int),C6 a b<a.length->C6 a b<b.length->nth a (C6 a b)=nth b (C6 a b)->False:=λa=>by
   induction a with
   |nil=>intro b h;simp at h
   |cons y l ih =>
    intro b h1 h2 he;cases b with
    |nil=>simp at h2
    |cons z m =>
     rw[C6] at h1 h2 he;split at h1
     ·rename_i hyz
      rw[Ae hyz] at h2 he;exact ih m (by simpa using h1) (by simpa using h2) (by simpa [K2] using he)
     ·rename_i hyz
      rw[Ac hyz] at he;exact hyz he
  exact key a b h1 h2 e
 rw[OY];generalize C6 a b=f at *;refine Cg Ob ?_;unfold IQ;by_cases h1:f=a.length
 ·by_cases h2:f=b.length
  ·rw[Ae ⟨h1,h2⟩]
   (with_reducible repeat'(first|simp (disch:=omega) only[push_cast,↓zz,seval,pa,pb]|apply Aa|refine sp_ ?_ ?_<;>intro hc<;>push_cast at hc|refine ee hF ?_|(refine cc hF ?_;(simp(disch:=omega)only[push_cast,↓zz,seval,pa,pb]);(fail_if_success change False))|omega|intro _))
   all_goals first|omega|trace_state
  ·rw[Ac (λh=>h2 h.2),Ae h1]
   (with_reducible repeat'(first|simp (disch:=omega) only[push_cast,↓zz,seval,pa,pb]|apply Aa|refine sp_ ?_ ?_<;>intro hc<;>push_cast at hc|refine ee hF ?_|(refine cc hF ?_;(simp(disch:=omega)only[push_cast,↓zz,seval,pa,pb]);(fail_if_success change False))|omega|intro _))
   all_goals first|omega|trace_state
 ·rw[Ac (λh=>h1 h.1),Ac h1]
  by_cases h2:f=b.length
  ·rw[Ae h2]
   (with_reducible repeat'(first|simp (disch:=omega) only[push_cast,↓zz,seval,pa,pb]|apply Aa|refine sp_ ?_ ?_<;>intro hc<;>push_cast at hc|refine ee hF ?_|(refine cc hF ?_;(simp(disch:=omega)only[push_cast,↓zz,seval,pa,pb]);(fail_if_success change False))|omega|intro _))
   all_goals first|omega|trace_state
  ·rw[Ac h2]
   have hne:=hst (by omega) (by omega);by_cases h3:nth a f<nth b f
   ·rw[Ae h3]
    (with_reducible repeat'(first|simp (disch:=omega) only[push_cast,↓zz,seval,pa,pb]|apply Aa|refine sp_ ?_ ?_<;>intro hc<;>push_cast at hc|refine ee hF ?_|(refine cc hF ?_;(simp(disch:=omega)only[push_cast,↓zz,seval,pa,pb]);(fail_if_success change False))|omega|intro _))
    all_goals first|omega|trace_state
   ·rw[Ac h3,Ae (by omega)]
    (with_reducible repeat'(first|simp (disch:=omega) only[push_cast,↓zz,seval,pa,pb]|apply Aa|refine sp_ ?_ ?_<;>intro hc<;>push_cast at hc|refine ee hF ?_|(refine cc hF ?_;(simp(disch:=omega)only[push_cast,↓zz,seval,pa,pb]);(fail_if_success change False))|omega|intro _))
    all_goals first|omega|trace_state
theorem z6f{w:List Int}:∀{l:List (List Int)}{lo:Nat},Ix l->lo<=l.length->(∀i,i<lo->ltW (nth l i) w=true)->(∀i,lo<=i->i<l.length->ltW (nth l i) w=false) ->
 (lo<l.length/\nth l lo=w->insU w l=l)/\(¬(lo<l.length/\nth l lo=w)->insU w l=l.take lo++w::l.drop lo)
 |[],lo,_,hlo,_,_=>by
  obtain rfl:lo=0:=by simpa using hlo
  exact⟨λh=>absurd h.1 (by simp),λ_=>rfl⟩
 |a::l,0,hs,_,_,h2=>by
  have h:=h2 0 (Ad _) (by simp);rw[QV] at h;refine⟨λ⟨_,e⟩=>?_,λhn=>?_⟩
  ·rw[QV] at e
   subst e;rw[insU,Ac (by rw[FB];simp),Ac (by rw[FB];simp)]
  ·have hne:¬a=w:=λe=>hn ⟨by simp,e⟩
   have hlt:ltW w a=true:=by
    cases hh:ltW w a with
    |true=>rfl
    |false=>exact absurd (HW _ _ h hh) hne
   rw[insU,Ae hlt];rfl
 |a::l,lo+1,hs,hlo,h1,h2=>by
  have h:=h1 0 (by omega);rw[QV] at h
  have hn:ltW w a=false:=by
   cases hh:ltW w a with
   |false=>rfl
   |true=>have:=GC _ _ _ h hh;rw[FB] at this;cases this
  have hs2:Ix l:=by rw[Ix,AM] at hs;exact hs.2
  obtain⟨k1,k2⟩:=z6f (w:=w) (l:=l) (lo:=lo) hs2 (by simpa using hlo) (λi hi=>by have:=h1 (i+1) (by omega);rwa [K2] at this) (λi hi hl=>by have:=h2 (i+1) (by omega) (by simpa using hl);rwa [K2] at this);have e:insU w (a::l)=a::insU w l:=by rw[insU,Ac (by rw[hn];simp),Ae h]
  rw[K2,e];refine⟨λ⟨c1,c2⟩=>by rw[k1 ⟨by simpa using c1,c2⟩],λc=>by rw[k2 λc'=>c ⟨by simpa using c'.1,c'.2⟩];rfl⟩
def insK(l:List (List Int))(w:List Int)(lo:Nat):Nat->List (List Int)
 |0=>[]
 |k+1=>(if k=lo then insK l w lo k++[w] else insK l w lo k)++[nth l k]
theorem z6g{l:List (List Int)}{w:List Int}{lo:Nat}(hlo:lo<=l.length):∀k,k<=l.length->insK l w lo k=if lo<k then l.take lo++w::(l.take k).drop lo else l.take k
 |0,_=>by simp[insK]
 |k+1,hk=>by
  have ih:=z6g (l:=l) (w:=w) hlo k (by omega);rw[insK,ih,take_at (by omega)];by_cases h1:lo<k
  ·rw[Ae h1,Ac (by omega),Ae (by omega),CW (by simp;omega)]
   simp
  ·rw[Ac h1]
   by_cases h2:k=lo
   ·subst h2
    rw[Ae rfl,Ae (by omega),CW (by simp;omega),As (by rw[BG];omega)];simp
   ·rw[Ac h2,Ac (by omega)]
theorem Sk{l:List (List Int)}{w:List Int}{lo:Nat}:∀k,(insK l w lo k).length<=k+1/\(k<=lo->(insK l w lo k).length=k)
 |0=>by simp[insK]
 |k+1=>by
  have ih:=Sk (l:=l) (w:=w) (lo:=lo) k;rw[insK];split
  ·rename_i h
   refine⟨?_,λh2=>by omega⟩;have:=ih.2 (by omega);simp;omega
  ·refine⟨by simp;omega,λh2=>by have:=ih.2 (by omega);simp;omega⟩
theorem zda(l:List (List Int))(w:List Int)(hl:l.length<=1000000000)(hlw:∀v∈l,v.length<=1000000000)(hw:w.length<=1000000000)(hs:Ix l):PC Tryz.prog 58 [Et l,AD w] (Et (insU w l)):=by
 have pW:=B2 l;have pw:AF (w.map (AV.int .i32))=true:=AB .i32 _;refine Cg Ve ?_;unfold NT;(with_reducible repeat'(first|simp (disch:=omega) only[push_cast,↓zz,seval,pW,pw]|apply Aa|refine sp_ ?_ ?_<;>intro hc<;>push_cast at hc|omega|intro _))
 refine Bs (B5 (λ(q:Nat × Nat)=>(q.1<=q.2/\q.2<=l.length)/\Hold ((∀i,i<q.1->ltW (nth l i) w=true)/\∀i,q.2<=i->i<l.length->ltW (nth l i) w=false)) (λq=>q.2-q.1)
  (λq=>[(0,Et l),(1,AD w),(5,.int .i64 q.1),(6,.int .i64 q.2)]) (λ_=>[]) (λ_ _=>[]) (0,l.length) ⟨⟨A4 _,Ad _⟩,⟨λi hi=>absurd hi (AZ _),λi h1 h2=>by omega⟩⟩ ?_ ?_)
 ·(with_reducible repeat'(first|simp (disch:=omega) only[push_cast,↓zz,seval,pW,pw]|apply Aa|refine sp_ ?_ ?_<;>intro hc<;>push_cast at hc|omega|intro _))
 rintro⟨lo,hi⟩ ⟨⟨h1,h2⟩,⟨hlt,hge⟩⟩;simp only at h1 h2 hlt hge ⊢;rcases Ak lo hi with hlh|hlh
 ·obtain⟨k,hk⟩:∃k,k=(lo+hi) / 2:=⟨_,rfl⟩
  have hkl:k<l.length:=by omega
  have hq:((lo:Int)+(hi:Int)).tdiv 2=(k:Int):=by rw[Int.tdiv_eq_ediv_of_nonneg (by omega),hk];omega
  have hmem:=Bo hkl;have hC:=QA (nth l k) w (hlw _ hmem) hw
  have hmono:∀i j,i<j->j<l.length->ltW (nth l i) (nth l j)=true:=λi j hij hj=>by
   rw[Gi hj,Gi (by omega)];exact Cs.1 hs i j (by omega) hj hij
  by_cases hc:cmpL (nth l k) w<0
  ·have hltk:=(Ut _ _).1 hc
   have hA:Hold ((∀i,i<k+1->ltW (nth l i) w=true)/\∀i,hi<=i->i<l.length->ltW (nth l i) w=false):=⟨λi hik=>by
    rcases Ak i k with h|h
    ·exact GC _ _ _ (hmono i k h hkl) hltk
    ·obtain rfl:i=k:=by omega
     exact hltk,hge⟩
   clear hlt hge hmono;generalize cmpL (nth l k) w=c at *;generalize hwe:nth l k=v at *;have pv:AF (v.map (AV.int .i32))=true:=AB .i32 _;refine W_T ?_;(with_reducible repeat'(first|simp (disch:=omega) only[push_cast,↓zz,seval,pW,pw,hq,hwe,pv]|apply Aa|refine sp_ ?_ ?_<;>intro hc<;>push_cast at hc|refine ee hC ?_|(refine cc hC ?_;(simp(disch:=omega)only[push_cast,↓zz,seval,pW,pw,hq,hwe,pv]);(fail_if_success change False))|omega|intro _));exact⟨(k+1,hi),⟨by simp,rfl⟩,⟨⟨by omega,h2⟩,hA⟩,by simp only;omega⟩
  ·have hltk:ltW (nth l k) w=false:=by
    cases hh:ltW (nth l k) w with
    |false=>rfl
    |true=>exact absurd ((Ut _ _).2 hh) hc
   have hA:Hold ((∀i,i<lo->ltW (nth l i) w=true)/\∀i,k<=i->i<l.length->ltW (nth l i) w=false):=⟨hlt,λi hik hil=>by
    rcases Ak k i with h|h
    ·cases hh:ltW (nth l i) w with
     |false=>rfl
     |true=>have:=GC _ _ _ (hmono k i h hil) hh;rw[hltk] at this;cases this
    ·obtain rfl:i=k:=by omega
     exact hltk⟩
   clear hlt hge hmono;generalize cmpL (nth l k) w=c at *;generalize hwe:nth l k=v at *;have pv:AF (v.map (AV.int .i32))=true:=AB .i32 _;refine W_T ?_;(with_reducible repeat'(first|simp (disch:=omega) only[push_cast,↓zz,seval,pW,pw,hq,hwe,pv]|apply Aa|refine sp_ ?_ ?_<;>intro hc<;>push_cast at hc|refine ee hC ?_|(refine cc hC ?_;(simp(disch:=omega)only[push_cast,↓zz,seval,pW,pw,hq,hwe,pv]);(fail_if_success change False))|omega|intro _));exact⟨(lo,k),⟨rfl,rfl⟩,⟨⟨by omega,by omega⟩,hA⟩,by simp only;omega⟩
 ·obtain rfl:lo=hi:=by omega
  obtain⟨k1,k2⟩:=z6f (w:=w) hs h2 hlt hge;clear hlt hge;have hC:=λh=>QA (nth l lo) w (hlw _ (Bo (l:=l) (i:=lo) h)) hw;have hz:=RR (nth l lo) w;by_cases hin:lo<l.length/\nth l lo=w
  ·rw[k1 hin]
   have hC:=hC hin.1;rw[hz.2 hin.2] at hC;have hlo:=hin.1;generalize hwe:nth l lo=v at *;have pv:AF (v.map (AV.int .i32))=true:=AB .i32 _;refine W_T ?_;(with_reducible repeat'(first|simp (disch:=omega) only[push_cast,↓zz,seval,pW,pw,hwe,pv]|apply Aa|refine sp_ ?_ ?_<;>intro hc<;>push_cast at hc|refine ee hC ?_|(refine cc hC ?_;(simp(disch:=omega)only[push_cast,↓zz,seval,pW,pw,hwe,pv]);(fail_if_success change False))|omega|intro _))
  ·rw[k2 hin]
   have hfin:insK l w lo l.length++(if lo=l.length then [w] else [])=l.take lo++w::l.drop lo:=by
    rw[z6g h2 _ (Ad _)];by_cases h:lo<l.length
    ·rw[Ae h,Ac (by omega),A9,A6]
    ·rw[Ac h,Ae (by omega),A6,Ay (by omega),As (by omega)]
   rw[<-hfin];refine W_T ?_;have hil:=Sk (l:=l) (w:=w) (lo:=lo);rcases Ak lo l.length with hlo|hlo
   focus
    have hC:=hC hlo;have hnz:¬cmpL (nth l lo) w=0:=λh=>hin ⟨hlo,hz.1 h⟩;clear hz k1 k2 hin hfin hil;generalize cmpL (nth l lo) w=c at *;generalize hwe:nth l lo=v at *;have pv:AF (v.map (AV.int .i32))=true:=AB .i32 _;(with_reducible repeat'(first|simp (disch:=omega) only[push_cast,↓zz,seval,pW,pw,hwe,pv,hnz]|apply Aa|refine sp_ ?_ ?_<;>intro hc<;>push_cast at hc|refine ee hC ?_|(refine cc hC ?_;(simp(disch:=omega)only[push_cast,↓zz,seval,pW,pw,hwe,pv,hnz]);(fail_if_success change False))|omega|intro _))
   rotate_left
   focus
    clear hz k1 k2 hin hfin hC hil;(with_reducible repeat'(first|simp (disch:=omega) only[push_cast,↓zz,seval,pW,pw]|apply Aa|refine sp_ ?_ ?_<;>intro hc<;>push_cast at hc|omega|intro _))
   all_goals
    have hil:=Sk (l:=l) (w:=w) (lo:=lo);refine Bs (B5 (λ(k:Nat)=>k<=l.length) (λk=>l.length-k) (λk=>[(0,Et l),(1,AD w),(5,.int .i64 lo),(8,.ref 0 1 0 (insK l w lo k).length),(9,.int .i64 k)]) (λk=>[⟨1,1,false,(insK l w lo k).map AD⟩]) (λenv _=>[Dp 1 (env 8)]) 0 (A4 _) ?_ ?_)
    ·have e0:insK l w lo 0=[]:=rfl
     (with_reducible repeat'(first|simp (disch:=omega) only[push_cast,↓zz,seval,pW,pw,e0]|apply Aa|refine sp_ ?_ ?_<;>intro hc<;>push_cast at hc|omega|intro _))
    intro k hk;have hAl:=(hil k).1;rcases Ak k l.length with hkl|hkl
    ·by_cases hkq:k=lo
     ·subst hkq
      have e1:insK l w k (k+1)=(insK l w k k++[w])++[nth l k]:=by rw[insK,Ae rfl]
      generalize insK l w k k=A at *;generalize hue:nth l k=u at *;have pA:=B2 A;have pu:AF (u.map (AV.int .i32))=true:=AB .i32 _;refine W_T ?_;(with_reducible repeat'(first|simp (disch:=omega) only[push_cast,↓zz,seval,pW,pw,pA,pu,hue]|apply Aa|refine sp_ ?_ ?_<;>intro hc<;>push_cast at hc|omega|intro _))
      all_goals
       refine⟨k+1,?_⟩;(with_reducible repeat'(first|simp (disch:=omega) only[push_cast,↓zz,seval,pW,pw,pA,pu,e1]|apply Aa|refine sp_ ?_ ?_<;>intro hc<;>push_cast at hc|omega|intro _))
     ·have e1:insK l w lo (k+1)=insK l w lo k++[nth l k]:=by rw[insK,Ac hkq]
      generalize insK l w lo k=A at *;generalize hue:nth l k=u at *;have pA:=B2 A;have pu:AF (u.map (AV.int .i32))=true:=AB .i32 _;refine W_T ?_;(with_reducible repeat'(first|simp (disch:=omega) only[push_cast,↓zz,seval,pW,pw,pA,pu,hkq,hue]|apply Aa|refine sp_ ?_ ?_<;>intro hc<;>push_cast at hc|omega|intro _))
      all_goals
       refine⟨k+1,?_⟩;(with_reducible repeat'(first|simp (disch:=omega) only[push_cast,↓zz,seval,pW,pw,pA,pu,e1]|apply Aa|refine sp_ ?_ ?_<;>intro hc<;>push_cast at hc|omega|intro _))
    ·obtain rfl:k=l.length:=by omega
     generalize insK l w lo l.length=A at *;have pA:=B2 A;have tA:List.take (A.length+1) (A.map AD++[AD w])=A.map AD++[AD w]:=Ay (by simp);refine W_T ?_;by_cases hlq:lo=l.length
     ·rw[Ae hlq]
      (with_reducible repeat'(first|simp (disch:=omega) only[push_cast,↓zz,seval,pW,pw,pA,hlq,tA]|apply Aa|refine sp_ ?_ ?_<;>intro hc<;>push_cast at hc|omega|intro _))
     ·rw[Ac hlq,A9]
      (with_reducible repeat'(first|simp (disch:=omega) only[push_cast,↓zz,seval,pW,pw,pA,hlq]|apply Aa|refine sp_ ?_ ?_<;>intro hc<;>push_cast at hc|omega|intro _))
      all_goals trace_state
def putL(o l:List (List Int)):List (List Int):=l.foldl (λo w=>insU w o) o
theorem UA{o l:List (List Int)}{k:Nat}(h:k<l.length):putL o (l.take (k+1))=insU (nth l k) (putL o (l.take k)):=by
 rw[putL,putL,take_at h,CL];rfl
theorem Ph:∀(l:List (List Int)){o:List (List Int)},Ix o->Ix (putL o l)/\(∀w,w∈putL o l↔w∈o\/w∈l)/\(putL o l).length<=o.length+l.length
 |[],o,h=>⟨h,λw=>by simp[putL],Ad _⟩
 |a::l,o,h=>by
  obtain⟨h1,h2,h3⟩:=Ph l (o:=insU a o) (OR a h);refine⟨h1,λw=>?_,?_⟩
  ·show w∈putL (insU a o) l↔_
   rw[h2,Nk,Af];constructor
   ·rintro ((h|h)|h)
    ·exact .inr (.inl h)
    ·exact .inl h
    ·exact .inr (.inr h)
   ·rintro (h|h|h)
    ·exact .inl (.inr h)
    ·exact .inl (.inl h)
    ·exact .inr h
  ·have:=RJ a o
   show (putL (insU a o) l).length<=_;rw[List.length_cons];omega
theorem z6h(a b:List (List Int)):putL (putL [] a) b=Hg (a++b):=by
 obtain⟨h1,h2,_⟩:=Ph a (o:=[]) List.Pairwise.nil;obtain⟨k1,k2,_⟩:=Ph b h1;exact (Nl k1 λw=>by rw[k2,h2,Am];simp).symm
theorem zi6(a b:List (List Int))(ha:a.length<=400000000)(hb:b.length<=400000000)(hwa:∀v∈a,v.length<=1000000000)(hwb:∀v∈b,v.length<=1000000000):PC Tryz.prog 27 [Et a,Et b] (Et (Hg (a++b))):=by
 rw[<-z6h];have pWa:=B2 a;have pWb:=B2 b;refine Cg To ?_;unfold Ml;(with_reducible repeat'(first|simp (disch:=omega) only[push_cast,↓zz,seval,pWa,pWb]|apply Aa|refine sp_ ?_ ?_<;>intro hc<;>push_cast at hc|omega|intro _));refine Bs (B5 (λ(k:Nat)=>k<=a.length) (λk=>a.length-k) (λk=>[(0,Et a),(1,Et b),(5,Et (putL [] (a.take k))),(6,.int .i64 k)]) (λ_=>[]) (λ_ _=>[]) 0 (A4 _) ?_ ?_)
 ·have e0:putL [] []=[]:=rfl
  (with_reducible repeat'(first|simp (disch:=omega) only[push_cast,↓zz,seval,pWa,pWb,e0,AA]|apply Aa|refine sp_ ?_ ?_<;>intro hc<;>push_cast at hc|omega|intro _))
 intro k hk;obtain⟨s1,s2,s3⟩:=Ph (a.take k) (o:=[]) List.Pairwise.nil;rcases Ak k a.length with hkl|hkl
 ·have hP:=zda (putL [] (a.take k)) (nth a k) (by simp at s3;omega) (λv hv=>by
   rcases (s2 v).1 hv with h|h
   ·cases h
   ·exact hwa v (By h)) (hwa _ (Bo hkl)) s1
  rw[<-UA hkl] at hP;clear s1 s2 s3;generalize putL [] (a.take k)=A at *;generalize hue:nth a k=u at *;have pA:=B2 A;have pA1:=B2 (putL [] (a.take (k+1)));have pu:AF (u.map (AV.int .i32))=true:=AB .i32 _;generalize hA1:putL [] (a.take (k+1))=A1 at *;refine W_T ?_;(with_reducible repeat'(first|simp (disch:=omega) only[push_cast,↓zz,seval,pWa,pWb,pA,pu,hue]|apply Aa|refine sp_ ?_ ?_<;>intro hc<;>push_cast at hc|refine ee hP ?_|(refine cc hP ?_;(simp(disch:=omega)only[push_cast,↓zz,seval,pWa,pWb,pA,pu,hue]);(fail_if_success change False))|omega|intro _))
  all_goals
   refine⟨k+1,?_⟩;(with_reducible repeat'(first|simp (disch:=omega) only[push_cast,↓zz,seval,pWa,pWb,pA1,hA1]|apply Aa|refine sp_ ?_ ?_<;>intro hc<;>push_cast at hc|omega|intro _))
 ·obtain rfl:k=a.length:=by omega
  rw[A6] at *;have hpl:(putL [] a).length<=400000000:=by simp at s3;omega
  obtain⟨o,ho⟩:∃o,o=putL [] a:=⟨_,rfl⟩;have hso:Ix o:=by rw[ho];exact s1
  have hwo:∀v∈o,v.length<=1000000000:=λv hv=>by
   rw[ho] at hv;rcases (s2 v).1 hv with h|h
   ·cases h
   ·exact hwa v h
  have hpo:o.length<=400000000:=by rw[ho];exact hpl
  rw[<-ho];clear s1 s2 s3 ho hpl;have po:=B2 o;refine W_T ?_;(with_reducible repeat'(first|simp (disch:=omega) only[push_cast,↓zz,seval,pWa,pWb,po]|apply Aa|refine sp_ ?_ ?_<;>intro hc<;>push_cast at hc|omega|intro _));refine Bs (B5 (λ(k:Nat)=>k<=b.length) (λk=>b.length-k) (λk=>[(1,Et b),(5,Et (putL o (b.take k))),(7,.int .i64 k)]) (λ_=>[]) (λ_ _=>[]) 0 (A4 _) ?_ ?_)
  ·have e0:putL o []=o:=rfl
   (with_reducible repeat'(first|simp (disch:=omega) only[push_cast,↓zz,seval,pWb,po,e0]|apply Aa|refine sp_ ?_ ?_<;>intro hc<;>push_cast at hc|omega|intro _))
  intro k hk;obtain⟨s1,s2,s3⟩:=Ph (b.take k) (o:=o) hso;rcases Ak k b.length with hkl|hkl
  ·have hP:=zda (putL o (b.take k)) (nth b k) (by simp at s3;omega) (λv hv=>by
    rcases (s2 v).1 hv with h|h
    ·exact hwo v h
    ·exact hwb v (By h)) (hwb _ (Bo hkl)) s1
   rw[<-UA hkl] at hP;clear s1 s2 s3;generalize putL o (b.take k)=A at *;generalize hue:nth b k=u at *;have pA:=B2 A;have pA1:=B2 (putL o (b.take (k+1)));have pu:AF (u.map (AV.int .i32))=true:=AB .i32 _;generalize hA1:putL o (b.take (k+1))=A1 at *;refine W_T ?_;(with_reducible repeat'(first|simp (disch:=omega) only[push_cast,↓zz,seval,pWb,pA,pu,hue]|apply Aa|refine sp_ ?_ ?_<;>intro hc<;>push_cast at hc|refine ee hP ?_|(refine cc hP ?_;(simp(disch:=omega)only[push_cast,↓zz,seval,pWb,pA,pu,hue]);(fail_if_success change False))|omega|intro _))
   all_goals
    refine⟨k+1,?_⟩;(with_reducible repeat'(first|simp (disch:=omega) only[push_cast,↓zz,seval,pWb,pA1,hA1]|apply Aa|refine sp_ ?_ ?_<;>intro hc<;>push_cast at hc|omega|intro _))
  ·obtain rfl:k=b.length:=by omega
   rw[A6] at *;have pA:=B2 (putL o b);refine W_T ?_;(with_reducible repeat'(first|simp (disch:=omega) only[push_cast,↓zz,seval,pWb,pA]|apply Aa|refine sp_ ?_ ?_<;>intro hc<;>push_cast at hc|omega|intro _))
   all_goals trace_state
set_option maxRecDepth 100000
abbrev litV(k:Int)(l:List Rec):AV:=.agg [.int .i64 k,.nilS,.int .i64 0,.nilS,.nilS,.lst 6 (l.map recV)]
theorem z6i(k:Int)(l:List Rec):AV.le (litV k l) (recV (litR k l)):=by
 rw[Ck];exact AV.le_agg (A5 (AV.le_refl _) (A5 (AV.le_nilS (by decide)) (A5 (AV.le_refl _) (A5 (AV.le_nilS (by decide)) (A5 (AV.le_nilS (by decide)) (A5 (AV.le_refl _) Cf))))))
theorem GQ(n:Rec)(hf:E0 n)(hc:cntN n<=10000)(x:List Int)(hl:x.length<=9223372036854775807)(h32:∀v∈x,-2147483648<=v/\v<=2147483647):PC Tryz.prog 26 [recV n,AD x] (.tup [Et ((H6 n x).getD []),.bool (H6 n x).isSome]):=by
 have h:=Sg n hf hc x hl h32;generalize H6 n x=o at *;cases o with
 |none=>exact zcv h (AV.le_tup (A5 (AV.le_nilS (by decide)) (A5 (AV.le_refl _) Cf)))
 |some l=>exact h
theorem UB(a b:Rec)(ha:IW a)(hb:IW b)(x:List Int)(hl:x.length<=9223372036854775807)(h32:∀v∈x,-2147483648<=v/\v<=2147483647):PC Tryz.prog 5 [recV a,recV b,AD x] (.bool true):=by
 have hSa:=Ib a ha;have hSb:=Ib b hb;have hA:=Kn;have hOa:=λh=>GQ a (Ch ha h) (by have:=Dh h;omega) x hl h32;have hOb:=λh=>GQ b (Ch hb h) (by have:=Dh h;omega) x hl h32;have hO1:=λ(h1:EU a=true) (h2:EU b=true)=>Fo (GQ (litR 5 [a,b]) (Gm (by simp) (by simp;exact⟨Ch ha h1,Ch hb h2⟩)) (by rw[G6];have:=Dh h1;have:=Dh h2;simp only[cntA];omega) x hl h32) (A5 (z6i 5 [a,b]) (A5 (AV.le_refl _) Cf));have hO2:=λ(h1:EU a=true) (h2:EU b=true)=>Fo (GQ (litR 5 [b,a]) (Gm (by simp) (by simp;exact⟨Ch hb h2,Ch ha h1⟩)) (by rw[G6];have:=Dh h1;have:=Dh h2;simp only[cntA];omega) x hl h32) (A5 (z6i 5 [b,a]) (A5 (AV.le_refl _) Cf));have e1:=λl m o=>zc0 (a:=a) (b:=b) (x:=x) (l:=l) (m:=m) (o:=o);have e2:=λl m=>Ln (n:=litR 5 [a,b]) (m:=litR 5 [b,a]) (x:=x) (l:=l) (l':=m) (zc1 a b);have e3:=λl=>FN (n:=a) (x:=x) (l:=l);have e4:=λl=>FN (n:=b) (x:=x) (l:=l);have e5:=λl=>FN (n:=litR 5 [a,b]) (x:=x) (l:=l);simp only[litV,A7,AA] at hO1 hO2;generalize H6 a x=oa at *;generalize H6 b x=ob at *;generalize H6 (litR 5 [a,b]) x=o1 at *;generalize H6 (litR 5 [b,a]) x=o2 at *;generalize EU a=ca at *;generalize EU b=cb at *;have pa:=IV a;have pb:=IV b;have pX:AF (x.map (AV.int .i32))=true:=AB .i32 _;obtain⟨k,s,y,r,w,l,he⟩:∃k s y r w l,a=.mk k s y r w l:=by cases a;exact⟨_,_,_,_,_,_,rfl⟩
 obtain⟨k',s',y',r',w',l',he'⟩:∃k s y r w l,b=.mk k s y r w l:=by cases b;exact⟨_,_,_,_,_,_,rfl⟩
 have va:recV a=.agg [.int .i64 k,Bc s,.int .i64 y,AD r,AD w,.lst 6 (l.map recV)]:=by rw[he,Ck]
 have vb:recV b=.agg [.int .i64 k',Bc s',.int .i64 y',AD r',AD w',.lst 6 (l'.map recV)]:=by rw[he',Ck]
 simp only[va,vb] at hSa hSb hOa hOb hO1 hO2 ⊢;have ps:=Be s;have pr:AF (r.map (AV.int .i32))=true:=AB .i32 _;have pw:AF (w.map (AV.int .i32))=true:=AB .i32 _;have pl:=BO l;have ps':=Be s';have pr':AF (r'.map (AV.int .i32))=true:=AB .i32 _;have pw':AF (w'.map (AV.int .i32))=true:=AB .i32 _;have pl':=BO l';refine Zu MP ?_;unfold I2;refine Dy (W_T ?_);(with_reducible repeat'(first|simp (disch:=omega) only[push_cast,↓zz,seval,ps,pr,pw,pl,ps',pr',pw',pl',pX]|apply Aa|refine sp_ ?_ ?_<;>intro hc<;>push_cast at hc|omega|intro _));refine Dy (W_T ?_);cases ca with
 |false =>
  (with_reducible repeat'(first|simp (disch:=omega) only[push_cast,↓zz,seval,ps,pr,pw,pl,ps',pr',pw',pl',pX]|apply Aa|refine sp_ ?_ ?_<;>intro hc<;>push_cast at hc|refine ee hSa ?_|refine ee hSb ?_|refine ee hA ?_|((first|refine cc hSa ?_|refine cc hSb ?_|refine cc hA ?_);(simp(disch:=omega)only[push_cast,↓zz,seval,ps,pr,pw,pl,ps',pr',pw',pl',pX]);(fail_if_success change False))|omega|intro _))
 |true =>
 cases cb with
 |false =>
  (with_reducible repeat'(first|simp (disch:=omega) only[push_cast,↓zz,seval,ps,pr,pw,pl,ps',pr',pw',pl',pX]|apply Aa|refine sp_ ?_ ?_<;>intro hc<;>push_cast at hc|refine ee hSa ?_|refine ee hSb ?_|refine ee hA ?_|((first|refine cc hSa ?_|refine cc hSb ?_|refine cc hA ?_);(simp(disch:=omega)only[push_cast,↓zz,seval,ps,pr,pw,pl,ps',pr',pw',pl',pX]);(fail_if_success change False))|omega|intro _))
 |true =>
 have hOa:=hOa rfl;have hOb:=hOb rfl;have hO1:=hO1 rfl rfl;have hO2:=hO2 rfl rfl;by_cases hx:10<x.length
 ·(with_reducible repeat'(first|simp (disch:=omega) only[push_cast,↓zz,seval,ps,pr,pw,pl,ps',pr',pw',pl',pX]|apply Aa|refine sp_ ?_ ?_<;>intro hc<;>push_cast at hc|refine ee hSa ?_|refine ee hSb ?_|refine ee hA ?_|((first|refine cc hSa ?_|refine cc hSb ?_|refine cc hA ?_);(simp(disch:=omega)only[push_cast,↓zz,seval,ps,pr,pw,pl,ps',pr',pw',pl',pX]);(fail_if_success change False))|omega|intro _))
  all_goals first|omega|trace_state
 ·(with_reducible repeat'(first|simp (disch:=omega) only[push_cast,↓zz,seval,ps,pr,pw,pl,ps',pr',pw',pl',pX]|apply Aa|refine sp_ ?_ ?_<;>intro hc<;>push_cast at hc|refine ee hSa ?_|refine ee hSb ?_|refine ee hA ?_|((first|refine cc hSa ?_|refine cc hSb ?_|refine cc hA ?_);(simp(disch:=omega)only[push_cast,↓zz,seval,ps,pr,pw,pl,ps',pr',pw',pl',pX]);(fail_if_success change False))|omega|intro _))
  generalize hv1:oa.getD []=v1 at *;generalize hv2:ob.getD []=v2 at *;generalize hv3:o1.getD []=v3 at *;generalize hv4:o2.getD []=v4 at *;have po1:=B2 v1;have po2:=B2 v2;have po3:=B2 v3;have po4:=B2 v4;generalize hb1:oa.isSome=b1 at *;generalize hb2:ob.isSome=b2 at *;generalize hb3:o1.isSome=b3 at *;generalize hb4:o2.isSome=b4 at *;refine Dy (W_T ?_);(with_reducible repeat'(first|simp (disch:=omega) only[push_cast,↓zz,seval,ps,pr,pw,pl,ps',pr',pw',pl',pX,po1]|apply Aa|refine sp_ ?_ ?_<;>intro hc<;>push_cast at hc|refine ee hOa ?_|(refine cc hOa ?_;(simp(disch:=omega)only[push_cast,↓zz,seval,ps,pr,pw,pl,ps',pr',pw',pl',pX,po1]);(fail_if_success change False))|omega|intro _));refine Dy (W_T ?_);(with_reducible repeat'(first|simp (disch:=omega) only[push_cast,↓zz,seval,ps,pr,pw,pl,ps',pr',pw',pl',pX,po1,po2]|apply Aa|refine sp_ ?_ ?_<;>intro hc<;>push_cast at hc|refine ee hOb ?_|(refine cc hOb ?_;(simp(disch:=omega)only[push_cast,↓zz,seval,ps,pr,pw,pl,ps',pr',pw',pl',pX,po1,po2]);(fail_if_success change False))|omega|intro _));refine Dy (W_T ?_);(with_reducible repeat'(first|simp (disch:=omega) only[push_cast,↓zz,seval,ps,pr,pw,pl,ps',pr',pw',pl',pX,po1,po2,po3]|apply Aa|refine sp_ ?_ ?_<;>intro hc<;>push_cast at hc|refine ee hO1 ?_|(refine cc hO1 ?_;(simp(disch:=omega)only[push_cast,↓zz,seval,ps,pr,pw,pl,ps',pr',pw',pl',pX,po1,po2,po3]);(fail_if_success change False))|omega|intro _));refine Dy (W_T ?_);(with_reducible repeat'(first|simp (disch:=omega) only[push_cast,↓zz,seval,ps,pr,pw,pl,ps',pr',pw',pl',pX,po1,po2,po3,po4]|apply Aa|refine sp_ ?_ ?_<;>intro hc<;>push_cast at hc|refine ee hO2 ?_|(refine cc hO2 ?_;(simp(disch:=omega)only[push_cast,↓zz,seval,ps,pr,pw,pl,ps',pr',pw',pl',pX,po1,po2,po3,po4]);(fail_if_success change False))|omega|intro _));refine Dy (W_T ?_);cases oa with
  |none =>
   obtain rfl:false=b1:=hb1;(with_reducible repeat'(first|simp (disch:=omega) only[push_cast,↓zz,seval,po1,po2,po3,po4]|apply Aa|refine sp_ ?_ ?_<;>intro hc<;>push_cast at hc|refine ee hA ?_|(refine cc hA ?_;(simp(disch:=omega)only[push_cast,↓zz,seval,po1,po2,po3,po4]);(fail_if_success change False))|omega|intro _))
   all_goals first|omega|trace_state
  |some la =>
  cases ob with
  |none =>
   obtain rfl:true=b1:=hb1;obtain rfl:false=b2:=hb2;(with_reducible repeat'(first|simp (disch:=omega) only[push_cast,↓zz,seval,po1,po2,po3,po4]|apply Aa|refine sp_ ?_ ?_<;>intro hc<;>push_cast at hc|refine ee hA ?_|(refine cc hA ?_;(simp(disch:=omega)only[push_cast,↓zz,seval,po1,po2,po3,po4]);(fail_if_success change False))|omega|intro _))
   all_goals first|omega|trace_state
  |some lb =>
  cases o1 with
  |none =>
   obtain rfl:true=b1:=hb1;obtain rfl:true=b2:=hb2;obtain rfl:false=b3:=hb3;(with_reducible repeat'(first|simp (disch:=omega) only[push_cast,↓zz,seval,po1,po2,po3,po4]|apply Aa|refine sp_ ?_ ?_<;>intro hc<;>push_cast at hc|refine ee hA ?_|(refine cc hA ?_;(simp(disch:=omega)only[push_cast,↓zz,seval,po1,po2,po3,po4]);(fail_if_success change False))|omega|intro _))
   all_goals first|omega|trace_state
  |some l1 =>
  cases o2 with
  |none =>
   obtain rfl:true=b1:=hb1;obtain rfl:true=b2:=hb2;obtain rfl:true=b3:=hb3;obtain rfl:false=b4:=hb4;(with_reducible repeat'(first|simp (disch:=omega) only[push_cast,↓zz,seval,po1,po2,po3,po4]|apply Aa|refine sp_ ?_ ?_<;>intro hc<;>push_cast at hc|refine ee hA ?_|(refine cc hA ?_;(simp(disch:=omega)only[push_cast,↓zz,seval,po1,po2,po3,po4]);(fail_if_success change False))|omega|intro _))
   all_goals first|omega|trace_state
  |some l2 =>
  obtain rfl:true=b1:=hb1;obtain rfl:true=b2:=hb2;obtain rfl:true=b3:=hb3;obtain rfl:true=b4:=hb4;obtain rfl:la=v1:=hv1;obtain rfl:lb=v2:=hv2;obtain rfl:l1=v3:=hv3;obtain rfl:l2=v4:=hv4;obtain⟨a1,_,_,a4⟩:=e3 la rfl;obtain⟨b1,_,_,b4⟩:=e4 lb rfl;obtain⟨c1,_,_,c4⟩:=e5 l1 rfl;have hM:=F3 l1 l2 (by omega) (λw hw=>by have:=c4 w hw;omega);have hB:=zi6 la lb (by omega) (by omega) (λw hw=>by have:=a4 w hw;omega) (λw hw=>by have:=b4 w hw;omega);have hN:=F3 l1 (Hg (la++lb)) (by omega) (λw hw=>by have:=c4 w hw;omega);rw[AJ (e2 l1 l2 rfl rfl)] at hM;rw[AJ (e1 la lb l1 rfl rfl rfl)] at hN;have pb:=B2 (Hg (la++lb));generalize Hg (la++lb)=ls at *;(with_reducible repeat'(first|simp (disch:=omega) only[push_cast,↓zz,seval,po1,po2,po3,po4]|apply Aa|refine sp_ ?_ ?_<;>intro hc<;>push_cast at hc|omega|intro _));refine W_T ?_;(with_reducible repeat'(first|simp (disch:=omega) only[push_cast,↓zz,seval,po1,po2,po3,po4,pb]|apply Aa|refine sp_ ?_ ?_<;>intro hc<;>push_cast at hc|refine ee hM ?_|refine ee hB ?_|refine ee hN ?_|refine ee hA ?_|((first|refine cc hM ?_|refine cc hB ?_|refine cc hN ?_|refine cc hA ?_);(simp(disch:=omega)only[push_cast,↓zz,seval,po1,po2,po3,po4,pb]);(fail_if_success change False))|omega|intro _))
  all_goals first|omega|trace_state
set_option maxRecDepth 100000
theorem Ji{k:Int}{xs:List AV}{l:List Rec}(hn:xs.length=l.length)(h:leL xs (l.map recV)):AV.le (.agg [.int .i64 k,.nilS,.int .i64 0,.nilS,.nilS,.lst 6 xs]) (recV (litR k l)):=by
 rw[Ck];exact AV.le_agg (A5 (AV.le_refl _) (A5 (AV.le_nilS (by decide)) (A5 (AV.le_refl _) (A5 (AV.le_nilS (by decide)) (A5 (AV.le_nilS (by decide)) (A5 (AV.le_lst (by rw[Bi];exact hn) (BO _) h) Cf))))))
theorem cKg{P:Program}{f:Nat}{xs ys:List AV}{y:AV}{l:List Grp}{K:AV->A3->Prop}(ks:List Nat)(h:PC P f ys y)(hh:okA 4 ((Abs.hl l).only ks) xs/\leSL [] (frA 4 ((Abs.hl l).only ks) xs) ys/\AF ys=true/\@nx y (Abs.hl (Er 0 ks l)) ⟨K⟩):@MN P f xs (Abs.hl l) ⟨K⟩:=by
 obtain⟨h1,h2,h3,h4⟩:=hh;exact Lx 4 ks (Lz h1) (FJ (IH h2) (Hj h h3 h4))
theorem UC(a b c:Rec)(ha:IW a)(hb:IW b)(hc:IW c)(x:List Int)(hl:x.length<=9223372036854775807)(h32:∀v∈x,-2147483648<=v/\v<=2147483647):PC Tryz.prog 6 [recV a,recV b,recV c,AD x] (.bool true):=by
 have hSa:=Ib a ha;have hSb:=Ib b hb;have hSc:=Ib c hc;have hA:=Kn;have hO1:=λ(h1:EU a=true) (h2:EU b=true) (h3:EU c=true)=>Fo (GQ (litR 4 [a,b,c]) (Gm (by simp) (by simp;exact⟨Ch ha h1,Ch hb h2,Ch hc h3⟩)) (by rw[G6];have:=Dh h1;have:=Dh h2;have:=Dh h3;simp only[cntA];omega) x hl h32) (A5 (Ji (k:=4) (xs:=[recV a,recV b,recV c]) (l:=[a,b,c]) rfl (A5 (AV.le_refl _) (A5 (AV.le_refl _) (A5 (AV.le_refl _) Cf)))) (A5 (AV.le_refl _) Cf));have hO2:=λ(h1:EU a=true) (h2:EU b=true) (h3:EU c=true)=>Fo (GQ (litR 4 [litR 4 [a,b],c]) (Gm (by simp) (by simp;exact⟨Gm (by simp) (by simp;exact⟨Ch ha h1,Ch hb h2⟩),Ch hc h3⟩)) (by rw[G6];have:=Dh h1;have:=Dh h2;have:=Dh h3;simp only[cntA,G6];omega) x hl h32) (A5 (Ji (k:=4) (l:=[litR 4 [a,b],c]) rfl (A5 (Ji (k:=4) (xs:=[recV a,recV b]) (l:=[a,b]) rfl (A5 (AV.le_refl _) (A5 (AV.le_refl _) Cf))) (A5 (AV.le_refl (recV c)) Cf))) (A5 (AV.le_refl _) Cf));have hO3:=λ(h1:EU a=true) (h2:EU b=true) (h3:EU c=true)=>Fo (GQ (litR 4 [a,litR 4 [b,c]]) (Gm (by simp) (by simp;exact⟨Ch ha h1,Gm (by simp) (by simp;exact⟨Ch hb h2,Ch hc h3⟩)⟩)) (by rw[G6];have:=Dh h1;have:=Dh h2;have:=Dh h3;simp only[cntA,G6];omega) x hl h32) (A5 (Ji (k:=4) (l:=[a,litR 4 [b,c]]) rfl (A5 (AV.le_refl (recV a)) (A5 (Ji (k:=4) (xs:=[recV b,recV c]) (l:=[b,c]) rfl (A5 (AV.le_refl _) (A5 (AV.le_refl _) Cf))) Cf))) (A5 (AV.le_refl _) Cf));have e2:=λl m=>Ln (x:=x) (l:=l) (l':=m) (zbz a b c);have e3:=λl m=>Ln (x:=x) (l:=l) (l':=m) (z6d a b c);have e5:=λl=>FN (n:=litR 4 [a,b,c]) (x:=x) (l:=l);generalize H6 (litR 4 [a,b,c]) x=o1 at *;generalize H6 (litR 4 [litR 4 [a,b],c]) x=o2 at *;generalize H6 (litR 4 [a,litR 4 [b,c]]) x=o3 at *;generalize EU a=ca at *;generalize EU b=cb at *;generalize EU c=cc at *;have pX:AF (x.map (AV.int .i32))=true:=AB .i32 _;obtain⟨k,s,y,r,w,l,he⟩:∃k s y r w l,a=.mk k s y r w l:=by cases a;exact⟨_,_,_,_,_,_,rfl⟩
 obtain⟨k',s',y',r',w',l',he'⟩:∃k s y r w l,b=.mk k s y r w l:=by cases b;exact⟨_,_,_,_,_,_,rfl⟩
 obtain⟨k'',s'',y'',r'',w'',l'',he''⟩:∃k s y r w l,c=.mk k s y r w l:=by cases c;exact⟨_,_,_,_,_,_,rfl⟩
 have va:recV a=.agg [.int .i64 k,Bc s,.int .i64 y,AD r,AD w,.lst 6 (l.map recV)]:=by rw[he,Ck]
 have vb:recV b=.agg [.int .i64 k',Bc s',.int .i64 y',AD r',AD w',.lst 6 (l'.map recV)]:=by rw[he',Ck]
 have vc:recV c=.agg [.int .i64 k'',Bc s'',.int .i64 y'',AD r'',AD w'',.lst 6 (l''.map recV)]:=by rw[he'',Ck]
 simp only[va,vb,vc] at hSa hSb hSc hO1 hO2 hO3 ⊢;have ps:=Be s;have pr:AF (r.map (AV.int .i32))=true:=AB .i32 _;have pw:AF (w.map (AV.int .i32))=true:=AB .i32 _;have pl:=BO l;have ps':=Be s';have pr':AF (r'.map (AV.int .i32))=true:=AB .i32 _;have pw':AF (w'.map (AV.int .i32))=true:=AB .i32 _;have pl':=BO l';have ps'':=Be s'';have pr'':AF (r''.map (AV.int .i32))=true:=AB .i32 _;have pw'':AF (w''.map (AV.int .i32))=true:=AB .i32 _;have pl'':=BO l'';refine Zu MQ ?_;unfold I3;refine Dy (W_T ?_);(with_reducible repeat'(first|simp (disch:=omega) only[push_cast,↓zz,seval,ps,pr,pw,pl,ps',pr',pw',pl',ps'',pr'',pw'',pl'',pX]|apply Aa|refine sp_ ?_ ?_<;>intro hc<;>push_cast at hc|omega|intro _));refine Dy (W_T ?_);cases ca with
 |false =>
  (with_reducible repeat'(first|simp (disch:=omega) only[push_cast,↓zz,seval,ps,pr,pw,pl,ps',pr',pw',pl',ps'',pr'',pw'',pl'',pX]|apply Aa|refine sp_ ?_ ?_<;>intro hc<;>push_cast at hc|refine ee hSa ?_|refine ee hSb ?_|refine ee hSc ?_|refine ee hA ?_|((first|refine cc hSa ?_|refine cc hSb ?_|refine cc hSc ?_|refine cc hA ?_);(simp(disch:=omega)only[push_cast,↓zz,seval,ps,pr,pw,pl,ps',pr',pw',pl',ps'',pr'',pw'',pl'',pX]);(fail_if_success change False))|omega|intro _))
 |true =>
 cases cb with
 |false =>
  (with_reducible repeat'(first|simp (disch:=omega) only[push_cast,↓zz,seval,ps,pr,pw,pl,ps',pr',pw',pl',ps'',pr'',pw'',pl'',pX]|apply Aa|refine sp_ ?_ ?_<;>intro hc<;>push_cast at hc|refine ee hSa ?_|refine ee hSb ?_|refine ee hSc ?_|refine ee hA ?_|((first|refine cc hSa ?_|refine cc hSb ?_|refine cc hSc ?_|refine cc hA ?_);(simp(disch:=omega)only[push_cast,↓zz,seval,ps,pr,pw,pl,ps',pr',pw',pl',ps'',pr'',pw'',pl'',pX]);(fail_if_success change False))|omega|intro _))
 |true =>
 cases cc with
 |false =>
  (with_reducible repeat'(first|simp (disch:=omega) only[push_cast,↓zz,seval,ps,pr,pw,pl,ps',pr',pw',pl',ps'',pr'',pw'',pl'',pX]|apply Aa|refine sp_ ?_ ?_<;>intro hc<;>push_cast at hc|refine ee hSa ?_|refine ee hSb ?_|refine ee hSc ?_|refine ee hA ?_|((first|refine cc hSa ?_|refine cc hSb ?_|refine cc hSc ?_|refine cc hA ?_);(simp(disch:=omega)only[push_cast,↓zz,seval,ps,pr,pw,pl,ps',pr',pw',pl',ps'',pr'',pw'',pl'',pX]);(fail_if_success change False))|omega|intro _))
 |true =>
 have hO1:=hO1 rfl rfl rfl;have hO2:=hO2 rfl rfl rfl;have hO3:=hO3 rfl rfl rfl;by_cases hx:10<x.length
 ·(with_reducible repeat'(first|simp (disch:=omega) only[push_cast,↓zz,seval,ps,pr,pw,pl,ps',pr',pw',pl',ps'',pr'',pw'',pl'',pX]|apply Aa|refine sp_ ?_ ?_<;>intro hc<;>push_cast at hc|refine ee hSa ?_|refine ee hSb ?_|refine ee hSc ?_|refine ee hA ?_|((first|refine cc hSa ?_|refine cc hSb ?_|refine cc hSc ?_|refine cc hA ?_);(simp(disch:=omega)only[push_cast,↓zz,seval,ps,pr,pw,pl,ps',pr',pw',pl',ps'',pr'',pw'',pl'',pX]);(fail_if_success change False))|omega|intro _))
  all_goals first|omega|trace_state
 ·(with_reducible repeat'(first|simp (disch:=omega) only[push_cast,↓zz,seval,ps,pr,pw,pl,ps',pr',pw',pl',ps'',pr'',pw'',pl'',pX]|apply Aa|refine sp_ ?_ ?_<;>intro hc<;>push_cast at hc|refine ee hSa ?_|refine ee hSb ?_|refine ee hSc ?_|refine ee hA ?_|((first|refine cc hSa ?_|refine cc hSb ?_|refine cc hSc ?_|refine cc hA ?_);(simp(disch:=omega)only[push_cast,↓zz,seval,ps,pr,pw,pl,ps',pr',pw',pl',ps'',pr'',pw'',pl'',pX]);(fail_if_success change False))|omega|intro _))
  generalize hv1:o1.getD []=v1 at *;generalize hv2:o2.getD []=v2 at *;generalize hv3:o3.getD []=v3 at *;have po1:=B2 v1;have po2:=B2 v2;have po3:=B2 v3;generalize hb1:o1.isSome=b1 at *;generalize hb2:o2.isSome=b2 at *;generalize hb3:o3.isSome=b3 at *;refine Dy (W_T ?_);(with_reducible repeat'(first|simp (disch:=omega) only[push_cast,↓zz,seval,ps,pr,pw,pl,ps',pr',pw',pl',ps'',pr'',pw'',pl'',pX,po1]|apply Aa|refine sp_ ?_ ?_<;>intro hc<;>push_cast at hc|refine ee hO1 ?_|(refine cc hO1 ?_;(simp(disch:=omega)only[push_cast,↓zz,seval,ps,pr,pw,pl,ps',pr',pw',pl',ps'',pr'',pw'',pl'',pX,po1]);(fail_if_success change False))|omega|intro _));refine Dy (W_T ?_);(with_reducible repeat'(first|simp (disch:=omega) only[push_cast,↓zz,seval,ps,pr,pw,pl,ps',pr',pw',pl',ps'',pr'',pw'',pl'',pX,po1,po2]|apply Aa|refine sp_ ?_ ?_<;>intro hc<;>push_cast at hc|omega|intro _));refine cKg [4,5] hO2 ?_;(with_reducible repeat'(first|simp (disch:=omega) only[push_cast,↓zz,seval,ps,pr,pw,pl,ps',pr',pw',pl',ps'',pr'',pw'',pl'',pX,po1,po2]|apply Aa|refine sp_ ?_ ?_<;>intro hc<;>push_cast at hc|omega|intro _));refine Dy (W_T ?_);(with_reducible repeat'(first|simp (disch:=omega) only[push_cast,↓zz,seval,ps,pr,pw,pl,ps',pr',pw',pl',ps'',pr'',pw'',pl'',pX,po1,po2,po3]|apply Aa|refine sp_ ?_ ?_<;>intro hc<;>push_cast at hc|omega|intro _));refine cKg [6,7] hO3 ?_;(with_reducible repeat'(first|simp (disch:=omega) only[push_cast,↓zz,seval,ps,pr,pw,pl,ps',pr',pw',pl',ps'',pr'',pw'',pl'',pX,po1,po2,po3]|apply Aa|refine sp_ ?_ ?_<;>intro hc<;>push_cast at hc|omega|intro _));refine Dy (W_T ?_);cases o1 with
  |none =>
   obtain rfl:false=b1:=hb1;(with_reducible repeat'(first|simp (disch:=omega) only[push_cast,↓zz,seval,po1,po2,po3]|apply Aa|refine sp_ ?_ ?_<;>intro hc<;>push_cast at hc|refine ee hA ?_|(refine cc hA ?_;(simp(disch:=omega)only[push_cast,↓zz,seval,po1,po2,po3]);(fail_if_success change False))|omega|intro _))
   all_goals first|omega|trace_state
  |some l1 =>
  cases o2 with
  |none =>
   obtain rfl:true=b1:=hb1;obtain rfl:false=b2:=hb2;(with_reducible repeat'(first|simp (disch:=omega) only[push_cast,↓zz,seval,po1,po2,po3]|apply Aa|refine sp_ ?_ ?_<;>intro hc<;>push_cast at hc|refine ee hA ?_|(refine cc hA ?_;(simp(disch:=omega)only[push_cast,↓zz,seval,po1,po2,po3]);(fail_if_success change False))|omega|intro _))
   all_goals first|omega|trace_state
  |some l2 =>
  cases o3 with
  |none =>
   obtain rfl:true=b1:=hb1;obtain rfl:true=b2:=hb2;obtain rfl:false=b3:=hb3;(with_reducible repeat'(first|simp (disch:=omega) only[push_cast,↓zz,seval,po1,po2,po3]|apply Aa|refine sp_ ?_ ?_<;>intro hc<;>push_cast at hc|refine ee hA ?_|(refine cc hA ?_;(simp(disch:=omega)only[push_cast,↓zz,seval,po1,po2,po3]);(fail_if_success change False))|omega|intro _))
   all_goals first|omega|trace_state
  |some l3 =>
  obtain rfl:true=b1:=hb1;obtain rfl:true=b2:=hb2;obtain rfl:true=b3:=hb3;obtain rfl:l1=v1:=hv1;obtain rfl:l2=v2:=hv2;obtain rfl:l3=v3:=hv3;obtain⟨c1,_,_,c4⟩:=e5 l1 rfl;have hM:=F3 l1 l2 (by omega) (λw hw=>by have:=c4 w hw;omega);have hN:=F3 l1 l3 (by omega) (λw hw=>by have:=c4 w hw;omega);rw[AJ (e2 l2 l1 rfl rfl).symm] at hM;rw[AJ (e3 l3 l1 rfl rfl).symm] at hN;(with_reducible repeat'(first|simp (disch:=omega) only[push_cast,↓zz,seval,po1,po2,po3]|apply Aa|refine sp_ ?_ ?_<;>intro hc<;>push_cast at hc|omega|intro _));refine W_T ?_;(with_reducible repeat'(first|simp (disch:=omega) only[push_cast,↓zz,seval,po1,po2,po3]|apply Aa|refine sp_ ?_ ?_<;>intro hc<;>push_cast at hc|refine ee hM ?_|refine ee hN ?_|refine ee hA ?_|((first|refine cc hM ?_|refine cc hN ?_|refine cc hA ?_);(simp(disch:=omega)only[push_cast,↓zz,seval,po1,po2,po3]);(fail_if_success change False))|omega|intro _))
  all_goals first|omega|trace_state
set_option maxRecDepth 100000
theorem UD(a:Rec)(ha:IW a)(x:List Int)(hl:x.length<=9223372036854775807)(h32:∀v∈x,-2147483648<=v/\v<=2147483647):PC Tryz.prog 7 [recV a,AD x] (.bool true):=by
 have hSa:=Ib a ha;have hA:=Kn;have hfm:=λh1:EU a=true=>Gm (k:=6) (l:=[a]) (by simp) (by simp;exact Ch ha h1);have lem:AV.le (.agg [.int .i64 6,.nilS,.int .i64 0,.nilS,.nilS,.lst 6 [recV a]]) (recV (litR 6 [a])):=Ji (k:=6) (xs:=[recV a]) (l:=[a]) rfl (A5 (AV.le_refl _) Cf);have hO1:=λ(h1:EU a=true)=>Fo (GQ (litR 6 [a]) (hfm h1) (by rw[G6];have:=Dh h1;simp only[cntA];omega) x hl h32) (A5 lem (A5 (AV.le_refl _) Cf))
 have hO2:=λ(h1:EU a=true)=>Fo (GQ (litR 5 [litR 4 [],litR 4 [a,litR 6 [a]]]) (Gm (by simp) (by simp;exact⟨Gm (by simp) (by simp),Gm (by simp) (by simp;exact⟨Ch ha h1,hfm h1⟩)⟩)) (by rw[G6];have:=Dh h1;simp only[cntA,G6];omega) x hl h32)
  (A5 (Ji (k:=5) (l:=[litR 4 [],litR 4 [a,litR 6 [a]]]) rfl (A5 (show AV.le (.agg [.int .i64 4,.nilS,.int .i64 0,.nilS,.nilS,.nilS]) (recV (litR 4 [])) by
   rw[Ck]
   exact AV.le_agg (A5 (AV.le_refl _) (A5 (AV.le_nilS (by decide)) (A5 (AV.le_refl _) (A5 (AV.le_nilS (by decide)) (A5 (AV.le_nilS (by decide)) (A5 (AV.le_nilS (by decide)) Cf))))))) (A5 (Ji (k:=4) (l:=[a,litR 6 [a]]) rfl (A5 (AV.le_refl (recV a)) (A5 lem Cf))) Cf))) (A5 (AV.le_refl _) Cf))
 have hR1:=λh1=>Fo (J4 (litR 6 [a]) (hfm h1)) (A5 lem Cf);have hR2:=λh1=>J4 a (Ch ha h1);have hR3:=λh1=>U0 a (Ch ha h1);have hR4:=λh1=>Fo (z5s (litR 6 [a]) (hfm h1) 0 (by decide) (by decide)) (A5 lem (A5 (AV.le_refl _) Cf));have e2:=λl m=>Ln (x:=x) (l:=l) (l':=m) (z6e a);have e5:=λl=>FN (n:=litR 6 [a]) (x:=x) (l:=l);have hm:=ZM a;generalize H6 (litR 6 [a]) x=o1 at *;generalize H6 (litR 5 [litR 4 [],litR 4 [a,litR 6 [a]]]) x=o2 at *;generalize okR (litR 6 [a]) 0=A at *;generalize (okR a 0&&GH a)=N at *;generalize okR a 0=B at *;generalize EU a=ca at *;have pX:AF (x.map (AV.int .i32))=true:=AB .i32 _;obtain⟨k,s,y,r,w,l,he⟩:∃k s y r w l,a=.mk k s y r w l:=by cases a;exact⟨_,_,_,_,_,_,rfl⟩
 have va:recV a=.agg [.int .i64 k,Bc s,.int .i64 y,AD r,AD w,.lst 6 (l.map recV)]:=by rw[he,Ck]
 simp only[va] at hSa hO1 hO2 hR1 hR2 hR3 hR4 ⊢;have ps:=Be s;have pr:AF (r.map (AV.int .i32))=true:=AB .i32 _;have pw:AF (w.map (AV.int .i32))=true:=AB .i32 _;have pl:=BO l;refine Zu MR ?_;unfold I4;refine Dy (W_T ?_);(with_reducible repeat'(first|simp (disch:=omega) only[push_cast,↓zz,seval,ps,pr,pw,pl,pX]|apply Aa|refine sp_ ?_ ?_<;>intro hc<;>push_cast at hc|omega|intro _));refine Dy (W_T ?_);cases ca with
 |false =>
  (with_reducible repeat'(first|simp (disch:=omega) only[push_cast,↓zz,seval,ps,pr,pw,pl,pX]|apply Aa|refine sp_ ?_ ?_<;>intro hc<;>push_cast at hc|refine ee hSa ?_|refine ee hA ?_|((first|refine cc hSa ?_|refine cc hA ?_);(simp(disch:=omega)only[push_cast,↓zz,seval,ps,pr,pw,pl,pX]);(fail_if_success change False))|omega|intro _))
 |true =>
 have hO1:=hO1 rfl;have hO2:=hO2 rfl;have hR1:=hR1 rfl;have hR2:=hR2 rfl;have hR3:=hR3 rfl;have hR4:=hR4 rfl;by_cases hx:10<x.length
 ·(with_reducible repeat'(first|simp (disch:=omega) only[push_cast,↓zz,seval,ps,pr,pw,pl,pX]|apply Aa|refine sp_ ?_ ?_<;>intro hc<;>push_cast at hc|refine ee hSa ?_|refine ee hA ?_|((first|refine cc hSa ?_|refine cc hA ?_);(simp(disch:=omega)only[push_cast,↓zz,seval,ps,pr,pw,pl,pX]);(fail_if_success change False))|omega|intro _))
  all_goals first|omega|trace_state
 ·(with_reducible repeat'(first|simp (disch:=omega) only[push_cast,↓zz,seval,ps,pr,pw,pl,pX]|apply Aa|refine sp_ ?_ ?_<;>intro hc<;>push_cast at hc|refine ee hSa ?_|refine ee hA ?_|((first|refine cc hSa ?_|refine cc hA ?_);(simp(disch:=omega)only[push_cast,↓zz,seval,ps,pr,pw,pl,pX]);(fail_if_success change False))|omega|intro _))
  generalize hv1:o1.getD []=v1 at *;generalize hv2:o2.getD []=v2 at *;have po1:=B2 v1;have po2:=B2 v2;generalize hb1:o1.isSome=b1 at *;generalize hb2:o2.isSome=b2 at *;refine Dy (W_T ?_);(with_reducible repeat'(first|simp (disch:=omega) only[push_cast,↓zz,seval,ps,pr,pw,pl,pX]|apply Aa|refine sp_ ?_ ?_<;>intro hc<;>push_cast at hc|omega|intro _));refine L5 (PZ (l':=[⟨6,1,true,[.agg [.int .i64 k,Bc s,.int .i64 y,AD r,AD w,.lst 6 (l.map recV)]]⟩,⟨0,2,false,[]⟩,⟨6,1,true,[.agg [.int .i64 6,.nilS,.int .i64 0,.nilS,.nilS,.lst 6 [.agg [.int .i64 k,Bc s,.int .i64 y,AD r,AD w,.lst 6 (l.map recV)]]]]⟩]) (g:=2) (d:=8) [1] (by decide) (by simp) rfl (by decide) ?_ ?_) (Dy (W_T ?_))
  ·(with_reducible repeat'(first|simp (disch:=omega) only[push_cast,↓zz,seval,ps,pr,pw,pl]|apply Aa|refine sp_ ?_ ?_<;>intro hc<;>push_cast at hc|omega|intro _))
  ·rfl
  (with_reducible repeat'(first|simp (disch:=omega) only[push_cast,↓zz,seval,ps,pr,pw,pl,pX,po1]|apply Aa|refine sp_ ?_ ?_<;>intro hc<;>push_cast at hc|refine ee hO1 ?_|(refine cc hO1 ?_;(simp(disch:=omega)only[push_cast,↓zz,seval,ps,pr,pw,pl,pX,po1]);(fail_if_success change False))|omega|intro _));refine Dy (W_T ?_);(with_reducible repeat'(first|simp (disch:=omega) only[push_cast,↓zz,seval,ps,pr,pw,pl,pX,po1,po2]|apply Aa|refine sp_ ?_ ?_<;>intro hc<;>push_cast at hc|omega|intro _));refine cKg [3,4] hO2 ?_;(with_reducible repeat'(first|simp (disch:=omega) only[push_cast,↓zz,seval,ps,pr,pw,pl,pX,po1,po2]|apply Aa|refine sp_ ?_ ?_<;>intro hc<;>push_cast at hc|omega|intro _));refine Dy (Dy (W_T ?_));have bt:(true == true)=true:=rfl;have bf:(false == false)=true:=rfl;rcases (show (A=true/\B=true/\N=false)\/(A=false/\B=true/\N=true)\/(A=false/\B=true/\N=false)\/(A=false/\B=false/\N=true)\/(A=false/\B=false/\N=false) by revert hm;cases A<;>cases B<;>cases N<;>simp) with⟨rfl,rfl,rfl⟩|⟨rfl,rfl,rfl⟩|⟨rfl,rfl,rfl⟩|⟨rfl,rfl,rfl⟩|⟨rfl,rfl,rfl⟩
  all_goals
   (with_reducible repeat'(first|simp (disch:=omega) only[push_cast,↓zz,seval,po1,po2,bf,bt]|apply Aa|refine sp_ ?_ ?_<;>intro hc<;>push_cast at hc|refine ee hR1 ?_|refine ee hR2 ?_|refine ee hR3 ?_|refine ee hR4 ?_|((first|refine cc hR1 ?_|refine cc hR2 ?_|refine cc hR3 ?_|refine cc hR4 ?_);(simp(disch:=omega)only[push_cast,↓zz,seval,po1,po2,bf,bt]);(fail_if_success change False))|omega|intro _));refine W_T ?_;(with_reducible repeat'(first|simp (disch:=omega) only[push_cast,↓zz,seval,po1,po2]|apply Aa|refine sp_ ?_ ?_<;>intro hc<;>push_cast at hc|omega|intro _));refine W_T ?_;cases o1 with
   |none =>
    obtain rfl:false=b1:=hb1;(with_reducible repeat'(first|simp (disch:=omega) only[push_cast,↓zz,seval,po1,po2]|apply Aa|refine sp_ ?_ ?_<;>intro hc<;>push_cast at hc|refine ee hA ?_|(refine cc hA ?_;(simp(disch:=omega)only[push_cast,↓zz,seval,po1,po2]);(fail_if_success change False))|omega|intro _))
   |some l1 =>
   cases o2 with
   |none =>
    obtain rfl:true=b1:=hb1;obtain rfl:false=b2:=hb2;(with_reducible repeat'(first|simp (disch:=omega) only[push_cast,↓zz,seval,po1,po2]|apply Aa|refine sp_ ?_ ?_<;>intro hc<;>push_cast at hc|refine ee hA ?_|(refine cc hA ?_;(simp(disch:=omega)only[push_cast,↓zz,seval,po1,po2]);(fail_if_success change False))|omega|intro _))
   |some l2 =>
   obtain rfl:true=b1:=hb1;obtain rfl:true=b2:=hb2;obtain rfl:l1=v1:=hv1;obtain rfl:l2=v2:=hv2;obtain⟨c1,_,_,c4⟩:=e5 l1 rfl;have hM:=F3 l1 l2 (by omega) (λw hw=>by have:=c4 w hw;omega);rw[AJ (e2 l2 l1 rfl rfl).symm] at hM;(with_reducible repeat'(first|simp (disch:=omega) only[push_cast,↓zz,seval,po1,po2]|apply Aa|refine sp_ ?_ ?_<;>intro hc<;>push_cast at hc|refine ee hM ?_|refine ee hA ?_|((first|refine cc hM ?_|refine cc hA ?_);(simp(disch:=omega)only[push_cast,↓zz,seval,po1,po2]);(fail_if_success change False))|omega|intro _))
   all_goals trace_state
end Go.Proofs.YtflibbceibjddaaGreat
