/-
  Parts of the proof that the law holds whatever the input; without conditions.
-/
import Derived.Test.YtflibbceibjddaaGreatNF8
import Derived.Test.YtflibbceibjddaaGreatNF6
import Derived.Test.YtflibbceibjddaaGreatNF7
set_option linter.unusedSimpArgs false
set_option linter.unusedVariables false
set_option linter.unusedSectionVars false
set_option maxRecDepth 100000
namespace Go.Proofs.YtflibbceibjddaaGreat
open Abs O1 O2 O3
theorem z7w(n:Rec)(f S:Nat)(R:List Rule)(v:Nat)(hfu:G6 S R=true):
 B3 Tryz.prog 47 [.ptr 0 1 0 0,recV n,.int .i64 f] (Abs.hl (mkH S R v)) λy H'=>y=.int .i64 f/\∃v',H'=Abs.hl (mkH S R v'):=by
 obtain⟨k,s,b,r,w,l⟩:=n;have ps:=BR s r w l;have hFu:=Fo S R v;rw[hfu] at hFu;rw[Cv];refine DG (GD Dv (W_T ?_));unfold CS;unfold mkH at hFu ⊢;(with_reducible repeat'(first|simp(disch:=omega)only[push_cast,↓zz,seval,ps]|refine sp_ ?_ ?_<;>try(intro hc;push_cast at hc)|omega|intro _))
 (refine at_c [0,1] (hFu) (by decide) (by simp) (by refine⟨?_,?_,?_,?_⟩<;>(simp(disch:=omega)only[push_cast,↓zz,seval,Af,Ai,Ap,Av,AH,Ar,ps])) ?_)
 rintro y H' ⟨rfl,rfl⟩;refine⟨_,rfl,by simp,?_⟩;(with_reducible repeat'(first|simp(disch:=omega)only[push_cast,↓zz,seval,ps]|refine sp_ ?_ ?_<;>try(intro hc;push_cast at hc)|omega|intro _));exact⟨_,_,GV (l0:=mkH S R v) (gar:=[_]) rfl (Ad _) If trivial,rfl,v,rfl⟩
theorem z7x(s:List Span)(b:Int)(r w:List Int)(l:List Rec)(f S:Nat)(R:List Rule)(v:Nat)(hf:EI (.mk 1 s b r w l))(hfu:G6 S R=false)(hS:S+8 * cntN (.mk 1 s b r w l)<=300000)(hR:R.length+8 * cntN (.mk 1 s b r w l)<=300000):
 B3 Tryz.prog 47 [.ptr 0 1 0 0,recV (.mk 1 s b r w l),.int .i64 f] (Abs.hl (mkH S R v)) λy H'=>y=.int .i64 ((mkM (.mk 1 s b r w l) f (S,R)).2:Nat)/\∃v',H'=Abs.hl (mkH (mkM (.mk 1 s b r w l) f (S,R)).1.1 (mkM (.mk 1 s b r w l) f (S,R)).1.2 v'):=by
 cases hf with
 |mk hs hr hw hl hch =>
 rw[cntN] at hS hR;have ps:=BR s r w l
 have e0:mkM (.mk 1 s b r w l) f (S,R)=(addR (newS (S,R)) f S s [cpyT b],S):=by
  rw[mkM,Ab (by rw[show Gt (S,R)=G6 S R from rfl,hfu];simp),Ae rfl]
 have hRu:=JB (S+1) R v f S s [cpyT b] hs (by omega);have hCp:=z4o 0 b;have hcv:G0 (cpyT b)=.agg [.int .i64 0,.int .i64 0,.int .i64 21,.int .i64 0,.int .i64 b,.lst 4 [Ga ⟨0,0,21,0⟩]]:=rfl;have hFu:=Fo S R v;rw[hfu] at hFu;have hSt:=EE S R v (by omega);rw[Cv,e0];clear e0;refine DG (GD Dv (W_T ?_));unfold CS;unfold addR newS;simp only;unfold mkH at hFu hSt hRu ⊢;(with_reducible repeat'(first|simp(disch:=omega)only[push_cast,↓zz,seval,ps]|refine sp_ ?_ ?_<;>try(intro hc;push_cast at hc)|omega|intro _))
 (refine at_c [0,1] (hFu) (by decide) (by simp) (by refine⟨?_,?_,?_,?_⟩<;>(simp(disch:=omega)only[push_cast,↓zz,seval,Af,Ai,Ap,Av,AH,Ar,ps])) ?_)
 rintro y H' ⟨rfl,rfl⟩;refine⟨_,rfl,by simp,?_⟩;(with_reducible repeat'(first|simp(disch:=omega)only[push_cast,↓zz,seval,ps]|refine sp_ ?_ ?_<;>try(intro hc;push_cast at hc)|omega|intro _))
 (refine at_c [0,1] (hSt) (by decide) (by simp) (by refine⟨?_,?_,?_,?_⟩<;>(simp(disch:=omega)only[push_cast,↓zz,seval,Af,Ai,Ap,Av,AH,Ar,ps])) ?_)
 rintro y H' ⟨rfl,rfl⟩;refine⟨_,rfl,by simp,?_⟩;(with_reducible repeat'(first|simp(disch:=omega)only[push_cast,↓zz,seval,ps]|refine sp_ ?_ ?_<;>try(intro hc;push_cast at hc)|refine ee hCp ?_|(refine cc hCp ?_;simp(disch:=omega)only[push_cast,↓zz,seval,ps];fail_if_success change False)|omega|intro _));refine Vl (l':=[⟨6,1,true,[.agg [.int .i64 2,.int .i64 2,.int .i64 ((S:Int)+1),.int .i64 0,.ref 1 v 0 R.length,.nilS]]⟩,⟨5,v,false,R.map Hp⟩,⟨6,1,true,[.agg [.int .i64 1,Bg s,.int .i64 b,A6 r,A6 w,.lst 6 (l.map recV)]]⟩,⟨0,2,false,[]⟩]) 4 3 6 1 1 (by decide) (by simp) rfl (by simp[Bh,AV.pure]) rfl rfl rfl ?_
 (refine at_c [0,1] (hRu) (by decide) (by simp) (by refine⟨?_,?_,?_,?_⟩<;>(simp(disch:=omega)only[push_cast,↓zz,seval,Af,Ai,Ap,Av,AH,Ar,ps,List.set_cons_succ,List.set_cons_zero,cpyT])) ?_)
 rintro y H' ⟨rfl,v1,rfl⟩;refine⟨_,rfl,by simp,?_⟩;(with_reducible repeat'(first|simp(disch:=omega)only[push_cast,↓zz,seval,ps,List.set_cons_succ,List.set_cons_zero,cpyT]|refine sp_ ?_ ?_<;>try(intro hc;push_cast at hc)|omega|intro _));have hfin:mkH (S+1) (R++[CW f S s [cpyT b]]) v1=[⟨6,1,true,[.agg [.int .i64 2,.int .i64 2,.int .i64 ((S:Int)+1),.int .i64 0,.ref 1 v1 0 (R.length+1),.nilS]]⟩,⟨5,v1,false,R.map Hp++[Hp (CW f S s [cpyT b])]⟩]:=by simp[mkH]
 exact⟨_,_,GV (l0:=mkH (S+1) (R++[CW f S s [cpyT b]]) v1) (gar:=[⟨6,1,true,[.agg [.int .i64 1,Bg s,.int .i64 b,A6 r,A6 w,.lst 6 (l.map recV)]]⟩,⟨0,2,false,[]⟩]) (by rw[hfin];rfl) (Ad _) If trivial,rfl,v1,by rw[hfin]<;>rfl⟩
theorem z7y(s:List Span)(b:Int)(r w:List Int)(l:List Rec)(f S:Nat)(R:List Rule)(v:Nat)(hf:EI (.mk 2 s b r w l))(hfu:G6 S R=false)(hS:S+8 * cntN (.mk 2 s b r w l)<=300000)(hR:R.length+8 * cntN (.mk 2 s b r w l)<=300000):
 B3 Tryz.prog 47 [.ptr 0 1 0 0,recV (.mk 2 s b r w l),.int .i64 f] (Abs.hl (mkH S R v)) λy H'=>y=.int .i64 ((mkM (.mk 2 s b r w l) f (S,R)).2:Nat)/\∃v',H'=Abs.hl (mkH (mkM (.mk 2 s b r w l) f (S,R)).1.1 (mkM (.mk 2 s b r w l) f (S,R)).1.2 v'):=by
 cases hf with
 |mk hs hr hw hl hch =>
 rw[cntN] at hS hR;have ps:=BR s r w l
 have e0:mkM (.mk 2 s b r w l) f (S,R)=(addR (newS (S,R)) f S s [],S):=by
  rw[mkM,Ab (by rw[show Gt (S,R)=G6 S R from rfl,hfu];simp),Ab (show ¬(2:Int)=1 by decide),Ae rfl]
 have hRu:=Pq (S+1) R v f S s hs (by omega);have hFu:=Fo S R v;rw[hfu] at hFu;have hSt:=EE S R v (by omega);rw[Cv,e0];clear e0;refine DG (GD Dv (W_T ?_));unfold CS;unfold addR newS;simp only;unfold mkH at hFu hSt hRu ⊢;(with_reducible repeat'(first|simp(disch:=omega)only[push_cast,↓zz,seval,ps]|refine sp_ ?_ ?_<;>try(intro hc;push_cast at hc)|omega|intro _))
 (refine at_c [0,1] (hFu) (by decide) (by simp) (by refine⟨?_,?_,?_,?_⟩<;>(simp(disch:=omega)only[push_cast,↓zz,seval,Af,Ai,Ap,Av,AH,Ar,ps])) ?_)
 rintro y H' ⟨rfl,rfl⟩;refine⟨_,rfl,by simp,?_⟩;(with_reducible repeat'(first|simp(disch:=omega)only[push_cast,↓zz,seval,ps]|refine sp_ ?_ ?_<;>try(intro hc;push_cast at hc)|omega|intro _))
 (refine at_c [0,1] (hSt) (by decide) (by simp) (by refine⟨?_,?_,?_,?_⟩<;>(simp(disch:=omega)only[push_cast,↓zz,seval,Af,Ai,Ap,Av,AH,Ar,ps])) ?_)
 rintro y H' ⟨rfl,rfl⟩;refine⟨_,rfl,by simp,?_⟩;(with_reducible repeat'(first|simp(disch:=omega)only[push_cast,↓zz,seval,ps]|refine sp_ ?_ ?_<;>try(intro hc;push_cast at hc)|omega|intro _))
 (refine at_c [0,1] (hRu) (by decide) (by simp) (by refine⟨?_,?_,?_,?_⟩<;>(simp(disch:=omega)only[push_cast,↓zz,seval,Af,Ai,Ap,Av,AH,Ar,ps])) ?_)
 rintro y H' ⟨rfl,v1,rfl⟩;refine⟨_,rfl,by simp,?_⟩;(with_reducible repeat'(first|simp(disch:=omega)only[push_cast,↓zz,seval,ps]|refine sp_ ?_ ?_<;>try(intro hc;push_cast at hc)|omega|intro _));have hfin:mkH (S+1) (R++[CW f S s []]) v1=[⟨6,1,true,[.agg [.int .i64 2,.int .i64 2,.int .i64 ((S:Int)+1),.int .i64 0,.ref 1 v1 0 (R.length+1),.nilS]]⟩,⟨5,v1,false,R.map Hp++[Hp (CW f S s [])]⟩]:=by simp[mkH]
 exact⟨_,_,GV (l0:=mkH (S+1) (R++[CW f S s []]) v1) (gar:=[⟨6,1,true,[.agg [.int .i64 2,Bg s,.int .i64 b,A6 r,A6 w,.lst 6 (l.map recV)]]⟩]) (by rw[hfin];rfl) (Ad _) If trivial,rfl,v1,by rw[hfin]<;>rfl⟩
theorem zdw(k:Int)(s:List Span)(b:Int)(r w:List Int)(l:List Rec)(f S:Nat)(R:List Rule)(v:Nat)(hf:EI (.mk k s b r w l))(hfu:G6 S R=false)(h1:¬k=1)(h2:¬k=2)(h3:¬k=3)(h5:¬k=5)(h6:¬k=6)(ih:∀n∈l,Rj n)(hS:S+8 * cntN (.mk k s b r w l)<=300000)(hR:R.length+8 * cntN (.mk k s b r w l)<=300000):
 B3 Tryz.prog 47 [.ptr 0 1 0 0,recV (.mk k s b r w l),.int .i64 f] (Abs.hl (mkH S R v)) λy H'=>y=.int .i64 ((mkM (.mk k s b r w l) f (S,R)).2:Nat)/\∃v',H'=Abs.hl (mkH (mkM (.mk k s b r w l) f (S,R)).1.1 (mkM (.mk k s b r w l) f (S,R)).1.2 v'):=by
 cases hf with
 |mk hs hr hw hl hch =>
 rw[cntN] at hS hR;have ps:=BR s r w l
 have e0:mkM (.mk k s b r w l) f (S,R)=catR l f (S,R):=by
  rw[mkM,Ab (by rw[show Gt (S,R)=G6 S R from rfl,hfu];simp),Ab h1,Ab h2,Ab h3,Ab h5,Ab h6]
 have hFu:=Fo S R v;rw[hfu] at hFu;have hSt:=EE S R v (by omega);rw[Cv,e0];clear e0;refine DG (GD Dv (W_T ?_));unfold CS;generalize hT2:catR l f (S,R)=T2;obtain⟨⟨S2,R2⟩,f2⟩:=T2;unfold mkH at hFu ⊢;(with_reducible repeat'(first|simp(disch:=omega)only[push_cast,↓zz,seval,ps]|refine sp_ ?_ ?_<;>try(intro hc;push_cast at hc)|omega|intro _))
 (refine at_c [0,1] (hFu) (by decide) (by simp) (by refine⟨?_,?_,?_,?_⟩<;>(simp(disch:=omega)only[push_cast,↓zz,seval,Af,Ai,Ap,Av,AH,Ar,ps,h1,h2,h3,h5,h6])) ?_)
 rintro y H' ⟨rfl,rfl⟩;refine⟨_,rfl,by simp,?_⟩;(with_reducible repeat'(first|simp(disch:=omega)only[push_cast,↓zz,seval,ps,h1,h2,h3,h5,h6]|refine sp_ ?_ ?_<;>try(intro hc;push_cast at hc)|omega|intro _))
 refine Br (Bs (λ(q:CSt)=>q.i<=l.length/\catR (l.drop q.i) q.f (q.S,q.R)=((S2,R2),f2)/\q.S+8 * cntA (l.drop q.i)<=300000/\q.R.length+8 * cntA (l.drop q.i)<=300000) (λq=>l.length-q.i)
  (λq=>[(0,.ptr 0 1 0 0),(2,.int .i64 q.f),(145,.lst 6 (l.map recV)),(146,.int .i64 l.length),(147,.int .i64 q.i)]) (λq=>mkH q.S q.R q.v) (λ_ _=>[]) ⟨0,f,S,R,v⟩ ⟨Au _,hT2,by simp only[B6];omega,by simp only[B6];omega⟩ ?_ ?_)
 ·unfold mkH
  (with_reducible repeat'(first|simp(disch:=omega)only[push_cast,↓zz,seval,ps]|refine sp_ ?_ ?_<;>try(intro hc;push_cast at hc)|omega|intro _))
 rintro⟨i,f',S',R',v'⟩ ⟨hi,hk,hb1,hb2⟩;simp only at hi hk hb1 hb2 ⊢;rcases Ak i l.length with hil|hil
 ·rw[drop_at hil,catR] at hk
  have hm:=ih _ (AS hil);have hgr:=N6 (nth l i);obtain⟨k',s',b',r',w',l',he⟩:∃k' s' b' r' w' l',nth l i=.mk k' s' b' r' w' l':=by cases nth l i;exact⟨_,_,_,_,_,_,rfl⟩
  have hrm:=Cv k' s' b' r' w' l';have ps':=BR s' r' w' l';have hca:cntA (l.drop i)=cntN (nth l i)+cntA (l.drop (i+1)):=by rw[drop_at hil,cntA]
  rw[hca] at hb1 hb2;have hm:=hm f' S' R' v' (by omega) (by omega);have hgr:=hgr f' (S',R');generalize hTe:mkM (nth l i) f' (S',R')=TT at *;obtain⟨⟨S3,R3⟩,f3⟩:=TT;simp only at hm hk hgr;rw[he,hrm] at hm;unfold mkH at hm ⊢;refine W_T ?_;(with_reducible repeat'(first|simp(disch:=omega)only[push_cast,↓zz,seval,ps,ps',he,hrm]|refine sp_ ?_ ?_<;>try(intro hc;push_cast at hc)|omega|intro _))
  (refine at_c [0,1] (hm) (by decide) (by simp) (by refine⟨?_,?_,?_,?_⟩<;>(simp(disch:=omega)only[push_cast,↓zz,seval,Af,Ai,Ap,Av,AH,Ar,ps,ps',he,hrm])) ?_)
  rintro y H' ⟨rfl,v3,rfl⟩;refine⟨_,rfl,by simp,?_⟩;(with_reducible repeat'(first|simp(disch:=omega)only[push_cast,↓zz,seval,ps,ps',he,hrm]|refine sp_ ?_ ?_<;>try(intro hc;push_cast at hc)|omega|intro _))
  all_goals
   refine⟨⟨i+1,f3,S3,R3,v3⟩,?_⟩;(with_reducible repeat'(first|simp(disch:=omega)only[push_cast,↓zz,seval,ps]|refine sp_ ?_ ?_<;>try(intro hc;push_cast at hc)|omega|intro _))
  all_goals first|exact hk|omega
 ·obtain rfl:i=l.length:=by omega
  rw[List.drop_length,catR] at hk;obtain⟨⟨rfl,rfl⟩,rfl⟩:(S'=S2/\R'=R2)/\f'=f2:=by simpa using hk
  unfold mkH;refine W_T ?_;(with_reducible repeat'(first|simp(disch:=omega)only[push_cast,↓zz,seval,ps]|refine sp_ ?_ ?_<;>try(intro hc;push_cast at hc)|omega|intro _));exact⟨_,_,Ent.refl,rfl,v',rfl⟩
theorem zdx(s:List Span)(b:Int)(r w:List Int)(l:List Rec)(f S:Nat)(R:List Rule)(v:Nat)(hf:EI (.mk 5 s b r w l))(hfu:G6 S R=false)(ih:∀n∈l,Rj n)(hS:S+8 * cntN (.mk 5 s b r w l)<=300000)(hR:R.length+8 * cntN (.mk 5 s b r w l)<=300000):
 B3 Tryz.prog 47 [.ptr 0 1 0 0,recV (.mk 5 s b r w l),.int .i64 f] (Abs.hl (mkH S R v)) λy H'=>y=.int .i64 ((mkM (.mk 5 s b r w l) f (S,R)).2:Nat)/\∃v',H'=Abs.hl (mkH (mkM (.mk 5 s b r w l) f (S,R)).1.1 (mkM (.mk 5 s b r w l) f (S,R)).1.2 v'):=by
 cases hf with
 |mk hs hr hw hl hch =>
 rw[cntN] at hS hR;have ps:=BR s r w l
 have e0:mkM (.mk 5 s b r w l) f (S,R)=(altR l f S (newS (S,R)),S):=by
  rw[mkM,Ab (by rw[show Gt (S,R)=G6 S R from rfl,hfu];simp),Ab (show ¬(5:Int)=1 by decide),Ab (show ¬(5:Int)=2 by decide),Ab (show ¬(5:Int)=3 by decide),Ae rfl]
 have hFu:=Fo S R v;rw[hfu] at hFu;have hSt:=EE S R v (by omega);rw[Cv,e0];clear e0;refine DG (GD Dv (W_T ?_));unfold CS;generalize hT2:altR l f S (newS (S,R))=T2;obtain⟨S2,R2⟩:=T2;unfold mkH at hFu hSt ⊢;(with_reducible repeat'(first|simp(disch:=omega)only[push_cast,↓zz,seval,ps]|refine sp_ ?_ ?_<;>try(intro hc;push_cast at hc)|omega|intro _))
 (refine at_c [0,1] (hFu) (by decide) (by simp) (by refine⟨?_,?_,?_,?_⟩<;>(simp(disch:=omega)only[push_cast,↓zz,seval,Af,Ai,Ap,Av,AH,Ar,ps])) ?_)
 rintro y H' ⟨rfl,rfl⟩;refine⟨_,rfl,by simp,?_⟩;(with_reducible repeat'(first|simp(disch:=omega)only[push_cast,↓zz,seval,ps]|refine sp_ ?_ ?_<;>try(intro hc;push_cast at hc)|omega|intro _))
 (refine at_c [0,1] (hSt) (by decide) (by simp) (by refine⟨?_,?_,?_,?_⟩<;>(simp(disch:=omega)only[push_cast,↓zz,seval,Af,Ai,Ap,Av,AH,Ar,ps])) ?_)
 rintro y H' ⟨rfl,rfl⟩;refine⟨_,rfl,by simp,?_⟩;(with_reducible repeat'(first|simp(disch:=omega)only[push_cast,↓zz,seval,ps]|refine sp_ ?_ ?_<;>try(intro hc;push_cast at hc)|omega|intro _))
 refine Br (Bs (λ(q:CSt)=>q.i<=l.length/\altR (l.drop q.i) f S (q.S,q.R)=(S2,R2)/\q.S+8 * cntA (l.drop q.i)+7<=300000/\q.R.length+8 * cntA (l.drop q.i)+7<=300000) (λq=>l.length-q.i)
  (λq=>[(0,.ptr 0 1 0 0),(2,.int .i64 f),(12,.int .i64 S),(85,.lst 6 (l.map recV)),(86,.int .i64 l.length),(87,.int .i64 q.i)]) (λq=>mkH q.S q.R q.v) (λ_ _=>[]) ⟨0,0,S+1,R,v⟩ ⟨Au _,hT2,by simp only[B6];omega,by simp only[B6];omega⟩ ?_ ?_)
 ·unfold mkH
  (with_reducible repeat'(first|simp(disch:=omega)only[push_cast,↓zz,seval,ps]|refine sp_ ?_ ?_<;>try(intro hc;push_cast at hc)|omega|intro _))
 rintro⟨i,f',S',R',v'⟩ ⟨hi,hk,hb1,hb2⟩;simp only at hi hk hb1 hb2 ⊢;rcases Ak i l.length with hil|hil
 ·rw[drop_at hil,altR] at hk
  have hm:=ih _ (AS hil);have hgr:=N6 (nth l i);obtain⟨k',s',b',r',w',l',he⟩:∃k' s' b' r' w' l',nth l i=.mk k' s' b' r' w' l':=by cases nth l i;exact⟨_,_,_,_,_,_,rfl⟩
  have hrm:=Cv k' s' b' r' w' l';have ps':=BR s' r' w' l';have hca:cntA (l.drop i)=cntN (nth l i)+cntA (l.drop (i+1)):=by rw[drop_at hil,cntA]
  rw[hca] at hb1 hb2;have hSt2:=EE S' R' v' (by omega);have hRu:=λv''=>G8 (S'+1) R' v'' f S' (by omega);have hm:=λv''=>hm S' (S'+1) (R'++[CW f S' [] []]) v'' (by omega) (by simp;omega);have hgr:=hgr S' (S'+1,R'++[CW f S' [] []]);have hk:altR (l.drop (i+1)) f S (addR (mkM (nth l i) S' (S'+1,R'++[CW f S' [] []])).1 (mkM (nth l i) S' (S'+1,R'++[CW f S' [] []])).2 S [] [])=(S2,R2):=hk;generalize hTe:mkM (nth l i) S' (S'+1,R'++[CW f S' [] []])=TT at *;obtain⟨⟨S3,R3⟩,f3⟩:=TT;simp only[Aj,List.length_singleton] at hm hk hgr;have hRu2:=λv''=>G8 S3 R3 v'' f3 S (by omega);unfold addR at hk;simp only at hk;simp only[he,hrm] at hm;unfold mkH at hSt2 hRu hm hRu2 ⊢;refine W_T ?_;(with_reducible repeat'(first|simp(disch:=omega)only[push_cast,↓zz,seval,ps,ps',he,hrm]|refine sp_ ?_ ?_<;>try(intro hc;push_cast at hc)|omega|intro _))
  (refine at_c [0,1] (hSt2) (by decide) (by simp) (by refine⟨?_,?_,?_,?_⟩<;>(simp(disch:=omega)only[push_cast,↓zz,seval,Af,Ai,Ap,Av,AH,Ar,ps,ps',he,hrm])) ?_)
  rintro y H' ⟨rfl,rfl⟩;refine⟨_,rfl,by simp,?_⟩;(with_reducible repeat'(first|simp(disch:=omega)only[push_cast,↓zz,seval,ps,ps',he,hrm]|refine sp_ ?_ ?_<;>try(intro hc;push_cast at hc)|omega|intro _))
  (refine at_c [0,1] ((hRu v')) (by decide) (by simp) (by refine⟨?_,?_,?_,?_⟩<;>(simp(disch:=omega)only[push_cast,↓zz,seval,Af,Ai,Ap,Av,AH,Ar,ps,ps',he,hrm])) ?_)
  rintro y H' ⟨rfl,v1,rfl⟩;refine⟨_,rfl,by simp,?_⟩;(with_reducible repeat'(first|simp(disch:=omega)only[push_cast,↓zz,seval,ps,ps',he,hrm]|refine sp_ ?_ ?_<;>try(intro hc;push_cast at hc)|omega|intro _))
  (refine at_c [0,1] ((hm v1)) (by decide) (by simp) (by refine⟨?_,?_,?_,?_⟩<;>(simp(disch:=omega)only[push_cast,↓zz,seval,Af,Ai,Ap,Av,AH,Ar,ps,ps',he,hrm,Aw,AR,AZ,Aj,List.length_singleton])) ?_)
  rintro y H' ⟨rfl,v2,rfl⟩;refine⟨_,rfl,by simp,?_⟩;(with_reducible repeat'(first|simp(disch:=omega)only[push_cast,↓zz,seval,ps,ps',he,hrm,Aw,AR,AZ,Aj,List.length_singleton]|refine sp_ ?_ ?_<;>try(intro hc;push_cast at hc)|omega|intro _))
  (refine at_c [0,1] ((hRu2 v2)) (by decide) (by simp) (by refine⟨?_,?_,?_,?_⟩<;>(simp(disch:=omega)only[push_cast,↓zz,seval,Af,Ai,Ap,Av,AH,Ar,ps,ps',he,hrm])) ?_)
  rintro y H' ⟨rfl,v3,rfl⟩;refine⟨_,rfl,by simp,?_⟩;(with_reducible repeat'(first|simp(disch:=omega)only[push_cast,↓zz,seval,ps,ps',he,hrm]|refine sp_ ?_ ?_<;>try(intro hc;push_cast at hc)|omega|intro _))
  all_goals
   refine⟨⟨i+1,0,S3,R3++[CW f3 S [] []],v3⟩,?_⟩;(with_reducible repeat'(first|simp(disch:=omega)only[push_cast,↓zz,seval,ps]|refine sp_ ?_ ?_<;>try(intro hc;push_cast at hc)|omega|intro _))
  all_goals first|exact hk|(simp;omega)|omega
 ·obtain rfl:i=l.length:=by omega
  rw[List.drop_length,altR] at hk;obtain⟨rfl,rfl⟩:S'=S2/\R'=R2:=by simpa using hk
  unfold mkH;refine W_T ?_;(with_reducible repeat'(first|simp(disch:=omega)only[push_cast,↓zz,seval,ps]|refine sp_ ?_ ?_<;>try(intro hc;push_cast at hc)|omega|intro _));exact⟨_,_,Ent.refl,rfl,v',rfl⟩
theorem z7z(s:List Span)(b:Int)(r w:List Int)(l:List Rec)(f S:Nat)(R:List Rule)(v:Nat)(hf:EI (.mk 6 s b r w l))(hfu:G6 S R=false)(ih:∀n∈l,Rj n)(hS:S+8 * cntN (.mk 6 s b r w l)<=300000)(hR:R.length+8 * cntN (.mk 6 s b r w l)<=300000):
 B3 Tryz.prog 47 [.ptr 0 1 0 0,recV (.mk 6 s b r w l),.int .i64 f] (Abs.hl (mkH S R v)) λy H'=>y=.int .i64 ((mkM (.mk 6 s b r w l) f (S,R)).2:Nat)/\∃v',H'=Abs.hl (mkH (mkM (.mk 6 s b r w l) f (S,R)).1.1 (mkM (.mk 6 s b r w l) f (S,R)).1.2 v'):=by
 cases hf with
 |mk hs hr hw hl hch =>
 rw[cntN] at hS hR;have ps:=BR s r w l
 have e0:mkM (.mk 6 s b r w l) f (S,R)=(addR (newS (addR (catR l (S+1) (S+1+1,(R++[CW f S [] []])++[CW S (S+1:Nat) [] []])).1 (catR l (S+1) (S+1+1,(R++[CW f S [] []])++[CW S (S+1:Nat) [] []])).2 S [] [])) S (catR l (S+1) (S+1+1,(R++[CW f S [] []])++[CW S (S+1:Nat) [] []])).1.1 [] [],(catR l (S+1) (S+1+1,(R++[CW f S [] []])++[CW S (S+1:Nat) [] []])).1.1):=by
  rw[mkM,Ab (by rw[show Gt (S,R)=G6 S R from rfl,hfu];simp),Ab (show ¬(6:Int)=1 by decide),Ab (show ¬(6:Int)=2 by decide),Ab (show ¬(6:Int)=3 by decide),Ab (show ¬(6:Int)=5 by decide),Ae rfl];rfl
 have hFu:=Fo S R v;rw[hfu] at hFu;have hSt:=EE S R v (by omega);rw[Cv,e0];clear e0;refine DG (GD Dv (W_T ?_));unfold CS;have hgc:=Ly l (λn _=>N6 n) (S+1) (S+1+1,(R++[CW f S [] []])++[CW S (S+1:Nat) [] []]);simp only[Aj,List.length_singleton] at hgc;generalize hT2:catR l (S+1) (S+1+1,(R++[CW f S [] []])++[CW S (S+1:Nat) [] []])=T2 at *;obtain⟨⟨S2,R2⟩,f2⟩:=T2;simp only at hgc;unfold addR newS;simp only;have hRa:=λv=>G8 (S+1) R v f S (by omega);have hSt1:=λv=>EE (S+1) (R++[CW f S [] []]) v (by omega);have hRb:=λv=>G8 (S+1+1) (R++[CW f S [] []]) v S (S+1:Nat) (by simp;omega);have hRc:=λv=>G8 S2 R2 v f2 S (by omega);have hSt2:=λv=>EE S2 (R2++[CW f2 S [] []]) v (by omega);have hRd:=λv=>G8 (S2+1) (R2++[CW f2 S [] []]) v S S2 (by simp;omega);unfold mkH at hFu hSt hRa hSt1 hRb hRc hSt2 hRd ⊢;(with_reducible repeat'(first|simp(disch:=omega)only[push_cast,↓zz,seval,ps]|refine sp_ ?_ ?_<;>try(intro hc;push_cast at hc)|omega|intro _))
 (refine at_c [0,1] (hFu) (by decide) (by simp) (by refine⟨?_,?_,?_,?_⟩<;>(simp(disch:=omega)only[push_cast,↓zz,seval,Af,Ai,Ap,Av,AH,Ar,ps])) ?_)
 rintro y H' ⟨rfl,rfl⟩;refine⟨_,rfl,by simp,?_⟩;(with_reducible repeat'(first|simp(disch:=omega)only[push_cast,↓zz,seval,ps]|refine sp_ ?_ ?_<;>try(intro hc;push_cast at hc)|omega|intro _))
 (refine at_c [0,1] (hSt) (by decide) (by simp) (by refine⟨?_,?_,?_,?_⟩<;>(simp(disch:=omega)only[push_cast,↓zz,seval,Af,Ai,Ap,Av,AH,Ar,ps])) ?_)
 rintro y H' ⟨rfl,rfl⟩;refine⟨_,rfl,by simp,?_⟩;(with_reducible repeat'(first|simp(disch:=omega)only[push_cast,↓zz,seval,ps]|refine sp_ ?_ ?_<;>try(intro hc;push_cast at hc)|omega|intro _))
 (refine at_c [0,1] ((hRa v)) (by decide) (by simp) (by refine⟨?_,?_,?_,?_⟩<;>(simp(disch:=omega)only[push_cast,↓zz,seval,Af,Ai,Ap,Av,AH,Ar,ps])) ?_)
 rintro y H' ⟨rfl,v1,rfl⟩;refine⟨_,rfl,by simp,?_⟩;(with_reducible repeat'(first|simp(disch:=omega)only[push_cast,↓zz,seval,ps]|refine sp_ ?_ ?_<;>try(intro hc;push_cast at hc)|omega|intro _))
 (refine at_c [0,1] ((hSt1 v1)) (by decide) (by simp) (by refine⟨?_,?_,?_,?_⟩<;>(simp(disch:=omega)only[push_cast,↓zz,seval,Af,Ai,Ap,Av,AH,Ar,ps,Aw,AR,AZ,Aj,List.length_singleton])) ?_)
 rintro y H' ⟨rfl,rfl⟩;refine⟨_,rfl,by simp,?_⟩;(with_reducible repeat'(first|simp(disch:=omega)only[push_cast,↓zz,seval,ps,Aw,AR,AZ,Aj,List.length_singleton]|refine sp_ ?_ ?_<;>try(intro hc;push_cast at hc)|omega|intro _))
 (refine at_c [0,1] ((hRb v1)) (by decide) (by simp) (by refine⟨?_,?_,?_,?_⟩<;>(simp(disch:=omega)only[push_cast,↓zz,seval,Af,Ai,Ap,Av,AH,Ar,ps,Aw,AR,AZ,Aj,List.length_singleton])) ?_)
 rintro y H' ⟨rfl,v2,rfl⟩;refine⟨_,rfl,by simp,?_⟩;(with_reducible repeat'(first|simp(disch:=omega)only[push_cast,↓zz,seval,ps,Aw,AR,AZ,Aj,List.length_singleton]|refine sp_ ?_ ?_<;>try(intro hc;push_cast at hc)|omega|intro _))
 refine Br (Bs (λ(q:CSt)=>q.i<=l.length/\catR (l.drop q.i) q.f (q.S,q.R)=((S2,R2),f2)/\q.S+8 * cntA (l.drop q.i)<=300000/\q.R.length+8 * cntA (l.drop q.i)<=300000) (λq=>l.length-q.i)
  (λq=>[(0,.ptr 0 1 0 0),(16,.int .i64 S),(18,.int .i64 q.f),(122,.lst 6 (l.map recV)),(123,.int .i64 l.length),(124,.int .i64 q.i)]) (λq=>mkH q.S q.R q.v) (λ_ _=>[]) ⟨0,S+1,S+1+1,(R++[CW f S [] []])++[CW S (S+1:Nat) [] []],v2⟩ ⟨Au _,hT2,by simp only[B6];omega,by simp only[B6,Aj,List.length_singleton];omega⟩ ?_ ?_)
 ·unfold mkH
  (with_reducible repeat'(first|simp(disch:=omega)only[push_cast,↓zz,seval,ps]|refine sp_ ?_ ?_<;>try(intro hc;push_cast at hc)|omega|intro _))
 rintro⟨i,f',S',R',v'⟩ ⟨hi,hk,hb1,hb2⟩;simp only at hi hk hb1 hb2 ⊢;rcases Ak i l.length with hil|hil
 ·rw[drop_at hil,catR] at hk
  have hm:=ih _ (AS hil);have hgr:=N6 (nth l i);obtain⟨k',s',b',r',w',l',he⟩:∃k' s' b' r' w' l',nth l i=.mk k' s' b' r' w' l':=by cases nth l i;exact⟨_,_,_,_,_,_,rfl⟩
  have hrm:=Cv k' s' b' r' w' l';have ps':=BR s' r' w' l';have hca:cntA (l.drop i)=cntN (nth l i)+cntA (l.drop (i+1)):=by rw[drop_at hil,cntA]
  rw[hca] at hb1 hb2;have hm:=hm f' S' R' v' (by omega) (by omega);have hgr:=hgr f' (S',R');generalize hTe:mkM (nth l i) f' (S',R')=TT at *;obtain⟨⟨S3,R3⟩,f3⟩:=TT;simp only at hm hk hgr;rw[he,hrm] at hm;unfold mkH at hm ⊢;refine W_T ?_;(with_reducible repeat'(first|simp(disch:=omega)only[push_cast,↓zz,seval,ps,ps',he,hrm]|refine sp_ ?_ ?_<;>try(intro hc;push_cast at hc)|omega|intro _))
  (refine at_c [0,1] (hm) (by decide) (by simp) (by refine⟨?_,?_,?_,?_⟩<;>(simp(disch:=omega)only[push_cast,↓zz,seval,Af,Ai,Ap,Av,AH,Ar,ps,ps',he,hrm])) ?_)
  rintro y H' ⟨rfl,v3,rfl⟩;refine⟨_,rfl,by simp,?_⟩;(with_reducible repeat'(first|simp(disch:=omega)only[push_cast,↓zz,seval,ps,ps',he,hrm]|refine sp_ ?_ ?_<;>try(intro hc;push_cast at hc)|omega|intro _))
  all_goals
   refine⟨⟨i+1,f3,S3,R3,v3⟩,?_⟩;(with_reducible repeat'(first|simp(disch:=omega)only[push_cast,↓zz,seval,ps]|refine sp_ ?_ ?_<;>try(intro hc;push_cast at hc)|omega|intro _))
  all_goals first|exact hk|omega
 ·obtain rfl:i=l.length:=by omega
  rw[List.drop_length,catR] at hk;obtain⟨⟨rfl,rfl⟩,rfl⟩:(S'=S2/\R'=R2)/\f'=f2:=by simpa using hk
  unfold mkH;refine W_T ?_;(with_reducible repeat'(first|simp(disch:=omega)only[push_cast,↓zz,seval,ps]|refine sp_ ?_ ?_<;>try(intro hc;push_cast at hc)|omega|intro _))
  (refine at_c [0,1] ((hRc v')) (by decide) (by simp) (by refine⟨?_,?_,?_,?_⟩<;>(simp(disch:=omega)only[push_cast,↓zz,seval,Af,Ai,Ap,Av,AH,Ar,ps])) ?_)
  rintro y H' ⟨rfl,v3,rfl⟩;refine⟨_,rfl,by simp,?_⟩;(with_reducible repeat'(first|simp(disch:=omega)only[push_cast,↓zz,seval,ps]|refine sp_ ?_ ?_<;>try(intro hc;push_cast at hc)|omega|intro _))
  (refine at_c [0,1] ((hSt2 v3)) (by decide) (by simp) (by refine⟨?_,?_,?_,?_⟩<;>(simp(disch:=omega)only[push_cast,↓zz,seval,Af,Ai,Ap,Av,AH,Ar,ps,Aw,AR,AZ,Aj,List.length_singleton])) ?_)
  rintro y H' ⟨rfl,rfl⟩;refine⟨_,rfl,by simp,?_⟩;(with_reducible repeat'(first|simp(disch:=omega)only[push_cast,↓zz,seval,ps,Aw,AR,AZ,Aj,List.length_singleton]|refine sp_ ?_ ?_<;>try(intro hc;push_cast at hc)|omega|intro _))
  (refine at_c [0,1] ((hRd v3)) (by decide) (by simp) (by refine⟨?_,?_,?_,?_⟩<;>(simp(disch:=omega)only[push_cast,↓zz,seval,Af,Ai,Ap,Av,AH,Ar,ps,Aw,AR,AZ,Aj,List.length_singleton])) ?_)
  rintro y H' ⟨rfl,v4,rfl⟩;refine⟨_,rfl,by simp,?_⟩;(with_reducible repeat'(first|simp(disch:=omega)only[push_cast,↓zz,seval,ps,Aw,AR,AZ,Aj,List.length_singleton]|refine sp_ ?_ ?_<;>try(intro hc;push_cast at hc)|omega|intro _));exact⟨_,_,Ent.refl,rfl,v4,by simp⟩
theorem z1e(n:Rec):EI n->Rj n:=by
 refine Rec.ind (P:=λn=>EI n->Rj n) ?_ n;intro k s b r w l ih hf f S R v hS hR;cases hfu:G6 S R with
 |true =>
  have e:mkM (.mk k s b r w l) f (S,R)=((S,R),f):=by rw[mkM,Ae (show Gt (S,R)=true from hfu)]
  rw[e];exact z7w _ f S R v hfu
 |false =>
  have ih2:∀n∈l,Rj n:=λn hn=>ih n hn (by cases hf with|mk _ _ _ _ h=>exact h n hn);by_cases h1:k=1
  ·subst h1;exact z7x s b r w l f S R v hf hfu hS hR
  by_cases h2:k=2
  ·subst h2;exact z7y s b r w l f S R v hf hfu hS hR
  by_cases h3:k=3
  ·subst h3;exact z7v r s b w l f S R v hf hS hR
  by_cases h5:k=5
  ·subst h5;exact zdx s b r w l f S R v hf hfu ih2 hS hR
  by_cases h6:k=6
  ·subst h6;exact z7z s b r w l f S R v hf hfu ih2 hS hR
  exact zdw k s b r w l f S R v hf hfu h1 h2 h3 h5 h6 ih2 hS hR
theorem WS:PC Tryz.prog 46 [.int .i64 2,.int .i64 2] (.agg [.int .i64 2,.int .i64 2,.int .i64 1,.int .i64 0,.nilS,.nilS]):=by
 refine Cf Ue ?_;unfold M1;(with_reducible repeat'(first|simp(disch:=omega)only[push_cast,↓zz,seval]|refine sp_ ?_ ?_<;>try(intro hc;push_cast at hc)|omega|intro _))
def PS:Desc:=⟨0,0,0,0,[],[]⟩
def Hq(n:Rec):Desc:=⟨2,2,(mkM n 0 (1,[])).1.1,0,(mkM n 0 (1,[])).1.2,[⟨(mkM n 0 (1,[])).2,[],[]⟩]⟩
def IK(n:Rec):Int:=if okR n 0=false then 2 else if Gt (mkM n 0 (1,[])).1=true then 4 else 0
abbrev zdy(n:Rec):AV:=.tup [DV (if IK n=0 then Hq n else PS),.int .i64 (IK n)]
abbrev zk6(n:Rec):AV:=.tup [if IK n=0 then .agg [.int .i64 2,.int .i64 2,.int .i64 (mkM n 0 (1,[])).1.1,.int .i64 0,FH (mkM n 0 (1,[])).1.2,.lst 3 [.agg [.int .i64 (mkM n 0 (1,[])).2,.nilS,.nilS]]] else DV PS,.int .i64 (IK n)]
theorem SV(n:Rec)(hf:EI n)(hc:cntN n<=10000):PC Tryz.prog 18 [recV n] (zk6 n):=by
 have hR:=Rh n hf;have hE:=WS;have hM:=z1e n hf 0 1 [] 1 (by omega) (by simp;omega);unfold zk6 IK PS;have pn:(recV n).pure=true:=OJ n;obtain⟨k,s,b,r,w,l,he⟩:∃k s b r w l,n=.mk k s b r w l:=by cases n;exact⟨_,_,_,_,_,_,rfl⟩
 generalize hT:mkM n 0 (1,[])=T at *;generalize okR n 0=q at *;rw[he,Cv] at *;obtain⟨⟨S,R⟩,t⟩:=T;simp only at hM ⊢;have ps:=BR s r w l;refine PP PH ?_;unfold JI;refine BG (W_T ?_);(with_reducible repeat'(first|simp(disch:=omega)only[push_cast,↓zz,seval,ps]|refine sp_ ?_ ?_<;>try(intro hc;push_cast at hc)|omega|intro _));refine BG (W_T ?_);cases q with
 |false =>
  rw[Ae rfl,Ab (by decide)];(with_reducible repeat'(first|simp(disch:=omega)only[push_cast,↓zz,seval,ps]|refine sp_ ?_ ?_<;>try(intro hc;push_cast at hc)|refine ee hR ?_|(refine cc hR ?_;simp(disch:=omega)only[push_cast,↓zz,seval,ps];fail_if_success change False)|omega|intro _))
  all_goals first|((repeat'(first|(simp(disch:=omega)only[push_cast,↓zz,seval,D3])|omega|(with_reducible refine Aa ?_ ?_)));done)
 |true =>
 rw[Ab (show ¬(true=false) by decide)];(with_reducible repeat'(first|simp(disch:=omega)only[push_cast,↓zz,seval,ps]|refine sp_ ?_ ?_<;>try(intro hc;push_cast at hc)|refine ee hR ?_|(refine cc hR ?_;simp(disch:=omega)only[push_cast,↓zz,seval,ps];fail_if_success change False)|omega|intro _));refine BG (W_T ?_);(with_reducible repeat'(first|simp(disch:=omega)only[push_cast,↓zz,seval,ps]|refine sp_ ?_ ?_<;>try(intro hc;push_cast at hc)|refine ee hE ?_|(refine cc hE ?_;simp(disch:=omega)only[push_cast,↓zz,seval,ps];fail_if_success change False)|omega|intro _))
 refine IT ((RO [5] (by decide)).trans (TZ (l':=[⟨6,1,true,[.agg [.int .i64 k,Bg s,.int .i64 b,A6 r,A6 w,.lst 6 (l.map recV)]]⟩,⟨6,1,true,[.agg [.int .i64 0,.int .i64 0,.int .i64 0,.int .i64 0,.nilS,.nilS]]⟩,
  ⟨6,1,true,[.agg [.int .i64 2,.int .i64 2,.int .i64 1,.int .i64 0,.ref 3 1 0 0,.nilS]]⟩,⟨5,1,false,[]⟩])
  ⟨⟨rfl,rfl,id,By _ _⟩,⟨rfl,rfl,id,By _ _⟩,⟨rfl,rfl,id,⟨⟨EL _ _,EL _ _,EL _ _,EL _ _,⟨rfl,rfl,rfl,(show 0<5 by decide),rfl,rfl,by simp⟩,EL _ _,rfl⟩,rfl⟩⟩,⟨rfl,rfl,λh=>(by cases h),rfl⟩,trivial⟩ (λi _=>EL _ _))) (BG (W_T ?_))
 have hM:B3 Tryz.prog 47 [.ptr 0 1 0 0,.agg [.int .i64 k,Bg s,.int .i64 b,A6 r,A6 w,.lst 6 (l.map recV)],.int .i64 0] (Abs.hl [⟨6,1,true,[.agg [.int .i64 2,.int .i64 2,.int .i64 1,.int .i64 0,.ref 1 1 0 0,.nilS]]⟩,⟨5,1,false,[]⟩])
  λy H'=>y=.int .i64 t/\∃v',H'=Abs.hl [⟨6,1,true,[.agg [.int .i64 2,.int .i64 2,.int .i64 S,.int .i64 0,.ref 1 v' 0 R.length,.nilS]]⟩,⟨5,v',false,R.map Hp⟩]:=hM
 have hFu:=λv=>Fo S R v;unfold mkH at hFu;(with_reducible repeat'(first|simp(disch:=omega)only[push_cast,↓zz,seval,ps]|refine sp_ ?_ ?_<;>try(intro hc;push_cast at hc)|omega|intro _))
 (refine at_c [2,3] (hM) (by decide) (by simp) (by refine⟨?_,?_,?_,?_⟩<;>(simp(disch:=omega)only[push_cast,↓zz,seval,Af,Ai,Ap,Av,AH,Ar,ps])) ?_)
 rintro y H' ⟨rfl,v1,rfl⟩;refine⟨_,rfl,by simp,?_⟩;(with_reducible repeat'(first|simp(disch:=omega)only[push_cast,↓zz,seval,ps]|refine sp_ ?_ ?_<;>try(intro hc;push_cast at hc)|omega|intro _));refine BG (W_T ?_);have hFu:=hFu v1;rw[show Gt (S,R)=G6 S R from rfl];cases hfu:G6 S R with
 |true =>
  rw[hfu] at hFu;rw[Ae rfl,Ab (by decide)];(with_reducible repeat'(first|simp(disch:=omega)only[push_cast,↓zz,seval,ps]|refine sp_ ?_ ?_<;>try(intro hc;push_cast at hc)|omega|intro _))
  (refine at_c [2,3] (hFu) (by decide) (by simp) (by refine⟨?_,?_,?_,?_⟩<;>(simp(disch:=omega)only[push_cast,↓zz,seval,Af,Ai,Ap,Av,AH,Ar,ps])) ?_)
  rintro y H' ⟨rfl,rfl⟩;refine⟨_,rfl,by simp,?_⟩;(with_reducible repeat'(first|simp(disch:=omega)only[push_cast,↓zz,seval,ps]|refine sp_ ?_ ?_<;>try(intro hc;push_cast at hc)|omega|intro _))
  all_goals first|((repeat'(first|(simp(disch:=omega)only[push_cast,↓zz,seval,D3])|omega|(with_reducible refine Aa ?_ ?_)));done)
 |false =>
  rw[hfu] at hFu;rw[Ab (show ¬(false=true) by decide),Ae rfl];(with_reducible repeat'(first|simp(disch:=omega)only[push_cast,↓zz,seval,ps]|refine sp_ ?_ ?_<;>try(intro hc;push_cast at hc)|omega|intro _))
  (refine at_c [2,3] (hFu) (by decide) (by simp) (by refine⟨?_,?_,?_,?_⟩<;>(simp(disch:=omega)only[push_cast,↓zz,seval,Af,Ai,Ap,Av,AH,Ar,ps])) ?_)
  rintro y H' ⟨rfl,rfl⟩;refine⟨_,rfl,by simp,?_⟩;(with_reducible repeat'(first|simp(disch:=omega)only[push_cast,↓zz,seval,ps]|refine sp_ ?_ ?_<;>try(intro hc;push_cast at hc)|omega|intro _));refine BG (W_T ?_);(with_reducible repeat'(first|simp(disch:=omega)only[push_cast,↓zz,seval,ps]|refine sp_ ?_ ?_<;>try(intro hc;push_cast at hc)|omega|intro _));refine BG (W_T ?_);(with_reducible repeat'(first|simp(disch:=omega)only[push_cast,↓zz,seval,ps]|refine sp_ ?_ ?_<;>try(intro hc;push_cast at hc)|omega|intro _));refine W_T ?_;(with_reducible repeat'(first|simp(disch:=omega)only[push_cast,↓zz,seval,ps]|refine sp_ ?_ ?_<;>try(intro hc;push_cast at hc)|omega|intro _))
  all_goals first|((repeat'(first|(simp(disch:=omega)only[push_cast,↓zz,seval,D3])|omega|(with_reducible refine Aa ?_ ?_)));done)
theorem Nf(n:Rec)(hf:EI n)(hc:cntN n<=10000):PC Tryz.prog 18 [recV n] (zdy n):=by
 refine znz (SV n hf hc) ?_;unfold zk6 zdy;by_cases h:IK n=0
 ·rw[Ae h,Ae h]
  refine AV.le_tup (AW (AV.le_agg ?_) (AW (AV.le_refl _) D2));refine AW (AV.le_refl _) (AW (AV.le_refl _) (AW (AV.le_refl _) (AW (AV.le_refl _) (AW (AV.le_refl _) (AW (AV.le_lst rfl (Ch [_]) ?_) D2)))));exact AW (AV.le_agg (AW (AV.le_refl _) (AW (AV.le_nilS (by decide)) (AW (AV.le_nilS (by decide)) D2)))) D2
 ·rw[Ab h,Ab h]
  exact AV.le_refl _
theorem z1f{c:Int}{gs:List (List Span)}(h4:gs.length<=4)(hc:Dh 2 c=true):Mk (Fw c) 2 2 gs=true:=by
 have hb:=JU hc;refine zdp (x:=c) h4 ?_ hb hc;have hs:Gr c=true:=AE (by omega);simp only[Ib,DF,conT,hs,Q3,G5,JO];simp[ZQ,Gr];rfl
theorem zdz{s:List Span}{b:Int}(hb:¬(b < -1114111\/1114111<b))(hm:Em (Fh s b) (domL 2)=[]):Mk (cpyT b) 2 2 [s]=true:=by
 have hsm:Gr b=true:=AE (by omega);refine (Pk (by simp)).2 ⟨?_,λw hw=>?_⟩
 ·simp only[Ib,DF,cpyT,hsm,Q3,G5]
  simp[ZQ,Gr,JO,E4,ID];rfl
 ·obtain⟨x,r,rfl,h1,h2⟩:=win_cons.1 hw
  obtain rfl:=z67.1 h2;have hx:=((Lk s).2 x).1 h1;have hr:E4 ⟨0,0,21,0⟩ 1=true:=by decide
  have hv:valP ⟨0,0,21,0⟩ x=x:=(Je (p:=⟨0,0,21,0⟩) (by decide) (by omega)).2.2
  have hd:memL (domL 2) (x+b):=by
   have hmv:memL (Fh s b) (x+b):=(Sv (by omega)).2 ⟨⟨by rw[Int.add_sub_cancel];exact hx.2,by omega,by omega⟩,by omega,by omega⟩
   exact AN λhn=>by
    have h3:=((J4 (Fh s b) (domL 2)).2 (x+b)).2 ⟨hmv,⟨by omega,by omega⟩,hn⟩;rw[hm] at h3;obtain⟨_,h4,_⟩:=h3;cases h4
  have hi:=Ph.1 hd;have hbd:=JU hi;have:=UK (t:=cpyT b) (p:=⟨0,0,21,0⟩) (x:=x) rfl hr rfl hsm rfl hx.1;have ho:(cpyT b).outer=⟨0,0,21,0⟩:=rfl;have hs:(cpyT b).sum=b:=rfl;have hbs:(cpyT b).base=0:=rfl;have hv2:valP ⟨0,0,21,0⟩ (b+x)=b+x:=(Je (p:=⟨0,0,21,0⟩) (by decide) (by omega)).2.2;rw[ho,hs,hbs,hv,hv2,Ae (by omega),FU,Int.add_comm] at this;rw[fitW,this];simp only[Ac,Ah];exact⟨hbd,hi⟩
def Vo(r:Rule):Prop:=GM 2 r.guards=true/\eatB r.guards.length r.eat=true/\(r.out.length<=64/\∀t∈r.out,Mk t 2 2 r.guards=true)
theorem Ii(a c:Int):Vo (CW a c [] []):=⟨rfl,rfl,Au _,λt ht=>by cases ht⟩
theorem WT(a c:Int){w:List Int}(hl:w.length<=64)(hw:∀x∈w,Dh 2 x=true):Vo (CW a c [] (w.map Fw)):=by
 refine⟨rfl,rfl,by show (w.map Fw).length<=64;rw[AY];exact hl,λt ht=>?_⟩;have ht:t∈w.map Fw:=ht;obtain⟨x,hx,rfl⟩:=Ax.1 ht;exact z1f (Au _) (hw x hx)
theorem z80{c:Int}(hc:Dh 2 c=true):EW 2 [⟨c,c⟩]=true:=by
 have hb:=JU hc
 have hm:Em [⟨c,c⟩] (domL 2)=[]:=by
  refine (Pi (λv hv=>?_) (λs hs=>?_)).2 λv hv=>?_
  ·obtain⟨s,hs,h1⟩:=hv
   simp only[Am] at hs;subst hs;simp only at h1;omega
  ·simp only[Am] at hs
   subst hs;exact BJ _
  ·obtain⟨s,hs,h1⟩:=hv
   simp only[Am] at hs;subst hs;simp only at h1;obtain rfl:v=c:=by omega
   exact Ph.2 hc
 have hk:JP [⟨c,c⟩]=true:=by
  simp only[JP,Lm];simp<;>omega
 simp[EW,hm,hk]
theorem Mn(a c:Int){s:List Span}(hs:EW 2 s=true){out:List Term}(hl:out.length<=64)(ho:∀t∈out,Mk t 2 2 [s]=true):Vo ⟨a,c,[s],1,out⟩ :=
 ⟨by simp[GM,hs],rfl,hl,ho⟩
def YU(n:Rec):Prop:=∀f S,∀r∈(mkP n f S).1,Vo r
theorem YV:∀(n:Nat)(w:List Int)(f S:Nat),(∀c∈w,Dh 2 c=true)->∀r∈(wrP n w f S).1,Vo r
 |0,w,f,S,hw,r,hr=>by cases hr
 |n+1,w,f,S,hw,r,hr=>by
  rw[wrP] at hr;split at hr
  ·cases hr
  ·rcases Af.1 hr with rfl|hr
   ·exact WT _ _ (by rw[BA];omega) λc hc=>hw c (B8 hc)
   ·exact YV n (w.drop 64) S (S+1) (λc hc=>hw c (BF hc)) r hr
theorem YW:∀(w:List Int)(f S:Nat),(∀c∈w,Dh 2 c=true)->∀r∈(rdP w f S).1,Vo r
 |[],f,S,hw,r,hr=>by cases hr
 |c::w,f,S,hw,r,hr=>by
  rcases Af.1 hr with rfl|hr
  ·rw[L1 _ _ (by simp)]
   exact Mn _ _ (z80 (hw c (by simp))) (Au _) λt ht=>by cases ht
  ·exact YW w S (S+1) (λc hc=>hw c (by simp[hc])) r hr
theorem P0:∀(l:List Rec),(∀n∈l,YU n)->∀f S,∀r∈(catP l f S).1,Vo r
 |[],_,f,S,r,hr=>by rw[catP] at hr;cases hr
 |n::l,h,f,S,r,hr=>by
  rw[catP] at hr;rcases Ao.1 hr with hr|hr
  ·exact h n (by simp) _ _ r hr
  ·exact P0 l (λm hm=>h m (by simp[hm])) _ _ r hr
theorem Vp:∀(l:List Rec),(∀n∈l,YU n)->∀f t S,∀r∈(altP l f t S).1,Vo r
 |[],_,f,t,S,r,hr=>by rw[altP] at hr;cases hr
 |n::l,h,f,t,S,r,hr=>by
  rw[altP] at hr;simp only[Ao,Af] at hr;rcases hr with (rfl|hr)|rfl|hr
  ·exact Ii _ _
  ·exact h n (by simp) _ _ r hr
  ·exact Ii _ _
  ·exact Vp l (λm hm=>h m (by simp[hm])) _ _ _ r hr
theorem YX(n:Rec):∀d,okR n d=true->YU n:=by
 refine Rec.ind (P:=λn=>∀d,okR n d=true->YU n) ?_ n;intro k s b r w l ih d h f S q hq;rw[okR,Ac] at h;obtain⟨_,h⟩:=h;rw[mkP] at hq;by_cases h1:k=1
 ·subst h1
  simp only[Int.reduceEq,↓reduceIte,or_self,Ap,BC,BD,Bm,Be,Bu,Ac,AA,AQ,Ah] at h hq;have hs:=Lz h.2.1;rw[L1 _ _ hs,Am] at hq;subst hq;refine Mn _ _ h.2.1 (by show 1<=64;omega) λt ht=>?_;rw[Am] at ht;subst ht;exact zdz h.1 h.2.2
 by_cases h2:k=2
 ·subst h2
  simp only[Int.reduceEq,↓reduceIte,or_self,Ap,BC,BD,Bm,Be,Bu,Ac,AA] at h hq;have hs:=Lz h;rw[L1 _ _ hs,Am] at hq;subst hq;exact Mn _ _ h (Au _) λt ht=>by cases ht
 by_cases h3:k=3
 ·subst h3
  simp only[Int.reduceEq,↓reduceIte,or_self,Ap,BC,BD,Bm,Be,Bu,Ac,AA] at h hq;rw[AP,AP] at h;rcases Ao.1 hq with hq|hq
  ·exact YV _ _ _ _ h.2 q hq
  ·exact YW _ _ _ h.1 q hq
 by_cases h5:k=5
 ·subst h5
  simp only[Int.reduceEq,↓reduceIte,or_self,Ap,BC,BD,Bm,Be,Bu,Ac,AA] at h hq;exact Vp l (λn hn=>ih n hn _ (F8 h n hn)) _ _ _ q hq
 by_cases h6:k=6
 ·subst h6
  simp only[Int.reduceEq,↓reduceIte,or_self,Ap,BC,BD,Bm,Be,Bu,Ac,AA] at h hq;rw[zk3] at hq;simp only[Ao,Af,Ai,Ap] at hq;rcases hq with ((rfl|rfl)|hq)|rfl|rfl
  ·exact Ii _ _
  ·exact Ii _ _
  ·exact P0 l (λn hn=>ih n hn _ (F8 h.1 n hn)) _ _ q hq
  ·exact Ii _ _
  ·exact Ii _ _
 by_cases h4:k=4
 ·subst h4
  simp only[Int.reduceEq,↓reduceIte,or_self,Ap,BC,BD,Bm,Be,Bu,Ac,AA] at h hq;exact P0 l (λn hn=>ih n hn _ (F8 h n hn)) _ _ q hq
 ·rw[Ab h1,Ab h2,Ab h3,Ab (by omega),Ab h6] at h
  cases h
theorem K1{n:Rec}(h:IK n=0):okR n 0=true/\Gt (mkM n 0 (1,[])).1=false/\Hq n=⟨2,2,(mkP n 0 1).2.1,0,(mkP n 0 1).1,[⟨(mkP n 0 1).2.2,[],[]⟩]⟩/\(mkP n 0 1).2.1<=1024/\(mkP n 0 1).1.length<=4096:=by
 have h1:okR n 0=true:=by
  cases e:okR n 0
  ·rw[IK,Ae e] at h;cases h
  ·rfl
 have h2:Gt (mkM n 0 (1,[])).1=false:=by
  cases e:Gt (mkM n 0 (1,[])).1
  ·rfl
  ·rw[IK,Ab (by rw[h1];simp),Ae e] at h;cases h
 have hl:=zk5 n 0 (1,[]) h2;rw[isP] at hl;simp only[List.nil_append] at hl;have hD:Hq n=⟨2,2,(mkP n 0 1).2.1,0,(mkP n 0 1).1,[⟨(mkP n 0 1).2.2,[],[]⟩]⟩:=by rw[Hq,hl]
 rw[hl] at h2;simp only[Gt,G6,Bool.or_eq_false_iff,AQ] at h2;exact⟨h1,by rw[hl];simp only[Gt,G6,Bool.or_eq_false_iff,AQ];exact h2,hD,by omega,by omega⟩
theorem Vq{n:Rec}(h:IK n=0)(x:List Int):Good x (semR x n) (Ho n) 0 1 (mkP n 0 1):=WQ n 0 (K1 h).1 0 1 (Nat.lt_succ_self 0)
theorem Rk{n:Rec}(h:IK n=0):GI (Hq n)=0:=by
 obtain⟨h1,_,hD,h3,h4⟩:=K1 h;have hg:=Vq h [];have hm:=hg.mono;have hto:=hg.to_;rw[inP] at hto;have hR:=YX n 0 h1 0 1;rw[hD];refine (Wx ?_ (λr hr=>?_) (λg hf=>?_) ?_).2
 ·simp only[Sz,IE,Ac,Ah]
  refine⟨by decide,by decide,by omega,by omega,⟨by omega,by omega⟩,by omega,by simp⟩
 ·obtain⟨a,c,k1,k2,k3,k4,k5⟩:=hg.dom r hr
  obtain⟨p1,p2,p3,p4⟩:=hR r hr;rw[inP] at k3;simp only[Ln,IE,I1,Ac,Ah,AP];exact⟨by omega,by omega,p1,p2,by omega,p4⟩
 ·simp only[Am] at hf
  subst hf;simp only[Hy,IE,I1,Ac,Ah];exact⟨by omega,rfl,by decide,rfl⟩
 ·rintro⟨C,hC,j,hj⟩
  have h0:¬C (0:Nat):=λh=>by
   obtain⟨_,r,hr,he,ht,_⟩:=hC _ h;obtain⟨a,c,k1,k2,k3,k4,k5⟩:=hg.dom r hr;omega
  obtain⟨hb,_⟩:=hC j hj;have hc:=(hg.cyc _ _ C hC λr hr c _ _ _=>hr).1;simp only[Int.toNat_natCast] at hb;rcases Nat.eq_zero_or_pos j.toNat with e|e
  ·exact h0 (by rw[show ((0:Nat):Int)=j by omega];exact hj)
  ·refine h0 (hc j.toNat e (by omega) ?_)
   rw[BE hb.1];exact hj
theorem YY{n:Rec}(h:IK n=0):Ml (Hq n):=by
 obtain⟨h1,_,hD,h3,h4⟩:=K1 h;have hR:=YX n 0 h1 0 1;rw[hD];refine⟨λr hr t ht=>?_,λf hf t ht=>?_⟩
 ·obtain⟨p1,p2,p3,p4⟩:=hR r hr
  have hb:r.guards.length<=4:=by simp only[GM,Ac,Ah] at p1;omega
  have:=((Pk hb).1 (p4 t ht)).1;simp only[Ib,DF,Ac,Ah] at this;omega
 ·simp only[Am] at hf
  subst hf;cases ht
theorem YZ{n:Rec}(h:IK n=0)(x w:List Int):RelW (Hq n) x 0 (Hq n).start w↔semR x n 0 x.length w:=by
 obtain⟨h1,_,hD,h3,h4⟩:=K1 h;have hg:=Vq h x;rw[hD]
 have hH:Host ⟨2,2,(mkP n 0 1).2.1,0,(mkP n 0 1).1,[⟨(mkP n 0 1).2.2,[],[]⟩]⟩ 0 1 (mkP n 0 1):=by
  refine⟨λr hr=>hr,λr hr a _ _ _=>hr,λg hf a hga _=>?_⟩;simp only[Am] at hf;subst hf;simp only at hga;omega
 have hend:∀e v,e<=x.length->(RelW ⟨2,2,(mkP n 0 1).2.1,0,(mkP n 0 1).1,[⟨(mkP n 0 1).2.2,[],[]⟩]⟩ x e ((mkP n 0 1).2.2:Nat) v↔e=x.length/\v=[]):=by
  intro e v he;rw[I6];constructor
  ·rintro (⟨f,hf,k1,⟨k2,k3⟩,k4⟩|⟨r,hr,k1,k2,v',k3,rfl⟩)
   ·simp only[Am] at hf
    subst hf;exact⟨by simpa using k2,k4⟩
   ·obtain⟨a,c,p1,p2,p3,p4,p5⟩:=hg.dom r hr
    exfalso;omega
  ·rintro⟨rfl,rfl⟩
   exact .inl ⟨⟨(mkP n 0 1).2.2,[],[]⟩,by simp,rfl,⟨by simp,by simp[goB]⟩,rfl⟩
 refine Iff.trans (hg.rel _ hH 0 w (Au _)) ?_;constructor
 ·rintro⟨e,u,v,k1,k2,rfl⟩
  obtain⟨rfl,rfl⟩:=(hend e v (hg.semd _ _ _ k1 (Au _)).2.1).1 k2;rw[A4];exact k1
 ·intro k1
  exact⟨_,w,[],k1,(hend _ _ (Ad _)).2 ⟨rfl,rfl⟩,(A4 _).symm⟩
abbrev exP:Rec:=.mk 3 [] 0 [97] [98,98] []
abbrev exN:Rec:=.mk 6 [] 0 [] [] [exP]
abbrev exM:Rec:=.mk 6 [] 0 [] [] [exN]
theorem P2:IK exN=0:=by decide +kernel
theorem ze0:Ho exN=true:=by decide +kernel
theorem zog:okR exM 0=false:=by decide +kernel
theorem P3{a e:Nat}{u:List Int}:semC [97,97] [exP] a e u↔a<2/\e=a+1/\u=[98,98]:=by
 have hs:semC [97,97] [exP]=seqS (seqS (wrS [98,98]) (seqS (symS [97,97] 97) idS)) idS:=by
  simp only[semC,semR,rdS,Int.reduceEq,↓reduceIte]
 rw[hs];constructor
 ·rintro⟨e1,u1,u2,⟨e2,v1,v2,⟨rfl,rfl⟩,⟨e3,w1,w2,⟨h1,h2,rfl,rfl⟩,⟨rfl,rfl⟩,rfl⟩,rfl⟩,⟨rfl,rfl⟩,rfl⟩
  exact⟨h1,rfl,rfl⟩
 ·rintro⟨h1,rfl,rfl⟩
  refine⟨_,_,[],⟨_,_,[],⟨rfl,rfl⟩,⟨_,[],[],⟨h1,?_,rfl,rfl⟩,⟨rfl,rfl⟩,rfl⟩,rfl⟩,⟨rfl,rfl⟩,rfl⟩;rcases (show a=0\/a=1 by omega) with rfl|rfl<;>rfl
theorem zk7{w:List Int}:semR [97,97] exN 0 2 w↔w=[98,98,98,98]:=by
 have hs:semR [97,97] exN=Star (semC [97,97] [exP]):=by
  conv=>lhs;rw[semR]
  simp only[Int.reduceEq,↓reduceIte]
 rw[hs]
 have h2:∀{a v},a=2->(Star (semC [97,97] [exP]) a 2 v↔v=[]):=by
  intro a v ha;constructor
  ·intro h
   cases h with
   |nil=>rfl
   |cons h1 h2=>have:=(P3.1 h1).1;omega
  ·rintro rfl;subst ha;exact .nil _
 have h1:∀{a v},a=1->(Star (semC [97,97] [exP]) a 2 v↔v=[98,98]):=by
  intro a v ha;constructor
  ·intro h
   cases h with
   |nil=>omega
   |cons k1 k2 =>
    obtain⟨_,rfl,rfl⟩:=P3.1 k1;rw[(h2 (by omega)).1 k2];rfl
  ·rintro rfl;subst ha;exact .cons (P3.2 ⟨by omega,rfl,rfl⟩) ((h2 rfl).2 rfl)
 constructor
 ·intro h
  cases h with
  |cons k1 k2 =>
   obtain⟨_,rfl,rfl⟩:=P3.1 k1;rw[(h1 (by omega)).1 k2];rfl
 ·rintro rfl
  exact .cons (P3.2 ⟨by omega,rfl,rfl⟩) ((h1 rfl).2 rfl)
theorem zk8:askV (Hq exN) [97,97]=0:=SN.2 ⟨Rk P2,by decide,by rw[(K1 P2).2.2.1];decide⟩
theorem zk9:outW (Hq exN) [97,97] 0 (Hq exN).start=[[98,98,98,98]]:=by
 refine Wy ⟨by simp[I3],λw=>?_⟩;rw[YZ P2,show ([97,97]:List Int).length=2 from rfl,zk7,Am]
abbrev exNV:AV:=.agg [.int .i64 6,.nilS,.int .i64 0,.nilS,.nilS,.lst 6 [.agg [.int .i64 3,.nilS,.int .i64 0,.lst 1 [.int .i32 97],.lst 1 [.int .i32 98,.int .i32 98],.nilS]]]
theorem WU:AV.le exNV (recV exN):=by
 rw[Cv];refine AV.le_agg (AW (AV.le_refl _) (AW (AV.le_nilS (by decide)) (AW (AV.le_refl _) (AW (AV.le_nilS (by decide)) (AW (AV.le_nilS (by decide)) (AW (AV.le_lst rfl (Lc _) ?_) D2))))));refine AW ?_ D2;rw[Cv];exact AV.le_agg (AW (AV.le_refl _) (AW (AV.le_nilS (by decide)) (AW (AV.le_refl _) (AW (AV.le_refl _) (AW (AV.le_refl _) (AW (AV.le_nilS (by decide)) D2))))))
abbrev exMV:AV:=.agg [.int .i64 6,.nilS,.int .i64 0,.nilS,.nilS,.lst 6 [exNV]]
theorem zka:AV.le exMV (recV exM):=by
 rw[Cv];refine AV.le_agg (AW (AV.le_refl _) (AW (AV.le_nilS (by decide)) (AW (AV.le_refl _) (AW (AV.le_nilS (by decide)) (AW (AV.le_nilS (by decide)) (AW (AV.le_lst rfl (Lc _) (AW WU D2)) D2))))))
theorem z81:EI exM:=by
 refine Vj exM ?_ (by decide +kernel);refine .mk (by simp[i64s];decide) ⟨by decide,λx hx=>by cases hx⟩ ⟨by decide,λx hx=>by cases hx⟩ ⟨by decide,λx hx=>by cases hx⟩ (by decide) λn hn=>?_;rw[Am] at hn;subst hn;refine .mk (by simp[i64s];decide) ⟨by decide,λx hx=>by cases hx⟩ ⟨by decide,λx hx=>by cases hx⟩ ⟨by decide,λx hx=>by cases hx⟩ (by decide) λn hn=>?_;rw[Am] at hn;subst hn;exact .mk (by simp[i64s];decide) ⟨by decide,λx hx=>by cases hx⟩ ⟨by decide,by decide⟩ ⟨by decide,by decide⟩ (by decide) λn hn=>by cases hn
theorem z82:EI exN:=by
 cases z81 with
 |mk hs hr hw hl hch=>exact hch exN (by simp)
theorem WW:PC Tryz.prog 17 [] (.bool true):=by
 have hC:=Iq (Nf exN z82 (by decide +kernel)) (AW WU D2);unfold zdy at hC;rw[Ae P2,P2] at hC;have hO:=Nc (Hq exN) [97,97] (YY P2) (by decide) (by decide) 2 (by decide) λ_=>AJ (Nat.min_le_left _ _) (by decide);unfold runA outA at hO;rw[Ab (by simp[zk8]),Ab (by decide),zk9,Ae (by decide)] at hO;have hR:=Iq (Rh exM z81) (AW zka D2);have hN:=Iq (z7i exN z82) (AW WU D2);rw[zog] at hR;rw[(K1 P2).1,ze0] at hN;have pR:=BO (Hq exN).rules;have pF:=Ch (Hq exN).finals;generalize Hq exN=D at *;have hrs:JZ [98,98,98,98]=[98,98,98,98]:=by decide +kernel
 refine PP RQ ?_;unfold KI;refine BG (W_T ?_);(with_reducible repeat'(first|simp(disch:=omega)only[push_cast,↓zz,seval]|refine sp_ ?_ ?_<;>try(intro hc;push_cast at hc)|omega|intro _));refine BG (W_T ?_);(with_reducible repeat'(first|simp(disch:=omega)only[push_cast,↓zz,seval]|refine sp_ ?_ ?_<;>try(intro hc;push_cast at hc)|omega|intro _));refine IT (ZY (l':=[⟨0,2,false,[]⟩,⟨0,2,false,[]⟩,⟨0,2,false,[]⟩,⟨6,1,true,[exNV]⟩]) (g:=3) (d:=8) [0,1,2] (by decide) (by simp) rfl (by decide) ?_ ?_) (BG (W_T ?_))
 ·(simp(disch:=omega)only[push_cast,↓zz,seval])
 ·rfl
 (with_reducible repeat'(first|simp(disch:=omega)only[push_cast,↓zz,seval,pR,pF]|refine sp_ ?_ ?_<;>try(intro hc;push_cast at hc)|refine ee hC ?_|(refine cc hC ?_;simp(disch:=omega)only[push_cast,↓zz,seval,pR,pF];fail_if_success change False)|omega|intro _));refine BG (W_T ?_);(with_reducible repeat'(first|simp(disch:=omega)only[push_cast,↓zz,seval,pR,pF]|refine sp_ ?_ ?_<;>try(intro hc;push_cast at hc)|refine ee hO ?_|(refine cc hO ?_;simp(disch:=omega)only[push_cast,↓zz,seval,pR,pF];fail_if_success change False)|omega|intro _));refine W_T ?_;(with_reducible repeat'(first|simp(disch:=omega)only[push_cast,↓zz,seval,pR,pF,hrs]|refine sp_ ?_ ?_<;>try(intro hc;push_cast at hc)|refine ee hR ?_|refine ee hN ?_|((first|refine cc hR ?_|refine cc hN ?_);simp(disch:=omega)only[push_cast,↓zz,seval,pR,pF,hrs];fail_if_success change False)|omega|intro _))
 all_goals
  refine⟨[98,98,98,98],rfl,?_⟩;(with_reducible repeat'(first|simp(disch:=omega)only[push_cast,↓zz,seval,pR,pF,hrs]|refine sp_ ?_ ?_<;>try(intro hc;push_cast at hc)|refine ee hR ?_|refine ee hN ?_|((first|refine cc hR ?_|refine cc hN ?_);simp(disch:=omega)only[push_cast,↓zz,seval,pR,pF,hrs];fail_if_success change False)|omega|intro _))
section
variable {x:List Int}
theorem zkb{s t:Sem}(h:∀a e u,s a e u↔t a e u):s=t:=by
 funext a e u;exact propext (h a e u)
theorem WX(s:Sem):Star s=orS idS (seqS s (Star s)):=zkb λa e u=>by
 constructor
 ·intro h
  cases h with
  |nil=>exact .inl ⟨rfl,rfl⟩
  |cons h1 h2=>exact .inr ⟨_,_,_,h1,h2,rfl⟩
 ·rintro (⟨rfl,rfl⟩|⟨e1,u1,u2,h1,h2,rfl⟩)
  ·exact .nil _
  ·exact .cons h1 h2
end
abbrev En:=Nat × List Int
def putE(l:List En)(e:En):List En:=if e∈l then l else l++[e]
def Fq(l es:List En):List En:=es.foldl putE l
theorem FW{l:List En}{e p:En}:p∈putE l e↔p∈l\/p=e:=by
 unfold putE;split
 ·rename_i h
  exact⟨.inl,λk=>k.elim id λk=>k ▸ h⟩
 ·simp
theorem Jn:∀{es l:List En}{p:En},p∈Fq l es↔p∈l\/p∈es
 |[],l,p=>by simp[Fq]
 |e::es,l,p=>by
  show p∈Fq (putE l e) es↔_;rw[Jn,FW,Af,F1]
theorem H0(l:List En)(e:En):l.length<=(putE l e).length/\(putE l e).length<=l.length+1:=by
 unfold putE;split<;>simp
theorem L3:∀(es l:List En),l.length<=(Fq l es).length/\(Fq l es).length<=l.length+es.length
 |[],l=>by simp[Fq]
 |e::es,l=>by
  have h1:=H0 l e;have h2:=L3 es (putE l e);show l.length<=(Fq (putE l e) es).length/\(Fq (putE l e) es).length<=_;simp only[List.length_cons];omega
def fewE(l:List En):Option (List En):=if l.length<=400 then some l else none
def oneE(x:List Int)(s:List Span)(f:Int->List Int):List En->List En->List En
 |[],out=>out
 |p::l,out=>oneE x s f l (if p.1<x.length/\hasI s (nth x p.1)=true then putE out (p.1+1,p.2++f (nth x p.1)) else out)
def Mo(x r w:List Int):List En->List En->List En
 |[],out=>out
 |p::l,out=>Mo x r w l (if p.1+r.length<=x.length/\(x.drop p.1).take r.length=r then putE out (p.1+r.length,p.2++w) else out)
def Mp(body:List En->Option (List En)):Nat->List En->List En->Option (List En)
 |0,_,out=>some out
 |n+1,now,out=>if now.length=0 then some out else match body now with
  |none=>none
  |some l=>if (Fq out l).length<=400 then Mp body n l (Fq out l) else none
mutual
def endR(x:List Int):Rec->List En->Option (List En)
 |.mk k s b r w l,fr=>if k=1 then fewE (oneE x s (λv=>[v+b]) fr []) else if k=2 then fewE (oneE x s (λ_=>[]) fr [])
  else if k=3 then fewE (Mo x r w fr []) else if k=4 then endC x l fr else if k=5 then endA x l fr []
  else if k=6 then Mp (endC x l) (x.length+1) fr (Fq [] fr) else some []
def endC(x:List Int):List Rec->List En->Option (List En)
 |[],fr=>fewE fr
 |n::l,fr=>match endR x n fr with
  |none=>none
  |some o=>endC x l o
def endA(x:List Int):List Rec->List En->List En->Option (List En)
 |[],_,out=>fewE out
 |n::l,fr,out=>match endR x n fr with
  |none=>none
  |some o=>endA x l fr (Fq out o)
end
def SemF(s:Sem)(fr L:List En):Prop:=∀p:En,p∈L↔∃q∈fr,∃v,s q.1 p.1 v/\p.2=q.2++v
theorem L4{l L:List En}(h:fewE l=some L):L=l:=by
 unfold fewE at h;split at h
 ·exact (BW h).symm
 ·cases h
section
variable {x:List Int}
theorem zkc{fr:List En}:SemF idS fr fr:=λp=>by
 constructor
 ·intro h;exact⟨p,h,[],⟨rfl,rfl⟩,(A4 _).symm⟩
 ·rintro⟨q,hq,v,⟨h1,rfl⟩,h2⟩
  have:p=q:=Prod.ext h1 (by rw[h2,A4]);exact this ▸ hq
theorem ze1{s t:Sem}{fr M L:List En}(h1:SemF s fr M)(h2:SemF t M L):SemF (seqS s t) fr L:=λp=>by
 rw[h2 p];constructor
 ·rintro⟨q,hq,v,k1,k2⟩
  obtain⟨q0,hq0,v0,k3,k4⟩:=(h1 q).1 hq;exact⟨q0,hq0,v0++v,⟨_,v0,v,k3,k1,rfl⟩,by rw[k2,k4,A3]⟩
 ·rintro⟨q,hq,v,⟨e,u1,u2,k1,k2,rfl⟩,k3⟩
  exact⟨(e,q.2++u1),(h1 _).2 ⟨q,hq,u1,k1,rfl⟩,u2,k2,by rw[k3,A3]⟩
def P4(s:Sem)(x:List Int)(nl:Bool):Prop:=∀a e u,s a e u->a<=x.length->a<=e/\e<=x.length/\(nl=false->a<e)
def InX(x:List Int)(fr:List En):Prop:=∀q∈fr,q.1<=x.length
theorem z83{s:Sem}{nl:Bool}{fr L:List En}(hw:P4 s x nl)(hx:InX x fr)(h:SemF s fr L):InX x L:=λp hp=>by
 obtain⟨q,hq,v,k1,_⟩:=(h p).1 hp;exact (hw _ _ _ k1 (hx q hq)).2.1
theorem Rl{s:Sem}{body:List En->Option (List En)}(hw:P4 s x false)(hb:∀fr L,InX x fr->body fr=some L->SemF s fr L):∀(n:Nat)(now out L:List En),InX x now->(∀q∈now,x.length<q.1+n)->Mp body n now out=some L ->
 ∀p:En,p∈L↔p∈out\/∃q∈now,∃v,seqS s (Star s) q.1 p.1 v/\p.2=q.2++v
 |0,now,out,L,hx,hn,h,p=>by
  obtain rfl:out=L:=BW h;refine⟨.inl,λh=>h.elim id ?_⟩;rintro⟨q,hq,_⟩;have:=hx q hq;have:=hn q hq;omega
 |n+1,now,out,L,hx,hn,h,p=>by
  rw[Mp] at h;split at h
  ·rename_i h0
   obtain rfl:out=L:=BW h;refine⟨.inl,λh=>h.elim id ?_⟩;rintro⟨q,hq,_⟩;rw[Ay h0] at hq;cases hq
  ·split at h
   ·cases h
   ·rename_i l hl
    split at h
    ·have hs:=hb now l hx hl
     have hi:=Rl hw hb n l (Fq out l) L (z83 hw hx hs) (λq hq=>by
      obtain⟨q0,hq0,v,k1,_⟩:=(hs q).1 hq;have:=(hw _ _ _ k1 (hx q0 hq0)).2.2 rfl;have:=hn q0 hq0
      omega) h p
     rw[hi,Jn,F1];refine or_congr Fy ?_;constructor
     ·rintro (hp|⟨q,hq,v,k1,k2⟩)
      ·obtain⟨q,hq,v,k1,k2⟩:=(hs p).1 hp
       exact⟨q,hq,v,⟨_,v,[],k1,.nil _,(A4 _).symm⟩,k2⟩
      ·obtain⟨q0,hq0,v0,k3,k4⟩:=(hs q).1 hq
       refine⟨q0,hq0,v0++v,⟨_,v0,v,k3,?_,rfl⟩,by rw[k2,k4,A3]⟩;obtain⟨e,u1,u2,k5,k6,rfl⟩:=k1;exact .cons k5 k6
     ·rintro⟨q,hq,v,⟨e,u1,u2,k1,k2,rfl⟩,k3⟩
      have hm:(e,q.2++u1)∈l:=(hs _).2 ⟨q,hq,u1,k1,rfl⟩;generalize hpe:p.1=e2 at *;cases k2 with
      |nil =>
       refine .inl ?_;rw[A4] at k3;have:p=(p.1,q.2++u1):=Prod.ext rfl k3;rw[this,hpe];exact hm
      |cons k5 k6=>exact .inr ⟨_,hm,_,⟨_,_,_,k5,k6,rfl⟩,by rw[k3,A3]⟩
    ·cases h
theorem L5(s:List Span)(f:Int->List Int):∀(fr out:List En)(p:En),p∈oneE x s f fr out↔p∈out\/∃q∈fr,(q.1<x.length/\hasI s (nth x q.1)=true)/\p.1=q.1+1/\p.2=q.2++f (nth x q.1)
 |[],out,p=>by simp[oneE]
 |q::fr,out,p=>by
  rw[oneE,L5 s f fr];constructor
  ·rintro (h|⟨q',hq',h⟩)
   ·split at h
    ·rename_i hc
     rcases FW.1 h with h|rfl
     ·exact .inl h
     ·exact .inr ⟨q,by simp,hc,rfl,rfl⟩
    ·exact .inl h
   ·exact .inr ⟨q',by simp[hq'],h⟩
  ·rintro (h|⟨q',hq',h1,h2,h3⟩)
   ·refine .inl ?_
    split
    ·exact FW.2 (.inl h)
    ·exact h
   ·rcases Af.1 hq' with rfl|hq'
    ·refine .inl ?_
     rw[Ae h1];exact FW.2 (.inr (Prod.ext h2 h3))
    ·exact .inr ⟨q',hq',h1,h2,h3⟩
theorem P5(r w:List Int):∀(fr out:List En)(p:En),p∈Mo x r w fr out↔p∈out\/∃q∈fr,(q.1+r.length<=x.length/\(x.drop q.1).take r.length=r)/\p.1=q.1+r.length/\p.2=q.2++w
 |[],out,p=>by simp[Mo]
 |q::fr,out,p=>by
  rw[Mo,P5 r w fr];constructor
  ·rintro (h|⟨q',hq',h⟩)
   ·split at h
    ·rename_i hc
     rcases FW.1 h with h|rfl
     ·exact .inl h
     ·exact .inr ⟨q,by simp,hc,rfl,rfl⟩
    ·exact .inl h
   ·exact .inr ⟨q',by simp[hq'],h⟩
  ·rintro (h|⟨q',hq',h1,h2,h3⟩)
   ·refine .inl ?_
    split
    ·exact FW.2 (.inl h)
    ·exact h
   ·rcases Af.1 hq' with rfl|hq'
    ·refine .inl ?_
     rw[Ae h1];exact FW.2 (.inr (Prod.ext h2 h3))
    ·exact .inr ⟨q',hq',h1,h2,h3⟩
theorem Za:∀(r:List Int)(a e:Nat)(u:List Int),a<=x.length->(rdS x r a e u↔(a+r.length<=x.length/\(x.drop a).take r.length=r)/\e=a+r.length/\u=[])
 |[],a,e,u,ha=>by simp[rdS,idS,ha]
 |c::r,a,e,u,ha=>by
  rw[rdS];constructor
  ·rintro⟨e1,u1,u2,⟨h1,h2,rfl,rfl⟩,h3,rfl⟩
   obtain⟨⟨k1,k2⟩,k3,k4⟩:=(Za r _ _ _ (by omega)).1 h3;refine⟨⟨by simp only[List.length_cons];omega,?_⟩,by simp only[List.length_cons];omega,by rw[k4]⟩;rw[drop_at h1,List.length_cons,List.take_succ_cons,k2,h2]
  ·rintro⟨⟨h1,h2⟩,h3,rfl⟩
   simp only[List.length_cons] at h1 h3;have hlt:a<x.length:=by omega
   rw[drop_at hlt,List.length_cons,List.take_succ_cons,DZ] at h2;exact⟨a+1,[],[],⟨hlt,h2.1,rfl,rfl⟩,(Za r _ _ _ (by omega)).2 ⟨⟨by omega,h2.2⟩,by omega,rfl⟩,rfl⟩
end
theorem zkd{b v:Int}(hb:¬(b < -1114111\/1114111<b))(h0:0<=v/\v<=1114111)(h1:0<=v+b/\v+b<=1114111):EH (cpyT b) [v]=some (v+b):=by
 have hsm:Gr b=true:=AE (by omega);have hr:E4 ⟨0,0,21,0⟩ 1=true:=by decide
 have hv:valP ⟨0,0,21,0⟩ v=v:=(Je (p:=⟨0,0,21,0⟩) (by decide) (by omega)).2.2;have:=UK (t:=cpyT b) (p:=⟨0,0,21,0⟩) (x:=v) rfl hr rfl hsm rfl h0;have ho:(cpyT b).outer=⟨0,0,21,0⟩:=rfl;have hs:(cpyT b).sum=b:=rfl;have hbs:(cpyT b).base=0:=rfl;have hv2:valP ⟨0,0,21,0⟩ (b+v)=b+v:=(Je (p:=⟨0,0,21,0⟩) (by decide) (by omega)).2.2;rw[ho,hs,hbs,hv,hv2,Ae (by omega),FU,Int.add_comm] at this;exact this
theorem Vr{s:List Span}{b v:Int}(hb:¬(b < -1114111\/1114111<b))(hm:Em (Fh s b) (domL 2)=[])(h0:0<=v/\v<=1114111)(hv:hasI s v=true):Dh 2 (v+b)=true:=by
 have hmem:=(GU.1 hv).2.2;have hmv:memL (Fh s b) (v+b):=(Sv (by omega)).2 ⟨⟨by rw[Int.add_sub_cancel];exact hmem,by omega,by omega⟩,by omega,by omega⟩
 exact Ph.1 (AN λhn=>by
  have h3:=((J4 (Fh s b) (domL 2)).2 (v+b)).2 ⟨hmv,⟨by omega,by omega⟩,hn⟩;rw[hm] at h3;obtain⟨_,h4,_⟩:=h3
  cases h4)
section
variable {x:List Int}
theorem Zb(s:List Span)(a:Nat):goB x [s] a=true↔a<x.length/\hasI s (nth x a)=true:=by
 simp only[goB,List.length_singleton,Ac,Ah,List.range_one,List.all_cons,List.all_nil,Do,Nat.add_zero];show 1+a<=x.length/\hasI s (nth x a)=true↔_;exact and_congr_left λ_=>by omega
theorem ze2{a:Nat}(h:a<x.length):(x.drop a).take 1=[nth x a]:=by
 rw[drop_at h];rfl
theorem Jo{n:Rec}{d:Int}(h:okR n d=true):P4 (semR x n) x (Ho n):=(WQ n d h 0 1 (Nat.lt_succ_self 0)).semd
theorem Mq{l:List Rec}{d:Int}(h:okL l d=true):P4 (semC x l) x (Ei l):=(N7 l (λn hn=>WQ n d (F8 h n hn)) 0 1 (Nat.lt_succ_self 0)).semd
def Zc(x:List Int)(n:Rec):Prop:=∀d,okR n d=true->∀fr L,InX x fr->endR x n fr=some L->SemF (semR x n) fr L
theorem SX:∀(l:List Rec),(∀n∈l,Zc x n)->∀d,okL l d=true->∀fr L,InX x fr->endC x l fr=some L->SemF (semC x l) fr L
 |[],_,d,hok,fr,L,hx,h=>by
  rw[endC] at h;rw[L4 h,semC];exact zkc
 |n::l,ih,d,hok,fr,L,hx,h=>by
  rw[endC] at h;rw[okL,Ac] at hok;split at h
  ·cases h
  ·rename_i o ho
   have h1:=ih n (by simp) d hok.1 fr o hx ho;have h2:=SX l (λm hm=>ih m (by simp[hm])) d hok.2 o L (z83 (Jo hok.1) hx h1) h;rw[semC];exact ze1 h1 h2
theorem z84:∀(l:List Rec),(∀n∈l,Zc x n)->∀d,okL l d=true->∀fr out L,InX x fr->endA x l fr out=some L->∀p:En,p∈L↔p∈out\/∃q∈fr,∃v,semA x l q.1 p.1 v/\p.2=q.2++v
 |[],_,d,hok,fr,out,L,hx,h,p=>by
  rw[endA] at h;rw[L4 h,semA];simp[noS]
 |n::l,ih,d,hok,fr,out,L,hx,h,p=>by
  rw[endA] at h;rw[okL,Ac] at hok;split at h
  ·cases h
  ·rename_i o ho
   have h1:=ih n (by simp) d hok.1 fr o hx ho;rw[z84 l (λm hm=>ih m (by simp[hm])) d hok.2 fr (Fq out o) L hx h p,Jn,h1 p,semA,F1];refine or_congr Fy ?_;constructor
   ·rintro (⟨q,hq,v,k1,k2⟩|⟨q,hq,v,k1,k2⟩)
    ·exact⟨q,hq,v,.inl k1,k2⟩
    ·exact⟨q,hq,v,.inr k1,k2⟩
   ·rintro⟨q,hq,v,k1|k1,k2⟩
    ·exact .inl ⟨q,hq,v,k1,k2⟩
    ·exact .inr ⟨q,hq,v,k1,k2⟩
theorem z85(hsc:∀v∈x,Dh 2 v=true)(n:Rec):Zc x n:=by
 have hat:∀a,a<x.length->0<=nth x a/\nth x a<=1114111:=λa ha=>JU (hsc _ (AS ha));refine Rec.ind (P:=Zc x) ?_ n;intro k s b r w l ih d hok fr L hx h;have hok0:=hok;rw[okR,Ac] at hok;obtain⟨_,hok⟩:=hok;rw[endR] at h;rw[semR];by_cases h1:k=1
 ·subst h1
  simp only[Int.reduceEq,↓reduceIte,or_self,Ap,BC,BD,Bm,Be,Bu,Ac,AA,AQ,Ah] at h hok ⊢;rw[L4 h];intro p;rw[L5];simp only[Ai,Bm];refine exists_congr λq=>and_congr_right λhq=>?_
  have hh:∀a,a<x.length/\hasI s (nth x a)=true->FM x [cpyT b] [s] a=[nth x a+b]:=λa ha=>by
   have hd:=JU (Vr hok.1 hok.2.2 (hat a ha.1) ha.2);show [IntKind.i32.wrap ((EH (cpyT b) ((x.drop a).take 1)).getD 0)]=_;rw[ze2 ha.1,zkd hok.1 (hat a ha.1) hd,Option.getD_some,IntWalk.i32_in _ (by omega)]
  constructor
  ·rintro⟨k1,k2,k3⟩
   exact⟨_,⟨(Zb s q.1).2 k1,k2,rfl⟩,by rw[k3];exact Dl (q.2++·) (hh q.1 k1).symm⟩
  ·rintro⟨v,⟨k1,k2,rfl⟩,k3⟩
   have k1:=(Zb s q.1).1 k1;exact⟨k1,k2,by rw[k3];exact Dl (q.2++·) (hh q.1 k1)⟩
 by_cases h2:k=2
 ·subst h2
  simp only[Int.reduceEq,↓reduceIte,or_self,Ap,BC,BD,Bm,Be,Bu,Ac,AA] at h hok ⊢;rw[L4 h];intro p;rw[L5];simp only[Ai,Bm];refine exists_congr λq=>and_congr_right λhq=>?_;constructor
  ·rintro⟨k1,k2,k3⟩
   exact⟨_,⟨(Zb s q.1).2 k1,k2,rfl⟩,k3⟩
  ·rintro⟨v,⟨k1,k2,rfl⟩,k3⟩
   exact⟨(Zb s q.1).1 k1,k2,k3⟩
 by_cases h3:k=3
 ·subst h3
  simp only[Int.reduceEq,↓reduceIte,or_self,Ap,BC,BD,Bm,Be,Bu,Ac,AA] at h hok ⊢;rw[L4 h];intro p;rw[P5];simp only[Ai,Bm];refine exists_congr λq=>and_congr_right λhq=>?_;constructor
  ·rintro⟨k1,k2,k3⟩
   exact⟨w,⟨q.1,w,[],⟨rfl,rfl⟩,(Za r _ _ _ (hx q hq)).2 ⟨k1,k2,rfl⟩,(A4 _).symm⟩,k3⟩
  ·rintro⟨v,⟨e1,u1,u2,⟨rfl,rfl⟩,k2,rfl⟩,k3⟩
   obtain⟨k4,k5,rfl⟩:=(Za r _ _ _ (hx q hq)).1 k2;exact⟨k4,k5,by rw[k3,A4]⟩
 by_cases h4:k=4
 ·subst h4
  simp only[Int.reduceEq,↓reduceIte,or_self,Ap,BC,BD,Bm,Be,Bu,Ac,AA] at h hok ⊢;exact SX l ih _ hok fr L hx h
 by_cases h5:k=5
 ·subst h5
  simp only[Int.reduceEq,↓reduceIte,or_self,Ap,BC,BD,Bm,Be,Bu,Ac,AA] at h hok ⊢;intro p;rw[z84 l ih _ hok fr [] L hx h p];simp
 by_cases h6:k=6
 ·subst h6
  simp only[Int.reduceEq,↓reduceIte,or_self,Ap,BC,BD,Bm,Be,Bu,Ac,AA] at h hok ⊢;have hw:=Mq (x:=x) hok.1;rw[hok.2] at hw;intro p;rw[Rl hw (λfr L hx h=>SX l ih _ hok.1 fr L hx h) _ _ _ _ hx (λq hq=>by omega) h p,Jn]
  conv=>rhs;rw[WX (semC x l)]
  simp only[Ai,Bm];constructor
  ·rintro (hp|⟨q,hq,v,k1,k2⟩)
   ·exact⟨p,hp,[],.inl ⟨rfl,rfl⟩,(A4 _).symm⟩
   ·exact⟨q,hq,v,.inr k1,k2⟩
  ·rintro⟨q,hq,v,⟨k1,rfl⟩|k1,k2⟩
   ·have:p=q:=Prod.ext k1 (by rw[k2,A4])
    exact .inl (this ▸ hq)
   ·exact .inr ⟨q,hq,v,k1,k2⟩
 ·rw[Ab h1,Ab h2,Ab h3,Ab (by omega),Ab h6] at hok
  cases hok
end
def UpS(st st':MSt)(a b:Nat):Prop:=st'.1<=st.1+a/\st'.2.length<=st.2.length+b
theorem UpS.trans{s t u:MSt}{a b c d:Nat}(h:UpS s t a b)(k:UpS t u c d):UpS s u (a+c) (b+d):=by
 obtain⟨h1,h2⟩:=h;obtain⟨k1,k2⟩:=k;exact⟨by omega,by omega⟩
theorem UpS.mono{s t:MSt}{a b c d:Nat}(h:UpS s t a b)(h1:a<=c)(h2:b<=d):UpS s t c d:=by
 obtain⟨k1,k2⟩:=h;exact⟨by omega,by omega⟩
theorem K2(st:MSt)(a b:Nat):UpS st st a b:=⟨by omega,by omega⟩
theorem up_add(st:MSt)(a c:Nat)(s:List Span)(out:List Term):UpS st (addR (newS st) a c s out) 1 1:=by simp[UpS,addR,newS]
theorem z86(st:MSt)(a c:Nat)(s:List Span)(out:List Term):UpS st (addR st a c s out) 0 1:=by simp[UpS,addR]
theorem zoh:∀(n:Nat)(w:List Int)(f:Nat)(st:MSt),UpS st (wrR n w f st).1 n n
 |0,w,f,st=>K2 _ _ _
 |n+1,w,f,st=>by
  rw[wrR];split
  ·exact K2 _ _ _
  ·exact ((up_add st f st.1 [] _).trans (zoh n _ _ _)).mono (by omega) (by omega)
theorem zoi:∀(r:List Int)(f:Nat)(st:MSt),UpS st (rdR r f st).1 r.length r.length
 |[],f,st=>K2 _ _ _
 |x::r,f,st=>by
  rw[rdR];split
  ·exact K2 _ _ _
  ·exact ((up_add st f st.1 [⟨x,x⟩] []).trans (zoi r _ _)).mono (by simp only[List.length_cons];omega) (by simp only[List.length_cons];omega)
theorem z87:∀(l:List Rec),(∀n∈l,∀f st,UpS st (mkM n f st).1 (3 * cntN n-1) (6 * cntN n-2))->∀f st,UpS st (catR l f st).1 (3 * cntA l-l.length) (6 * cntA l)
 |[],_,f,st=>by rw[catR];exact K2 _ _ _
 |n::l,h,f,st=>by
  have h1:=SP n;have h2:=JC l;rw[catR,cntA,List.length_cons];exact ((h n (by simp) f st).trans (z87 l (λm hm=>h m (by simp[hm])) _ _)).mono (by omega) (by omega)
theorem zfh:∀(l:List Rec),(∀n∈l,∀f st,UpS st (mkM n f st).1 (3 * cntN n-1) (6 * cntN n-2))->∀f t st,UpS st (altR l f t st) (3 * cntA l) (6 * cntA l)
 |[],_,f,t,st=>by rw[altR];exact K2 _ _ _
 |n::l,h,f,t,st=>by
  have:=SP n;rw[altR,cntA];exact ((((up_add st f st.1 [] []).trans (h n (by simp) _ _)).trans (z86 _ _ _ _ _)).trans (zfh l (λm hm=>h m (by simp[hm])) _ _ _)).mono (by omega) (by omega)
theorem mk_up(n:Rec):∀d,okR n d=true->∀f st,UpS st (mkM n f st).1 (3 * cntN n-1) (6 * cntN n-2):=by
 refine Rec.ind (P:=λn=>∀d,okR n d=true->∀f st,UpS st (mkM n f st).1 (3 * cntN n-1) (6 * cntN n-2)) ?_ n;intro k s b r w l ih d hok f st
 have hlen:k=6->0<l.length:=λh=>by
  rw[okR,Ac,Ab (by omega),Ab (by omega),Ab (by omega),Ab (by omega),Ae h,Ac] at hok;cases l with
  |nil=>simp[Ei] at hok
  |cons a l=>exact Nat.succ_pos _
 have ih:=λ(hL:okL l (d+1)=true) n (hn:n∈l)=>ih n hn (d+1) (F8 hL n hn)
 have hL:k≠1->k≠2->k≠3->okL l (d+1)=true:=λh1 h2 h3=>by
  rw[okR,Ac,Ab h1,Ab h2,Ab h3] at hok;have hok:=hok.2;split at hok
  ·exact hok
  ·split at hok
   ·rw[Ac] at hok;exact hok.1
   ·cases hok
 rw[mkM,cntN];split
 ·exact K2 _ _ _
 split
 ·exact (up_add _ _ _ _ _).mono (by omega) (by omega)
 split
 ·exact (up_add _ _ _ _ _).mono (by omega) (by omega)
 split
 ·exact ((zoh _ _ _ _).trans (zoi _ _ _)).mono (by omega) (by omega)
 rename_i h0 h1 h2 h3;have ih:=ih (hL h1 h2 h3);split
 ·exact ((show UpS st (newS st) 1 0 from ⟨Ad _,Ad _⟩).trans (zfh l ih _ _ _)).mono (by omega) (by omega)
 split
 ·rename_i h6
  have:=hlen h6;have:=JC l;exact ((((up_add st f st.1 [] []).trans (up_add _ _ _ _ _)).trans (z87 l ih _ _)).trans ((z86 _ _ _ _ _).trans (up_add _ _ _ _ _))).mono (by omega) (by omega)
 ·exact (z87 l ih _ _).mono (by omega) (by omega)
theorem WY{n:Rec}(h:Pz n=true):IK n=if okR n 0=false then 2 else 0:=by
 have hc:=Lx h
 have hf:okR n 0=true->Gt (mkM n 0 (1,[])).1=false:=λhok=>by
  obtain⟨h1,h2⟩:=mk_up n 0 hok 0 (1,[]);simp only[List.length_nil] at h1 h2;simp only[Gt,G6,Bool.or_eq_false_iff,AQ];omega
 rw[IK];by_cases h0:okR n 0=false
 ·rw[Ae h0,Ae h0]
 ·rw[Ab h0,Ab h0,Ab (by rw[hf (by simpa using h0)];simp)]
def z1g(m:Nat)(L:List En):List (List Int):=(L.filter λp=>decide (p.1=m)).map (·.2)
theorem zke{n:Rec}{x:List Int}{L:List En}(hc:IK n=0)(hsc:∀v∈x,Dh 2 v=true)(hq:askV (Hq n) x=0)(h:endR x n [(0,[])]=some L):outW (Hq n) x 0 (Hq n).start=I4 (z1g x.length L):=by
 refine Wy ⟨Ha _,λw=>?_⟩
 have hs:=z85 hsc n 0 (K1 hc).1 [(0,[])] L (λq hq=>by
  rw[Am] at hq;subst hq;exact Au _) h
 rw[YZ hc,Hn,z1g];simp only[Ax,Bn,Ah];constructor
 ·rintro⟨p,⟨h1,h2⟩,rfl⟩
  obtain⟨q,hq,v,k1,k2⟩:=(hs p).1 h1;rw[Am] at hq;subst hq;rw[h2] at k1;rw[k2];exact k1
 ·intro h1
  exact⟨(x.length,w),⟨(hs _).2 ⟨(0,[]),by simp,w,h1,rfl⟩,rfl⟩,rfl⟩
theorem ze3{m:Nat}(L:List En):(I4 (z1g m L)).length<=L.length:=by
 refine AJ (Pp _) ?_;rw[z1g,AY];exact BI _ _
abbrev EnQ:=List En × Bool
def fewP(l:List En):EnQ:=(l,decide (l.length<=400))
def optP(q:EnQ):Option (List En):=if q.2=true then some q.1 else none
theorem SY(l:List En):optP (fewP l)=fewE l:=by
 unfold optP fewP fewE;simp only[Ah]
def F9(body:List En->EnQ):Nat->List En->List En->EnQ
 |0,_,out=>(out,true)
 |n+1,now,out=>if now.length=0 then (out,true) else if (body now).2=true then
  (if (Fq out (body now).1).length<=400 then F9 body n (body now).1 (Fq out (body now).1) else ([],false))
  else ([],false)
mutual
def enR(x:List Int):Rec->List En->EnQ
 |.mk k s b r w l,fr=>if k=1 then fewP (oneE x s (λv=>[v+b]) fr []) else if k=2 then fewP (oneE x s (λ_=>[]) fr [])
  else if k=3 then fewP (Mo x r w fr []) else if k=4 then enC x l fr else if k=5 then enA x l fr []
  else if k=6 then F9 (enC x l) (x.length+1) fr (Fq [] fr) else ([],true)
def enC(x:List Int):List Rec->List En->EnQ
 |[],fr=>fewP fr
 |n::l,fr=>if (enR x n fr).2=true then enC x l (enR x n fr).1 else ([],false)
def enA(x:List Int):List Rec->List En->List En->EnQ
 |[],_,out=>fewP out
 |n::l,fr,out=>if (enR x n fr).2=true then enA x l fr (Fq out (enR x n fr).1) else ([],false)
end
section
variable {x:List Int}
theorem zkf{c:Prop}[Decidable c]{a b:EnQ}:optP (if c then a else b)=if c then optP a else optP b:=by split<;>rfl
theorem Rm{body:List En->Option (List En)}{bodyP:List En->EnQ}(h:∀fr,body fr=optP (bodyP fr)):∀(n:Nat)(now out:List En),Mp body n now out=optP (F9 bodyP n now out)
 |0,now,out=>rfl
 |n+1,now,out=>by
  rw[Mp,F9,h];by_cases h0:now.length=0
  ·rw[Ae h0,Ae h0];rfl
  rw[Ab h0,Ab h0];by_cases h1:(bodyP now).2=true
  ·rw[Ae h1,show optP (bodyP now)=some (bodyP now).1 from Ae h1]
   simp only;by_cases h2:(Fq out (bodyP now).1).length<=400
   ·rw[Ae h2,Ae h2,Rm h]
   ·rw[Ab h2,Ab h2];rfl
  ·rw[Ab h1,show optP (bodyP now)=none from Ab h1];rfl
theorem N9:∀(l:List Rec),(∀n∈l,∀fr,endR x n fr=optP (enR x n fr))->∀fr,endC x l fr=optP (enC x l fr)
 |[],_,fr=>by rw[endC,enC,SY]
 |n::l,h,fr=>by
  rw[endC,enC,h n (by simp)];by_cases h1:(enR x n fr).2=true
  ·rw[Ae h1,show optP (enR x n fr)=some (enR x n fr).1 from Ae h1]
   exact N9 l (λm hm=>h m (by simp[hm])) _
  ·rw[Ab h1,show optP (enR x n fr)=none from Ab h1];rfl
theorem Zd:∀(l:List Rec),(∀n∈l,∀fr,endR x n fr=optP (enR x n fr))->∀fr out,endA x l fr out=optP (enA x l fr out)
 |[],_,fr,out=>by rw[endA,enA,SY]
 |n::l,h,fr,out=>by
  rw[endA,enA,h n (by simp)];by_cases h1:(enR x n fr).2=true
  ·rw[Ae h1,show optP (enR x n fr)=some (enR x n fr).1 from Ae h1]
   exact Zd l (λm hm=>h m (by simp[hm])) _ _
  ·rw[Ab h1,show optP (enR x n fr)=none from Ab h1];rfl
theorem WZ(n:Rec):∀fr,endR x n fr=optP (enR x n fr):=by
 refine Rec.ind (P:=λn=>∀fr,endR x n fr=optP (enR x n fr)) ?_ n;intro k s b r w l ih fr;rw[endR,enR];simp only[zkf,SY];rw[N9 l ih,Zd l ih,Rm (N9 l ih)];rfl
end
theorem ze4{s:Sem}{P:Nat->Prop}{c k:Nat}{x:List Int}(hw:P4 s x false)(h:∀a e u,a<=x.length->s a e u->u.length<=k * (e-a)+c){a e:Nat}{u:List Int}(hs:Star s a e u):a<=x.length->u.length<=(k+c) * (e-a):=by
 induction hs with
 |nil a=>intro _;simp
 |@cons a e e2 u v h1 h2 ih =>
  intro ha;obtain⟨k1,k2,k3⟩:=hw _ _ _ h1 ha;have k3:=k3 rfl;have h4:=h _ _ _ ha h1;have h5:=ih k2;have h6:=(z6e (λa e u hs ha=>⟨(hw a e u hs ha).1,(hw a e u hs ha).2.1⟩) h2 k2).1;rw[Aj];obtain⟨p,hp⟩:∃p,e-a=p+1:=⟨e-a-1,by omega⟩;have e1:e2-a=(p+1)+(e2-e):=by omega
  rw[hp] at h4;rw[e1,Nat.mul_add,AG k c (p+1),Nat.mul_add c p 1,ER];omega
def Lim(g c p:Nat):Nat:=g * c * p+c
theorem L6{g g' c c' p p':Nat}(h1:g<=g')(h2:c<=c')(h3:p<=p'):Lim g c p<=Lim g' c' p' :=
 Nat.add_le_add (Ca (Ca h1 h2) h3) h2
theorem z88(g c1 c2 p q:Nat):Lim g c1 p+Lim g c2 q<=Lim g (c1+c2) (p+q):=by
 have h1:g * c1 * p<=g * c1 * (p+q):=Nat.mul_le_mul_left _ (by omega);have h2:g * c2 * q<=g * c2 * (p+q):=Nat.mul_le_mul_left _ (by omega);unfold Lim;rw[Nat.mul_add g,AG (g * c1)];omega
section
variable {x:List Int}
def z89(x:List Int)(g:Nat)(n:Rec):Prop:=∀a e u,a<=x.length->semR x n a e u->u.length<=Lim g (cntN n) (e-a)
theorem SZ{g:Nat}:∀(l:List Rec),(∀n∈l,∃nl,P4 (semR x n) x nl)->(∀n∈l,z89 x g n)->∀a e u,a<=x.length->semC x l a e u->a<=e/\u.length<=Lim g (cntA l) (e-a)
 |[],_,_,a,e,u,ha,h=>by
  rw[semC] at h;obtain⟨rfl,rfl⟩:=h;exact⟨Ad _,Au _⟩
 |n::l,hw,hl,a,e,u,ha,h=>by
  rw[semC] at h;obtain⟨e1,u1,u2,h1,h2,rfl⟩:=h;obtain⟨nl,hw1⟩:=hw n (by simp);obtain⟨k1,k2,_⟩:=hw1 _ _ _ h1 ha;have h3:=hl n (by simp) _ _ _ ha h1;obtain⟨k3,h4⟩:=SZ l (λm hm=>hw m (by simp[hm])) (λm hm=>hl m (by simp[hm])) e1 e u2 k2 h2;refine⟨by omega,?_⟩;have h5:=z88 g (cntN n) (cntA l) (e1-a) (e-e1);rw[show (e1-a)+(e-e1)=e-a by omega] at h5;rw[Aj,cntA];omega
theorem z8a{g:Nat}:∀(l:List Rec),(∀n∈l,z89 x g n)->∀a e u,a<=x.length->semA x l a e u->u.length<=Lim g (cntA l) (e-a)
 |[],_,a,e,u,ha,h=>by rw[semA] at h;cases h
 |n::l,hl,a,e,u,ha,h=>by
  rw[semA] at h;rw[cntA];rcases h with h|h
  ·exact AJ (hl n (by simp) _ _ _ ha h) (L6 (Ad _) (by omega) (Ad _))
  ·exact AJ (z8a l (λm hm=>hl m (by simp[hm])) a e u ha h) (L6 (Ad _) (by omega) (Ad _))
theorem zfi:∀(r:List Int){a e:Nat}{u:List Int},rdS x r a e u->u=[]
 |[],_,_,_,h=>h.2
 |c::r,_,_,_,h=>by
  obtain⟨e1,u1,u2,⟨_,_,_,rfl⟩,h2,rfl⟩:=h;rw[zfi r h2]
theorem z8b(n:Rec):∀(d:Int)(g:Nat),okR n d=true->d+g=66->z89 x g n:=by
 refine Rec.ind (P:=λn=>∀(d:Int)(g:Nat),okR n d=true->d+g=66->z89 x g n) ?_ n;intro k s b r w l ih d g hok hg a e u ha h;have hd:=SE hok;obtain⟨g,rfl⟩:∃m,g=m+1:=⟨g-1,by omega⟩;have hwi:=Jo (x:=x) hok;rw[okR,Ac] at hok;obtain⟨_,hok⟩:=hok;rw[semR] at h;rw[cntN]
 have leaf:∀m,u.length<=m->m<=1+r.length+w.length+s.length+cntA l->u.length<=Lim (g+1) (1+r.length+w.length+s.length+cntA l) (e-a):=λm h1 h2=>by
  unfold Lim;omega
 have up:∀m,u.length<=Lim g (cntA l) m->m<=e-a->u.length<=Lim (g+1) (1+r.length+w.length+s.length+cntA l) (e-a):=λm h1 h2 =>
  AJ h1 (L6 (by omega) (by omega) h2)
 by_cases h1:k=1
 ·rw[Ae h1] at h
  obtain⟨_,_,rfl⟩:=h;exact leaf 1 (by simp[FM,FS]) (by omega)
 by_cases h2:k=2
 ·rw[Ab h1,Ae h2] at h
  obtain⟨_,_,rfl⟩:=h;exact leaf 0 (by simp[FM,FS]) (by omega)
 by_cases h3:k=3
 ·rw[Ab h1,Ab h2,Ae h3] at h
  obtain⟨e1,u1,u2,⟨_,rfl⟩,h4,rfl⟩:=h;rw[zfi r h4,A4] at leaf ⊢;exact leaf u1.length (Ad _) (by omega)
 rw[Ab h1,Ab h2,Ab h3] at hok h
 have hL:okL l (d+1)=true:=by
  split at hok
  ·exact hok
  ·split at hok
   ·rw[Ac] at hok;exact hok.1
   ·cases hok
 have ih:∀n∈l,z89 x g n:=λn hn=>ih n hn (d+1) g (F8 hL n hn) (by omega);have hw:∀n∈l,∃nl,P4 (semR x n) x nl:=λn hn=>⟨_,Jo (F8 hL n hn)⟩;by_cases h5:k=5
 ·rw[Ae h5] at h
  exact up _ (z8a l ih a e u ha h) (Ad _)
 by_cases h6:k=6
 ·rw[Ab h5,Ae h6] at h
  rw[Ab (by omega),Ae h6,Ac,AA] at hok;have hwc:=Mq (x:=x) hL;rw[hok.2] at hwc;have h7:=ze4 (k:=g * cntA l) (c:=cntA l) (P:=λ_=>True) hwc (λa e u ha hs=>(SZ l hw ih a e u ha hs).2) h ha;refine AJ h7 ?_;rw[show g * cntA l+cntA l=(g+1) * cntA l by rw[AG,Dd]];exact AJ (CB _ (cntA l)) (L6 (Ad _) (by omega) (Ad _))
 ·rw[Ab h5,Ab h6] at h
  exact up _ (SZ l hw ih a e u ha h).2 (Ad _)
end
abbrev enV(e:En):AV:=.agg [.int .i64 (e.1:Nat),A6 e.2]
theorem C4(l:List En):Bh (l.map enV)=true:=Ft (λe=>by
 have:Bh (e.2.map (AV.int .i32))=true:=D9 .i32 _
 simp[AV.pure,Bh,this]) l
theorem z8c{α:Type}[Inhabited α]{l:List α}{i:Nat}(h:i<l.length):l.take (i+1)=l.take i++[nth l i]:=by
 rw[List.take_add_one];simp[nth,List.getD,h]
theorem P6(l:List En)(e:En)(v:Nat)(hl:l.length<=1000000)(hw:∀p∈l,p.2.length<=1000000):
 B3 Tryz.prog 94 [.ref 0 v 0 l.length,enV e] (Abs.hl [⟨2,v,false,l.map enV⟩]) λy H'=>∃v',y=.ref 0 v' 0 (putE l e).length/\H'=Abs.hl [⟨2,v',false,(putE l e).map enV⟩]:=by
 have pl:=C4 l;have pe:=Bf e.2;refine DG (GD VO (BG (W_T ?_)));(with_reducible repeat'(first|simp(disch:=omega)only[push_cast,↓zz,seval,pl,pe]|refine sp_ ?_ ?_<;>try(intro hc;push_cast at hc)|omega|intro _));refine BG (W_T ?_);(with_reducible repeat'(first|simp(disch:=omega)only[push_cast,↓zz,seval,pl,pe]|refine sp_ ?_ ?_<;>try(intro hc;push_cast at hc)|omega|intro _));refine Br (Bs (λ(i:Nat)=>i<=l.length/\e∉l.take i) (λi=>l.length-i) (λi=>[(0,.ref 0 v 0 l.length),(3,.cptr (enV e)),(5,.int .i64 i)]) (λ_=>[⟨2,v,false,l.map enV⟩]) (λ_ _=>[]) 0 ⟨Au _,by simp⟩ ?_ ?_)
 ·(with_reducible repeat'(first|simp(disch:=omega)only[push_cast,↓zz,seval,pl,pe]|refine sp_ ?_ ?_<;>try(intro hc;push_cast at hc)|omega|intro _))
 rintro i ⟨hi,hno⟩;rcases Ak i l.length with hil|hil
 ·have hS:=JA (nth l i).2 e.2 (by have:=hw _ (AS hil);omega)
  have pn:Bh ((nth l i).2.map (AV.int .i32))=true:=D9 .i32 _;have hsn:l.take (i+1)=l.take i++[nth l i]:=z8c hil
  have hne:nth l i≠e->e∉l.take (i+1):=λh=>by
   rw[hsn,Ao,Am];rintro (h'|h')
   ·exact hno h'
   ·exact h h'.symm
  refine BG (W_T ?_);(with_reducible repeat'(first|simp(disch:=omega)only[push_cast,↓zz,seval,pl,pe]|refine sp_ ?_ ?_<;>try(intro hc;push_cast at hc)|omega|intro _));refine BG (Es (BG (W_T ?_)));by_cases h1:(nth l i).1=e.1
  ·by_cases h2:(nth l i).2=e.2
   ·have hin:nth l i=e:=Prod.ext h1 h2
    have hp:putE l e=l:=Ae (hin ▸ AS hil);rw[AE h2] at hS;rw[hp];(with_reducible repeat'(first|simp(disch:=omega)only[push_cast,↓zz,seval,pl,pe,pn,h1]|refine sp_ ?_ ?_<;>try(intro hc;push_cast at hc)|refine ee hS ?_|(refine cc hS ?_;simp(disch:=omega)only[push_cast,↓zz,seval,pl,pe,pn,h1];fail_if_success change False)|omega|intro _));refine W_T ?_;(with_reducible repeat'(first|simp(disch:=omega)only[push_cast,↓zz,seval,pl,pe]|refine sp_ ?_ ?_<;>try(intro hc;push_cast at hc)|omega|intro _));exact⟨_,_,Ent.refl,v,rfl,rfl⟩
   ·have hnm:=hne λh=>h2 (h ▸ rfl)
    rw[Bc h2] at hS;(with_reducible repeat'(first|simp(disch:=omega)only[push_cast,↓zz,seval,pl,pe,pn,h1]|refine sp_ ?_ ?_<;>try(intro hc;push_cast at hc)|refine ee hS ?_|(refine cc hS ?_;simp(disch:=omega)only[push_cast,↓zz,seval,pl,pe,pn,h1];fail_if_success change False)|omega|intro _));refine W_T ?_;(with_reducible repeat'(first|simp(disch:=omega)only[push_cast,↓zz,seval,pl,pe]|refine sp_ ?_ ?_<;>try(intro hc;push_cast at hc)|omega|intro _));refine W_T ?_;(with_reducible repeat'(first|simp(disch:=omega)only[push_cast,↓zz,seval,pl,pe]|refine sp_ ?_ ?_<;>try(intro hc;push_cast at hc)|omega|intro _))
    all_goals
     refine⟨i+1,?_⟩;(with_reducible repeat'(first|simp(disch:=omega)only[push_cast,↓zz,seval,pl,pe]|refine sp_ ?_ ?_<;>try(intro hc;push_cast at hc)|omega|intro _))
    all_goals first|exact hnm|omega
  ·have hnm:=hne λh=>h1 (h ▸ rfl)
   have h1:¬(((nth l i).1:Int)=e.1):=by omega
   (with_reducible repeat'(first|simp(disch:=omega)only[push_cast,↓zz,seval,pl,pe,pn,h1]|refine sp_ ?_ ?_<;>try(intro hc;push_cast at hc)|omega|intro _));refine W_T ?_;(with_reducible repeat'(first|simp(disch:=omega)only[push_cast,↓zz,seval,pl,pe]|refine sp_ ?_ ?_<;>try(intro hc;push_cast at hc)|omega|intro _));refine W_T ?_;(with_reducible repeat'(first|simp(disch:=omega)only[push_cast,↓zz,seval,pl,pe]|refine sp_ ?_ ?_<;>try(intro hc;push_cast at hc)|omega|intro _))
   all_goals
    refine⟨i+1,?_⟩;(with_reducible repeat'(first|simp(disch:=omega)only[push_cast,↓zz,seval,pl,pe]|refine sp_ ?_ ?_<;>try(intro hc;push_cast at hc)|omega|intro _))
   all_goals first|exact hnm|omega
 ·obtain rfl:i=l.length:=by omega
  have hp:putE l e=l++[e]:=Ab (by rwa [A7] at hno);rw[hp];refine W_T ?_;(with_reducible repeat'(first|simp(disch:=omega)only[push_cast,↓zz,seval,pl,pe]|refine sp_ ?_ ?_<;>try(intro hc;push_cast at hc)|omega|intro _));refine W_T ?_;(with_reducible repeat'(first|simp(disch:=omega)only[push_cast,↓zz,seval,pl,pe]|refine sp_ ?_ ?_<;>try(intro hc;push_cast at hc)|omega|intro _));refine⟨_,_,GV (l0:=[⟨2,v+1,false,l.map enV++[enV e]⟩]) (gar:=[⟨2,1,true,[enV e]⟩]) rfl (Ad _) (λG hG=>?_) (show 0<1 by omega),v+1,rfl,rfl⟩;rw[Am] at hG;subst hG;have:=C4 (l++[e]);rw[Aw] at this;exact CK _ _ this
abbrev ensV(l:List En):AV:=.lst 2 (l.map enV)
abbrev enqV(q:EnQ):AV:=.tup [ensV q.1,.bool q.2]
theorem Xa{P:Program}{f:Nat}{xs:List AV}{l l':List Grp}{K:AV->A5->Prop}(i d:Nat)(ks:List Nat){y y':AV}(hx:xs[i]? = some y)(f1:CJ d ((Abs.hl l).only ks) y)(f2:frzV d ((Abs.hl l).only ks) y=y')(hl':Ee 0 ks l=l')
 (h:@KD P f (xs.set i y') (Abs.hl l') ⟨K⟩):@KD P f xs (Abs.hl l) ⟨K⟩:=by
 subst hl';have h:B3 P f (xs.set i y') (Abs.hl (Ee 0 ks l)) K:=h
 have hk:B3 P f (xs.set i y') ((Abs.hl l).kill ks) K:=B3.congr (H':=Abs.hl (Ee 0 ks l)) (by simp[Abs.hl,A5.kill,FO]) (λj hj=>by
  show (Ee 0 ks l).getD j default=if j∈ks then (l.getD j default).dead else l.getD j default
  rw[Hs 0 ks l j hj,Bb]) h
 refine⟨hk.1,λS cargs hS hx'=>(hk.2 (S.kill (Abs.hl l) ks) cargs (Jw ks hS) ?_).mono λe w' hh=>?_⟩
 ·have h1:AB (S.kill (Abs.hl l) ks) xs cargs:=AB.mono (FV ks hS) _ hx'
  have hil:i<cargs.length:=by rw[hx'.length];exact (AI.1 hx).1
  have h2:VRel (S.kill (Abs.hl l) ks) y' cargs[i]:=by
   obtain⟨u,hu,h3⟩:=hx'.get hx;have hu2:cargs[i]=u:=BW ((Al hil).symm.trans hu);rw[hu2];have:=Jy ks hS d f1 h3
   rwa [f2] at this
  have h3:=AB.set (i:=i) h1 h2
  rwa [List.set_getElem_self] at h3
 ·obtain⟨v,S',x,H',rfl,rfl,ev,hS',hv,hK⟩:=hh
  exact⟨v,S',x,H',rfl,rfl,(FV ks hS).trans ev,hS',hv,hK⟩
theorem Ze(k:Int)(hk:k=1\/k=2)(s:List Span)(b:Int)(r w:List Int)(l:List Rec)(x:List Int)(fr:List En)(hs:s.length<=1000000)(hx:x.length<=1000000)(hfr:fr.length<=1000)(hfw:∀p∈fr,p.1<=x.length/\p.2.length<=900000)(hb:∀v∈x,hasI s v=true->k=1->0<=v+b/\v+b<=1114111)(hb2:k=1->¬(b < -1114111\/1114111<b))(hsc:∀v∈x,Dh 2 v=true)(f:Int->List Int)(hf1:k=1->f=λv=>[v+b])(hf2:k=2->f=λ_=>[]):
 PC Tryz.prog 57 [.agg [.int .i64 k,Bg s,.int .i64 b,A6 r,A6 w,.lst 6 (l.map recV)],A6 x,ensV fr] (enqV (fewP (oneE x s f fr []))):=by
 generalize hT:oneE x s f fr []=T;have ps:=BR s r w l;have px:=Bf x;have pf:=C4 fr;refine PP GH ?_;unfold Gg;refine BG (W_T ?_);(with_reducible repeat'(first|simp(disch:=omega)only[push_cast,↓zz,seval,ps,px,pf]|refine sp_ ?_ ?_<;>try(intro hc;push_cast at hc)|omega|intro _));refine BG (W_T ?_);(with_reducible repeat'(first|simp(disch:=omega)only[push_cast,↓zz,seval,ps,px,pf]|refine sp_ ?_ ?_<;>try(intro hc;push_cast at hc)|omega|intro _));refine BG (BG (W_T ?_));rcases hk with hk1|hk1
 all_goals
  (with_reducible repeat'(first|simp(disch:=omega)only[push_cast,↓zz,seval,ps,px,pf,hk1]|refine sp_ ?_ ?_<;>try(intro hc;push_cast at hc)|omega|intro _));refine Es (BG (BG (W_T ?_)));(with_reducible repeat'(first|simp(disch:=omega)only[push_cast,↓zz,seval,ps,px,pf,hk1]|refine sp_ ?_ ?_<;>try(intro hc;push_cast at hc)|omega|intro _));refine W_T ?_;(with_reducible repeat'(first|simp(disch:=omega)only[push_cast,↓zz,seval,ps,px,pf,hk1]|refine sp_ ?_ ?_<;>try(intro hc;push_cast at hc)|omega|intro _));refine W_T ?_;(with_reducible repeat'(first|simp(disch:=omega)only[push_cast,↓zz,seval,ps,px,pf,hk1]|refine sp_ ?_ ?_<;>try(intro hc;push_cast at hc)|omega|intro _))
 all_goals
  refine Br (Bs (λ(q:Nat × List En)=>q.1<=fr.length/\oneE x s f (fr.drop q.1) q.2=T/\q.2.length<=q.1/\(∀p∈q.2,p.2.length<=900001)) (λq=>fr.length-q.1)
   (λq=>[(1,A6 x),(2,ensV fr),(3,.cptr (.agg [.int .i64 k,Bg s,.int .i64 b,A6 r,A6 w,.lst 6 (l.map recV)])),(8,.ref 0 1 0 q.2.length),(9,.int .i64 q.1)]) (λq=>[⟨2,1,false,q.2.map enV⟩]) (λenv _=>[C7 2 (env 8)]) (0,[]) ⟨Au _,hT,Ad _,λp hp=>(by cases hp)⟩ ?_ ?_)
  ·(with_reducible repeat'(first|simp(disch:=omega)only[push_cast,↓zz,seval,ps,px,pf,hk1]|refine sp_ ?_ ?_<;>try(intro hc;push_cast at hc)|omega|intro _))
  rintro⟨i,o⟩ ⟨hi,hk,ho,how⟩;simp only at hi hk ho how ⊢;have po:=C4 o;rcases Ak i fr.length with hil|hil
  ·have hn:=hfw _ (AS hil)
   rw[drop_at hil,oneE] at hk;have hH:=λv=>OP s v (by omega);have pn:=Bf (nth fr i).2;refine BG (W_T ?_);(with_reducible repeat'(first|simp(disch:=omega)only[push_cast,↓zz,seval,ps,px,pf]|refine sp_ ?_ ?_<;>try(intro hc;push_cast at hc)|omega|intro _));refine BG (Es (BG (W_T ?_)));(with_reducible repeat'(first|simp(disch:=omega)only[push_cast,↓zz,seval,ps,px,pf]|refine sp_ ?_ ?_<;>try(intro hc;push_cast at hc)|omega|intro _));refine BG (W_T ?_);by_cases ha:(nth fr i).1<x.length
   ·have hH:=hH (nth x (nth fr i).1)
    have hxa:=JU (hsc _ (AS ha));have hwr:IntKind.i64.wrap (nth x (nth fr i).1)=nth x (nth fr i).1:=IntWalk.i64_in _ (by omega);(with_reducible repeat'(first|simp(disch:=omega)only[push_cast,↓zz,seval,ps,px,pf,pn,ha,hwr]|refine sp_ ?_ ?_<;>try(intro hc;push_cast at hc)|refine ee hH ?_|(refine cc hH ?_;simp(disch:=omega)only[push_cast,↓zz,seval,ps,px,pf,pn,ha,hwr];fail_if_success change False)|omega|intro _));cases hh:hasI s (nth x (nth fr i).1) with
    |false =>
     rw[Ab (by rw[hh];simp)] at hk;refine W_T ?_;(with_reducible repeat'(first|simp(disch:=omega)only[push_cast,↓zz,seval,ps,px,pf,pn]|refine sp_ ?_ ?_<;>try(intro hc;push_cast at hc)|omega|intro _));refine W_T ?_;(with_reducible repeat'(first|simp(disch:=omega)only[push_cast,↓zz,seval,ps,px,pf,pn]|refine sp_ ?_ ?_<;>try(intro hc;push_cast at hc)|omega|intro _))
     all_goals
      refine⟨(i+1,o),?_⟩;(with_reducible repeat'(first|simp(disch:=omega)only[push_cast,↓zz,seval,ps,px,pf,po]|refine sp_ ?_ ?_<;>try(intro hc;push_cast at hc)|omega|intro _))
     all_goals first|exact hk|exact how _ (by assumption)|exact how _|omega
    |true =>
     rw[Ae ⟨ha,hh⟩] at hk;refine W_T ?_;(with_reducible repeat'(first|simp(disch:=omega)only[push_cast,↓zz,seval,ps,px,pf,pn,hk1]|refine sp_ ?_ ?_<;>try(intro hc;push_cast at hc)|omega|intro _));have hem:(!((nth fr i).2.map (AV.int .i32)).isEmpty||((nth fr i).2.map (AV.int .i32)).isEmpty)=true:=by cases ((nth fr i).2.map (AV.int .i32)).isEmpty<;>rfl
     try rw[hem,RB]
     (with_reducible repeat'(first|simp(disch:=omega)only[push_cast,↓zz,seval,ps,px,pf,pn,hk1]|refine sp_ ?_ ?_<;>try(intro hc;push_cast at hc)|omega|intro _));have hfl:(f (nth x (nth fr i).1)).length<=1:=by first|(rw[hf1 hk1];exact Ad _)|(rw[hf2 hk1];exact Au _)
     have pn2:=Bf ((nth fr i).2++f (nth x (nth fr i).1));have hP:=P6 o ((nth fr i).1+1,(nth fr i).2++f (nth x (nth fr i).1)) 1 (by omega) (λp hp=>by have:=how p hp;omega);have hpl:=H0 o ((nth fr i).1+1,(nth fr i).2++f (nth x (nth fr i).1))
     have hpm:∀p∈putE o ((nth fr i).1+1,(nth fr i).2++f (nth x (nth fr i).1)),p.2.length<=900001:=λp hp=>by
      rcases FW.1 hp with hp|rfl
      ·exact how p hp
      ·simp only[Aj];omega
     have htk:(((nth fr i).2++f (nth x (nth fr i).1)).map (AV.int .i32)).take ((nth fr i).2.length+(f (nth x (nth fr i).1)).length)=((nth fr i).2++f (nth x (nth fr i).1)).map (AV.int .i32):=Az (by simp);have hyv:enV ((nth fr i).1+1,(nth fr i).2++f (nth x (nth fr i).1))=.agg [.int .i64 ((nth fr i).1+1),.lst 1 (((nth fr i).2++f (nth x (nth fr i).1)).map (AV.int .i32))]:=rfl;rw[hyv] at hP;generalize putE o ((nth fr i).1+1,(nth fr i).2++f (nth x (nth fr i).1))=o2 at *;have po2:=C4 o2
     first|rw[hf1 hk1] at hP pn2 htk|rw[hf2 hk1,A4] at hP pn2 htk
     simp only[Aw,AR,AZ,List.length_cons,List.length_nil,Nat.add_zero] at hP pn2 htk
     first
      |refine Xa (l':=[⟨2,1,false,o.map enV⟩,⟨0,3,false,[]⟩]) (y':=.agg [.int .i64 ((nth fr i).1+1),.lst 1 ((nth fr i).2.map (AV.int .i32)++[AV.int .i32 (nth x (nth fr i).1+b)])]) 1 4 [1] rfl (by (with_reducible repeat'(first|simp(disch:=omega)only[push_cast,↓zz,seval,pn,pn2,htk,Aj,AY,List.length_singleton]|refine sp_ ?_ ?_<;>try(intro hc;push_cast at hc)|omega|intro _))) (by (with_reducible repeat'(first|simp(disch:=omega)only[push_cast,↓zz,seval,pn,pn2,htk]|refine sp_ ?_ ?_<;>try(intro hc;push_cast at hc)|omega|intro _))) rfl ?_
      |refine Xa (l':=[⟨2,1,false,o.map enV⟩,⟨0,2,false,[]⟩]) (y':=.agg [.int .i64 ((nth fr i).1+1),.lst 1 ((nth fr i).2.map (AV.int .i32))]) 1 4 [1] rfl (by (with_reducible repeat'(first|simp(disch:=omega)only[push_cast,↓zz,seval,pn,pn2,htk,Aj,AY,List.length_singleton]|refine sp_ ?_ ?_<;>try(intro hc;push_cast at hc)|omega|intro _))) (by (with_reducible repeat'(first|simp(disch:=omega)only[push_cast,↓zz,seval,pn,pn2,htk]|refine sp_ ?_ ?_<;>try(intro hc;push_cast at hc)|omega|intro _))) rfl ?_
     (refine at_c [0] (hP) (by decide) (by simp) (by refine⟨?_,?_,?_,?_⟩<;>(simp(disch:=omega)only[push_cast,↓zz,seval,Af,Ai,Ap,Av,AH,Ar,pn,pn2,po])) ?_)
     rintro y H' ⟨v2,rfl,rfl⟩;refine⟨_,rfl,by simp,?_⟩;(with_reducible repeat'(first|simp(disch:=omega)only[push_cast,↓zz,seval,pn,pn2,po2]|refine sp_ ?_ ?_<;>try(intro hc;push_cast at hc)|omega|intro _));refine W_T ?_;(with_reducible repeat'(first|simp(disch:=omega)only[push_cast,↓zz,seval,pn,pn2,po2]|refine sp_ ?_ ?_<;>try(intro hc;push_cast at hc)|omega|intro _))
     all_goals
      refine⟨(i+1,o2),?_⟩;(with_reducible repeat'(first|simp(disch:=omega)only[push_cast,↓zz,seval,ps,px,pf,po2]|refine sp_ ?_ ?_<;>try(intro hc;push_cast at hc)|omega|intro _))
     all_goals first|exact hk|exact hpm|exact hpm _ (by assumption)|exact hpm _|omega
   ·rw[Ab λh=>ha h.1] at hk
    (with_reducible repeat'(first|simp(disch:=omega)only[push_cast,↓zz,seval,ps,px,pf,pn,ha]|refine sp_ ?_ ?_<;>try(intro hc;push_cast at hc)|omega|intro _));refine W_T ?_;(with_reducible repeat'(first|simp(disch:=omega)only[push_cast,↓zz,seval,ps,px,pf,pn]|refine sp_ ?_ ?_<;>try(intro hc;push_cast at hc)|omega|intro _));refine W_T ?_;(with_reducible repeat'(first|simp(disch:=omega)only[push_cast,↓zz,seval,ps,px,pf,pn]|refine sp_ ?_ ?_<;>try(intro hc;push_cast at hc)|omega|intro _))
    all_goals
     refine⟨(i+1,o),?_⟩;(with_reducible repeat'(first|simp(disch:=omega)only[push_cast,↓zz,seval,ps,px,pf,po]|refine sp_ ?_ ?_<;>try(intro hc;push_cast at hc)|omega|intro _))
    all_goals first|exact hk|exact how _ (by assumption)|exact how _|omega
  ·obtain rfl:i=fr.length:=by omega
   rw[List.drop_length,oneE] at hk;subst hk;rw[fewP,show decide (o.length<=400)=decide ((o.length:Int)<=400) from B1.2 (by omega)];refine W_T ?_;(with_reducible repeat'(first|simp(disch:=omega)only[push_cast,↓zz,seval,ps,px,pf]|refine sp_ ?_ ?_<;>try(intro hc;push_cast at hc)|omega|intro _));refine W_T ?_;(with_reducible repeat'(first|simp(disch:=omega)only[push_cast,↓zz,seval,ps,px,pf,po]|refine sp_ ?_ ?_<;>try(intro hc;push_cast at hc)|omega|intro _))
theorem z8d(x:List Int)(a n:Nat):(x.take (a+n)).drop a=(x.drop a).take n:=by
 rw[List.drop_take,Nat.add_sub_cancel_left]
theorem z8e(s:List Span)(b:Int)(r w:List Int)(l:List Rec)(x:List Int)(fr:List En)(hr:r.length<=1000000)(hw:w.length<=100000)(hx:x.length<=1000000)(hfr:fr.length<=1000)(hfw:∀p∈fr,p.1<=x.length/\p.2.length<=800000):
 PC Tryz.prog 57 [.agg [.int .i64 3,Bg s,.int .i64 b,A6 r,A6 w,.lst 6 (l.map recV)],A6 x,ensV fr] (enqV (fewP (Mo x r w fr []))):=by
 generalize hT:Mo x r w fr []=T;have ps:=BR s r w l;have px:=Bf x;have pf:=C4 fr;refine PP GH ?_;unfold Gg;refine BG (W_T ?_);(with_reducible repeat'(first|simp(disch:=omega)only[push_cast,↓zz,seval,ps,px,pf]|refine sp_ ?_ ?_<;>try(intro hc;push_cast at hc)|omega|intro _));refine BG (W_T ?_);(with_reducible repeat'(first|simp(disch:=omega)only[push_cast,↓zz,seval,ps,px,pf]|refine sp_ ?_ ?_<;>try(intro hc;push_cast at hc)|omega|intro _));refine BG (BG (W_T ?_));(with_reducible repeat'(first|simp(disch:=omega)only[push_cast,↓zz,seval,ps,px,pf]|refine sp_ ?_ ?_<;>try(intro hc;push_cast at hc)|omega|intro _));refine Es (BG (BG (W_T ?_)));(with_reducible repeat'(first|simp(disch:=omega)only[push_cast,↓zz,seval,ps,px,pf]|refine sp_ ?_ ?_<;>try(intro hc;push_cast at hc)|omega|intro _));refine W_T ?_;(with_reducible repeat'(first|simp(disch:=omega)only[push_cast,↓zz,seval,ps,px,pf]|refine sp_ ?_ ?_<;>try(intro hc;push_cast at hc)|omega|intro _));refine W_T ?_;(with_reducible repeat'(first|simp(disch:=omega)only[push_cast,↓zz,seval,ps,px,pf]|refine sp_ ?_ ?_<;>try(intro hc;push_cast at hc)|omega|intro _))
 refine Br (Bs (λ(q:Nat × List En)=>q.1<=fr.length/\Mo x r w (fr.drop q.1) q.2=T/\q.2.length<=q.1/\(∀p∈q.2,p.2.length<=900001)) (λq=>fr.length-q.1)
  (λq=>[(1,A6 x),(2,ensV fr),(3,.cptr (.agg [.int .i64 3,Bg s,.int .i64 b,A6 r,A6 w,.lst 6 (l.map recV)])),(8,.ref 0 1 0 q.2.length),(12,.int .i64 q.1)]) (λq=>[⟨2,1,false,q.2.map enV⟩]) (λenv _=>[C7 2 (env 8)]) (0,[]) ⟨Au _,hT,Ad _,λp hp=>(by cases hp)⟩ ?_ ?_)
 ·(with_reducible repeat'(first|simp(disch:=omega)only[push_cast,↓zz,seval,ps,px,pf]|refine sp_ ?_ ?_<;>try(intro hc;push_cast at hc)|omega|intro _))
 rintro⟨i,o⟩ ⟨hi,hk,ho,how⟩;simp only at hi hk ho how ⊢;have po:=C4 o;rcases Ak i fr.length with hil|hil
 ·have hn:=hfw _ (AS hil)
  rw[drop_at hil,Mo] at hk;have pn:Bh ((nth fr i).2.map (AV.int .i32))=true:=D9 .i32 _;refine BG (W_T ?_);(with_reducible repeat'(first|simp(disch:=omega)only[push_cast,↓zz,seval,ps,px,pf]|refine sp_ ?_ ?_<;>try(intro hc;push_cast at hc)|omega|intro _));refine BG (Es (BG (W_T ?_)));(with_reducible repeat'(first|simp(disch:=omega)only[push_cast,↓zz,seval,ps,px,pf]|refine sp_ ?_ ?_<;>try(intro hc;push_cast at hc)|omega|intro _));refine BG (W_T ?_);by_cases ha:(nth fr i).1+r.length<=x.length
  ·have hS:=JA ((x.drop (nth fr i).1).take r.length) r (by rw[BA];omega)
   have hdt:=z8d x (nth fr i).1 r.length;by_cases hE:(x.drop (nth fr i).1).take r.length=r
   ·rw[AE hE] at hS
    rw[Ae ⟨ha,hE⟩] at hk;(with_reducible repeat'(first|simp(disch:=omega)only[push_cast,↓zz,seval,ps,px,pf,pn,ha,hdt]|refine sp_ ?_ ?_<;>try(intro hc;push_cast at hc)|refine ee hS ?_|(refine cc hS ?_;simp(disch:=omega)only[push_cast,↓zz,seval,ps,px,pf,pn,ha,hdt];fail_if_success change False)|omega|intro _));refine W_T ?_;(with_reducible repeat'(first|simp(disch:=omega)only[push_cast,↓zz,seval,ps,px,pf,pn]|refine sp_ ?_ ?_<;>try(intro hc;push_cast at hc)|omega|intro _));have hem:(!((nth fr i).2.map (AV.int .i32)).isEmpty||((nth fr i).2.map (AV.int .i32)).isEmpty)=true:=by cases ((nth fr i).2.map (AV.int .i32)).isEmpty<;>rfl
    rw[hem,RB];(with_reducible repeat'(first|simp(disch:=omega)only[push_cast,↓zz,seval,ps,px,pf,pn]|refine sp_ ?_ ?_<;>try(intro hc;push_cast at hc)|omega|intro _))
    have pn2:Bh ((nth fr i).2.map (AV.int .i32)++w.map (AV.int .i32))=true:=by
     have:=D9 .i32 ((nth fr i).2++w)
     rwa [Aw] at this
    have htk:((nth fr i).2.map (AV.int .i32)++w.map (AV.int .i32)).take ((nth fr i).2.length+w.length)=(nth fr i).2.map (AV.int .i32)++w.map (AV.int .i32):=Az (by simp);have hP:=P6 o ((nth fr i).1+r.length,(nth fr i).2++w) 1 (by omega) (λp hp=>by have:=how p hp;omega)
    have hyv:enV ((nth fr i).1+r.length,(nth fr i).2++w)=.agg [.int .i64 ((nth fr i).1+r.length),.lst 1 ((nth fr i).2.map (AV.int .i32)++w.map (AV.int .i32))]:=by
     show AV.agg [.int .i64 (((nth fr i).1+r.length:Nat):Int),.lst 1 (((nth fr i).2++w).map (AV.int .i32))]=_;rw[Aw];rfl
    rw[hyv] at hP;refine Xa (l':=[⟨2,1,false,o.map enV⟩,⟨0,3,false,[]⟩]) (y':=.agg [.int .i64 ((nth fr i).1+r.length),.lst 1 ((nth fr i).2.map (AV.int .i32)++w.map (AV.int .i32))]) 1 4 [1] rfl ?_ ?_ rfl ?_
    ·(with_reducible repeat'(first|simp(disch:=omega)only[push_cast,↓zz,seval,pn,pn2,htk,Aj,AY]|refine sp_ ?_ ?_<;>try(intro hc;push_cast at hc)|omega|intro _))
    ·(with_reducible repeat'(first|simp(disch:=omega)only[push_cast,↓zz,seval,pn,pn2,htk]|refine sp_ ?_ ?_<;>try(intro hc;push_cast at hc)|omega|intro _))
    (refine at_c [0] (hP) (by decide) (by simp) (by refine⟨?_,?_,?_,?_⟩<;>(simp(disch:=omega)only[push_cast,↓zz,seval,Af,Ai,Ap,Av,AH,Ar,pn,pn2,po])) ?_)
    have hpl:=H0 o ((nth fr i).1+r.length,(nth fr i).2++w)
    have hpm:∀p∈putE o ((nth fr i).1+r.length,(nth fr i).2++w),p.2.length<=900001:=λp hp=>by
     rcases FW.1 hp with hp|rfl
     ·exact how p hp
     ·simp only[Aj];omega
    generalize putE o ((nth fr i).1+r.length,(nth fr i).2++w)=o2 at *;have po2:=C4 o2;rintro y H' ⟨v2,rfl,rfl⟩;refine⟨_,rfl,by simp,?_⟩;(with_reducible repeat'(first|simp(disch:=omega)only[push_cast,↓zz,seval,pn,pn2,po2]|refine sp_ ?_ ?_<;>try(intro hc;push_cast at hc)|omega|intro _));refine W_T ?_;(with_reducible repeat'(first|simp(disch:=omega)only[push_cast,↓zz,seval,pn,pn2,po2]|refine sp_ ?_ ?_<;>try(intro hc;push_cast at hc)|omega|intro _))
    all_goals
     refine⟨(i+1,o2),?_⟩;(with_reducible repeat'(first|simp(disch:=omega)only[push_cast,↓zz,seval,ps,px,pf,po2]|refine sp_ ?_ ?_<;>try(intro hc;push_cast at hc)|omega|intro _))
    all_goals first|exact hk|exact hpm|exact hpm _ (by assumption)|exact hpm _|omega
   ·rw[Bc hE] at hS
    rw[Ab λh=>hE h.2] at hk;(with_reducible repeat'(first|simp(disch:=omega)only[push_cast,↓zz,seval,ps,px,pf,pn,ha,hdt]|refine sp_ ?_ ?_<;>try(intro hc;push_cast at hc)|refine ee hS ?_|(refine cc hS ?_;simp(disch:=omega)only[push_cast,↓zz,seval,ps,px,pf,pn,ha,hdt];fail_if_success change False)|omega|intro _));refine W_T ?_;(with_reducible repeat'(first|simp(disch:=omega)only[push_cast,↓zz,seval,ps,px,pf,pn]|refine sp_ ?_ ?_<;>try(intro hc;push_cast at hc)|omega|intro _));refine W_T ?_;(with_reducible repeat'(first|simp(disch:=omega)only[push_cast,↓zz,seval,ps,px,pf,pn]|refine sp_ ?_ ?_<;>try(intro hc;push_cast at hc)|omega|intro _))
    all_goals
     refine⟨(i+1,o),?_⟩;(with_reducible repeat'(first|simp(disch:=omega)only[push_cast,↓zz,seval,ps,px,pf,po]|refine sp_ ?_ ?_<;>try(intro hc;push_cast at hc)|omega|intro _))
    all_goals first|exact hk|exact how _ (by assumption)|exact how _|omega
  ·rw[Ab λh=>ha h.1] at hk
   (with_reducible repeat'(first|simp(disch:=omega)only[push_cast,↓zz,seval,ps,px,pf,pn,ha]|refine sp_ ?_ ?_<;>try(intro hc;push_cast at hc)|omega|intro _));refine W_T ?_;(with_reducible repeat'(first|simp(disch:=omega)only[push_cast,↓zz,seval,ps,px,pf,pn]|refine sp_ ?_ ?_<;>try(intro hc;push_cast at hc)|omega|intro _));refine W_T ?_;(with_reducible repeat'(first|simp(disch:=omega)only[push_cast,↓zz,seval,ps,px,pf,pn]|refine sp_ ?_ ?_<;>try(intro hc;push_cast at hc)|omega|intro _))
   all_goals
    refine⟨(i+1,o),?_⟩;(with_reducible repeat'(first|simp(disch:=omega)only[push_cast,↓zz,seval,ps,px,pf,po]|refine sp_ ?_ ?_<;>try(intro hc;push_cast at hc)|omega|intro _))
   all_goals first|exact hk|exact how _ (by assumption)|exact how _|omega
 ·obtain rfl:i=fr.length:=by omega
  rw[List.drop_length,Mo] at hk;subst hk;rw[fewP,show decide (o.length<=400)=decide ((o.length:Int)<=400) from B1.2 (by omega)];refine W_T ?_;(with_reducible repeat'(first|simp(disch:=omega)only[push_cast,↓zz,seval,ps,px,pf]|refine sp_ ?_ ?_<;>try(intro hc;push_cast at hc)|omega|intro _));refine W_T ?_;(with_reducible repeat'(first|simp(disch:=omega)only[push_cast,↓zz,seval,ps,px,pf,po]|refine sp_ ?_ ?_<;>try(intro hc;push_cast at hc)|omega|intro _))
section
variable {x:List Int}{M g c:Nat}{fr:List En}
def Bud(x:List Int)(M g c:Nat)(fr:List En):Prop:=∀p∈fr,p.1<=x.length/\p.2.length+Lim g c (x.length-p.1)<=M
theorem zfj(h:Bud x M g c fr):InX x fr:=λp hp=>(h p hp).1
theorem I9{g' c':Nat}(hg:g'<=g)(hc:c'<=c)(h:Bud x M g c fr):Bud x M g' c' fr:=λp hp=>by
 obtain⟨h1,h2⟩:=h p hp;have:=L6 hg hc (Ad (x.length-p.1));exact⟨h1,by omega⟩
theorem Mr(h:Bud x M g c fr):∀p∈fr,p.1<=x.length/\p.2.length<=M:=λp hp=>by
 obtain⟨h1,h2⟩:=h p hp;exact⟨h1,by omega⟩
theorem NA(hsc:∀v∈x,Dh 2 v=true){n:Rec}{d:Int}(hok:okR n d=true)(hg:d+g=66)(hb:Bud x M g (cntN n+c) fr)(h:(enR x n fr).2=true):Bud x M g c (enR x n fr).1:=by
 have hs:=z85 hsc n d hok fr (enR x n fr).1 (zfj hb) (by rw[WZ,optP,Ae h]);intro p hp;obtain⟨q,hq,v,k1,k2⟩:=(hs p).1 hp;obtain⟨k3,k4⟩:=hb q hq;obtain⟨k5,k6,_⟩:=Jo hok _ _ _ k1 k3;have k7:=z8b n d g hok hg _ _ _ k3 k1;have k8:=z88 g (cntN n) c (p.1-q.1) (x.length-p.1);rw[show p.1-q.1+(x.length-p.1)=x.length-q.1 by omega] at k8;exact⟨k6,by rw[k2,Aj];omega⟩
theorem z8f(hsc:∀v∈x,Dh 2 v=true){l:List Rec}{d:Int}(hok:okL l d=true)(hn:Ei l=false)(hg:d+g=66)(hb:Bud x M (g+1) (cntA l) fr)(h:(enC x l fr).2=true):Bud x M (g+1) (cntA l) (enC x l fr).1:=by
 have hs:=SX l (λn _=>z85 hsc n) d hok fr (enC x l fr).1 (zfj hb) (by rw[N9 l (λn _=>WZ n),optP,Ae h]);intro p hp;obtain⟨q,hq,v,k1,k2⟩:=(hs p).1 hp;obtain⟨k3,k4⟩:=hb q hq;obtain⟨k5,k6,k7⟩:=Mq hok _ _ _ k1 k3;have k7:=k7 hn;obtain⟨_,k8⟩:=SZ (g:=g) l (λn hn=>⟨_,Jo (F8 hok n hn)⟩) (λn hn=>z8b n d g (F8 hok n hn) hg) _ _ _ k3 k1;refine⟨k6,?_⟩;rw[k2,Aj];obtain⟨m,hm⟩:∃m,p.1-q.1=m+1:=⟨p.1-q.1-1,by omega⟩;rw[show x.length-q.1=(m+1)+(x.length-p.1) by omega] at k4;rw[hm] at k8;unfold Lim at k4 k8 ⊢;rw[Nat.mul_add ((g+1) * cntA l),Nat.mul_add ((g+1) * cntA l) m 1,AG g 1,Dd,AG (g * cntA l) (cntA l) m,ER] at k4;rw[Nat.mul_add (g * cntA l) m 1,ER] at k8;rw[AG g 1,Dd];omega
theorem P7{l:List En}(h:(fewP l).2=true):(fewP l).1.length<=400:=of_decide_eq_true h
theorem Xb:∀(l:List Rec)(fr:List En),(enC x l fr).2=true->(enC x l fr).1.length<=400
 |[],fr=>P7
 |n::l,fr=>by
  rw[enC];split
  ·exact Xb l _
  ·intro h;cases h
theorem z8g:∀(l:List Rec)(fr out:List En),(enA x l fr out).2=true->(enA x l fr out).1.length<=400
 |[],fr,out=>P7
 |n::l,fr,out=>by
  rw[enA];split
  ·exact z8g l _ _
  ·intro h;cases h
theorem Rn{body:List En->EnQ}:∀(n:Nat)(now out:List En),out.length<=400->(F9 body n now out).2=true->(F9 body n now out).1.length<=400
 |0,now,out,ho,_=>ho
 |n+1,now,out,ho,h=>by
  rw[F9] at h ⊢;split
  ·exact ho
  ·rename_i h0
   rw[Ab h0] at h;split
   ·rename_i h1
    rw[Ae h1] at h;split
    ·rename_i h2
     rw[Ae h2] at h;exact Rn n _ _ h2 h
    ·rename_i h2
     rw[Ab h2] at h;cases h
   ·rename_i h1
    rw[Ab h1] at h;cases h
theorem Ro(n:Rec)(hf:fr.length<=400)(h:(enR x n fr).2=true):(enR x n fr).1.length<=400:=by
 obtain⟨k,s,b,r,w,l⟩:=n;rw[enR] at h ⊢;split
 ·rename_i h1;rw[Ae h1] at h;exact P7 h
 rename_i h1;rw[Ab h1] at h;split
 ·rename_i h1;rw[Ae h1] at h;exact P7 h
 rename_i h1;rw[Ab h1] at h;split
 ·rename_i h1;rw[Ae h1] at h;exact P7 h
 rename_i h1;rw[Ab h1] at h;split
 ·rename_i h1;rw[Ae h1] at h;exact Xb l fr h
 rename_i h1;rw[Ab h1] at h;split
 ·rename_i h1;rw[Ae h1] at h;exact z8g l fr [] h
 rename_i h1;rw[Ab h1] at h;split
 ·rename_i h1;rw[Ae h1] at h
  have:=L3 fr [];simp only[List.length_nil] at this;exact Rn _ _ _ (by omega) h
 ·exact Au _
theorem P8{es o:List En}{k:Nat}(h:k<es.length):Fq o (es.drop k)=Fq (putE o (nth es k)) (es.drop (k+1)):=by
 rw[drop_at h];rfl
theorem z8h{es o:List En}(k:Nat)(h:400<o.length):400<(Fq o (es.drop k)).length:=by
 have:=L3 (es.drop k) o;omega
end
def EnW(x:List Int)(g:Nat)(n:Rec):Prop:=∀fr:List En,fr.length<=400->Bud x 700000 g (cntN n) fr->PC Tryz.prog 57 [recV n,A6 x,ensV fr] (enqV (enR x n fr))
abbrev JV(k:Int)(s:List Span)(b:Int)(r w:List Int)(l:List Rec):AV:=.agg [.int .i64 k,Bg s,.int .i64 b,A6 r,A6 w,.lst 6 (l.map recV)]
section
variable {x:List Int}
theorem Zf(s:List Span)(b:Int)(r w:List Int)(l:List Rec){d:Int}{g:Nat}(hsc:∀v∈x,Dh 2 v=true)(hx:x.length<=1000000)(hl:l.length<=1000000)(hok:okL l d=true)(hg:d+g=66)(ih:∀n∈l,EnW x g n)(fr:List En)(hfr:fr.length<=400)(hb:Bud x 700000 g (cntA l) fr):
 PC Tryz.prog 57 [JV 4 s b r w l,A6 x,ensV fr] (enqV (enC x l fr)):=by
 generalize hT:enC x l fr=T;have ps:=BR s r w l;have px:=Bf x;have pf:=C4 fr;refine PP GH ?_;unfold Gg;refine BG (W_T ?_);(with_reducible repeat'(first|simp(disch:=omega)only[push_cast,↓zz,seval,ps,px,pf]|refine sp_ ?_ ?_<;>try(intro hc;push_cast at hc)|omega|intro _));refine BG (W_T ?_);(with_reducible repeat'(first|simp(disch:=omega)only[push_cast,↓zz,seval,ps,px,pf]|refine sp_ ?_ ?_<;>try(intro hc;push_cast at hc)|omega|intro _));refine BG (BG (W_T ?_));(with_reducible repeat'(first|simp(disch:=omega)only[push_cast,↓zz,seval,ps,px,pf]|refine sp_ ?_ ?_<;>try(intro hc;push_cast at hc)|omega|intro _));refine Es (BG (BG (W_T ?_)));(with_reducible repeat'(first|simp(disch:=omega)only[push_cast,↓zz,seval,ps,px,pf]|refine sp_ ?_ ?_<;>try(intro hc;push_cast at hc)|omega|intro _));refine W_T ?_;(with_reducible repeat'(first|simp(disch:=omega)only[push_cast,↓zz,seval,ps,px,pf]|refine sp_ ?_ ?_<;>try(intro hc;push_cast at hc)|omega|intro _));refine W_T ?_;(with_reducible repeat'(first|simp(disch:=omega)only[push_cast,↓zz,seval,ps,px,pf]|refine sp_ ?_ ?_<;>try(intro hc;push_cast at hc)|omega|intro _))
 refine Br (Bs (λ(q:Nat × List En)=>q.1<=l.length/\enC x (l.drop q.1) q.2=T/\q.2.length<=400/\Bud x 700000 g (cntA (l.drop q.1)) q.2) (λq=>l.length-q.1)
  (λq=>[(1,A6 x),(3,.cptr (JV 4 s b r w l)),(8,ensV q.2),(15,.int .i64 q.1)]) (λq=>[]) (λenv _=>[]) (0,fr) ⟨Au _,hT,hfr,hb⟩ ?_ ?_)
 ·(with_reducible repeat'(first|simp(disch:=omega)only[push_cast,↓zz,seval,ps,px,pf]|refine sp_ ?_ ?_<;>try(intro hc;push_cast at hc)|omega|intro _))
 rintro⟨i,o⟩ ⟨hi,hk,ho,hbo⟩;simp only at hi hk ho hbo ⊢;have po:=C4 o;rcases Ak i l.length with hil|hil
 ·have hm:=ih _ (AS hil) o ho (I9 (Ad _) (by rw[drop_at hil,cntA];omega) hbo)
  have hstep:=λh=>NA (c:=cntA (l.drop (i+1))) hsc (F8 hok _ (AS hil)) hg (by rw[drop_at hil,cntA] at hbo;exact hbo) h;have hfew:=Ro (x:=x) (nth l i) ho;rw[drop_at hil,enC] at hk;obtain⟨k',s',b',r',w',l',he⟩:∃k' s' b' r' w' l',nth l i=.mk k' s' b' r' w' l':=by cases nth l i;exact⟨_,_,_,_,_,_,rfl⟩
  have hrm:=Cv k' s' b' r' w' l';have ps':=BR s' r' w' l';generalize enR x (nth l i) o=Q at *;obtain⟨L,ok⟩:=Q;have pL:=C4 L;rw[he,hrm] at hm;refine BG (W_T ?_);(with_reducible repeat'(first|simp(disch:=omega)only[push_cast,↓zz,seval,ps,px,po]|refine sp_ ?_ ?_<;>try(intro hc;push_cast at hc)|omega|intro _));refine BG (Es (BG (W_T ?_)));(with_reducible repeat'(first|simp(disch:=omega)only[push_cast,↓zz,seval,ps,px,po]|refine sp_ ?_ ?_<;>try(intro hc;push_cast at hc)|omega|intro _));refine BG (W_T ?_);(with_reducible repeat'(first|simp(disch:=omega)only[push_cast,↓zz,seval,ps,px,po,pL,ps',he,hrm]|refine sp_ ?_ ?_<;>try(intro hc;push_cast at hc)|refine ee hm ?_|(refine cc hm ?_;simp(disch:=omega)only[push_cast,↓zz,seval,ps,px,po,pL,ps',he,hrm];fail_if_success change False)|omega|intro _));refine W_T ?_;cases ok with
  |false =>
   rw[Ab (by simp)] at hk;subst hk;(with_reducible repeat'(first|simp(disch:=omega)only[push_cast,↓zz,seval,ps,px,po,pL]|refine sp_ ?_ ?_<;>try(intro hc;push_cast at hc)|omega|intro _))
   all_goals first|((repeat'(first|(simp(disch:=omega)only[push_cast,↓zz,seval,D3])|omega|(with_reducible refine Aa ?_ ?_)));done)
  |true =>
   rw[Ae rfl] at hk;(with_reducible repeat'(first|simp(disch:=omega)only[push_cast,↓zz,seval,ps,px,po,pL]|refine sp_ ?_ ?_<;>try(intro hc;push_cast at hc)|omega|intro _));refine W_T ?_;(with_reducible repeat'(first|simp(disch:=omega)only[push_cast,↓zz,seval,ps,px,po,pL]|refine sp_ ?_ ?_<;>try(intro hc;push_cast at hc)|omega|intro _))
   all_goals
    refine⟨(i+1,L),?_⟩;(with_reducible repeat'(first|simp(disch:=omega)only[push_cast,↓zz,seval,ps,px,pL]|refine sp_ ?_ ?_<;>try(intro hc;push_cast at hc)|omega|intro _))
   all_goals first|exact hk|exact hstep rfl|exact hfew rfl|omega
 ·obtain rfl:i=l.length:=by omega
  rw[List.drop_length,enC] at hk;subst hk;rw[fewP,show decide (o.length<=400)=decide ((o.length:Int)<=400) from B1.2 (by omega)];refine W_T ?_;(with_reducible repeat'(first|simp(disch:=omega)only[push_cast,↓zz,seval,ps,px,po]|refine sp_ ?_ ?_<;>try(intro hc;push_cast at hc)|omega|intro _));refine W_T ?_;(with_reducible repeat'(first|simp(disch:=omega)only[push_cast,↓zz,seval,ps,px,po]|refine sp_ ?_ ?_<;>try(intro hc;push_cast at hc)|omega|intro _))
theorem P9:∀{l:List Rec}{n:Rec},n∈l->cntN n<=cntA l
 |m::l,n,h=>by
  rw[cntA];rcases Af.1 h with rfl|h
  ·omega
  ·have:=P9 h;omega
theorem ze5(s:List Span)(b:Int)(r w:List Int)(l:List Rec){d:Int}{g:Nat}(hsc:∀v∈x,Dh 2 v=true)(hx:x.length<=1000000)(hl:l.length<=1000)(hok:okL l d=true)(hg:d+g=66)(ih:∀n∈l,EnW x g n)(fr:List En)(hfr:fr.length<=400)(hb:Bud x 700000 g (cntA l) fr):
 PC Tryz.prog 57 [JV 5 s b r w l,A6 x,ensV fr] (enqV (enA x l fr [])):=by
 generalize hT:enA x l fr []=T;have ps:=BR s r w l;have px:=Bf x;have pf:=C4 fr;refine PP GH ?_;unfold Gg;refine BG (W_T ?_);(with_reducible repeat'(first|simp(disch:=omega)only[push_cast,↓zz,seval,ps,px,pf]|refine sp_ ?_ ?_<;>try(intro hc;push_cast at hc)|omega|intro _));refine BG (W_T ?_);(with_reducible repeat'(first|simp(disch:=omega)only[push_cast,↓zz,seval,ps,px,pf]|refine sp_ ?_ ?_<;>try(intro hc;push_cast at hc)|omega|intro _));refine BG (BG (W_T ?_));(with_reducible repeat'(first|simp(disch:=omega)only[push_cast,↓zz,seval,ps,px,pf]|refine sp_ ?_ ?_<;>try(intro hc;push_cast at hc)|omega|intro _));refine Es (BG (BG (W_T ?_)));(with_reducible repeat'(first|simp(disch:=omega)only[push_cast,↓zz,seval,ps,px,pf]|refine sp_ ?_ ?_<;>try(intro hc;push_cast at hc)|omega|intro _));refine W_T ?_;(with_reducible repeat'(first|simp(disch:=omega)only[push_cast,↓zz,seval,ps,px,pf]|refine sp_ ?_ ?_<;>try(intro hc;push_cast at hc)|omega|intro _));refine W_T ?_;(with_reducible repeat'(first|simp(disch:=omega)only[push_cast,↓zz,seval,ps,px,pf]|refine sp_ ?_ ?_<;>try(intro hc;push_cast at hc)|omega|intro _))
 refine Br (Bs (λ(q:Nat × List En)=>q.1<=l.length/\enA x (l.drop q.1) fr q.2=T/\q.2.length<=400 * q.1/\(∀p∈q.2,p.2.length<=700000)) (λq=>l.length-q.1)
  (λq=>[(1,A6 x),(2,ensV fr),(3,.cptr (JV 5 s b r w l)),(8,.ref 0 1 0 q.2.length),(17,.int .i64 q.1)]) (λq=>[⟨2,1,false,q.2.map enV⟩]) (λenv _=>[C7 2 (env 8)]) (0,[]) ⟨Au _,hT,Au _,λp hp=>(by cases hp)⟩ ?_ ?_)
 ·(with_reducible repeat'(first|simp(disch:=omega)only[push_cast,↓zz,seval,ps,px,pf]|refine sp_ ?_ ?_<;>try(intro hc;push_cast at hc)|omega|intro _))
 rintro⟨i,o⟩ ⟨hi,hk,ho,how⟩;simp only at hi hk ho how ⊢;have po:=C4 o;rcases Ak i l.length with hil|hil
 ·have hm:=ih _ (AS hil) fr hfr (I9 (Ad _) (P9 (AS hil)) hb)
  have hstep:=λh=>NA (c:=0) hsc (F8 hok _ (AS hil)) hg (I9 (Ad _) (by rw[Nat.add_zero];exact P9 (AS hil)) hb) h;have hfew:=Ro (x:=x) (nth l i) hfr;rw[drop_at hil,enA] at hk;obtain⟨k',s',b',r',w',l',he⟩:∃k' s' b' r' w' l',nth l i=.mk k' s' b' r' w' l':=by cases nth l i;exact⟨_,_,_,_,_,_,rfl⟩
  have hrm:=Cv k' s' b' r' w' l';have ps':=BR s' r' w' l';generalize enR x (nth l i) fr=Q at *;obtain⟨L,ok⟩:=Q;have pL:=C4 L;rw[he,hrm] at hm;refine BG (W_T ?_);(with_reducible repeat'(first|simp(disch:=omega)only[push_cast,↓zz,seval,ps,px,pf,po]|refine sp_ ?_ ?_<;>try(intro hc;push_cast at hc)|omega|intro _));refine BG (Es (BG (W_T ?_)));(with_reducible repeat'(first|simp(disch:=omega)only[push_cast,↓zz,seval,ps,px,pf,po,pL,ps',he,hrm]|refine sp_ ?_ ?_<;>try(intro hc;push_cast at hc)|refine ee hm ?_|(refine cc hm ?_;simp(disch:=omega)only[push_cast,↓zz,seval,ps,px,pf,po,pL,ps',he,hrm];fail_if_success change False)|omega|intro _));refine BG (BG (W_T ?_));cases ok with
  |false =>
   rw[Ab (by simp)] at hk;subst hk;(with_reducible repeat'(first|simp(disch:=omega)only[push_cast,↓zz,seval,ps,px,pf,po,pL]|refine sp_ ?_ ?_<;>try(intro hc;push_cast at hc)|omega|intro _));refine W_T ?_;(with_reducible repeat'(first|simp(disch:=omega)only[push_cast,↓zz,seval,ps,px,pf,po,pL]|refine sp_ ?_ ?_<;>try(intro hc;push_cast at hc)|omega|intro _))
   all_goals first|((repeat'(first|(simp(disch:=omega)only[push_cast,↓zz,seval,D3])|omega|(with_reducible refine Aa ?_ ?_)));done)
  |true =>
   rw[Ae rfl] at hk;have hL:=hfew rfl;have hLw:=λp hp=>(Mr (hstep rfl) p hp).2;simp only at hL hLw hk;(with_reducible repeat'(first|simp(disch:=omega)only[push_cast,↓zz,seval,ps,px,pf,po,pL]|refine sp_ ?_ ?_<;>try(intro hc;push_cast at hc)|omega|intro _));refine W_T ?_;(with_reducible repeat'(first|simp(disch:=omega)only[push_cast,↓zz,seval,ps,px,pf,po,pL]|refine sp_ ?_ ?_<;>try(intro hc;push_cast at hc)|omega|intro _));refine BG (W_T ?_);(with_reducible repeat'(first|simp(disch:=omega)only[push_cast,↓zz,seval,ps,px,pf,po,pL]|refine sp_ ?_ ?_<;>try(intro hc;push_cast at hc)|omega|intro _))
   refine Es (IT Ent.refl (Bs (λ(q:Nat × List En)=>q.1<=L.length/\Fq q.2 (L.drop q.1)=Fq o L/\q.2.length<=o.length+q.1/\(∀p∈q.2,p.2.length<=700000)) (λq=>L.length-q.1)
    (λq=>[(1,A6 x),(2,ensV fr),(3,.cptr (JV 5 s b r w l)),(8,.ref 0 1 0 q.2.length),(17,.int .i64 i),(18,ensV L),(20,.int .i64 q.1)]) (λq=>[⟨2,1,false,q.2.map enV⟩]) (λenv _=>[C7 2 (env 8)]) (0,o) ⟨Au _,rfl,Ad _,how⟩ ?_ ?_))
   ·(with_reducible repeat'(first|simp(disch:=omega)only[push_cast,↓zz,seval,ps,px,pf,po,pL]|refine sp_ ?_ ?_<;>try(intro hc;push_cast at hc)|omega|intro _))
   rintro⟨k,o2⟩ ⟨hk2,hp2,hl2,hw2⟩;simp only at hk2 hp2 hl2 hw2 ⊢;have po2:=C4 o2;rcases Ak k L.length with hkl|hkl
   ·have hP:=P6 o2 (nth L k) 1 (by omega) (λp hp=>by have:=hw2 p hp;omega)
    rw[P8 hkl] at hp2;have hLk:=hLw _ (AS hkl);have pn:Bh ((nth L k).2.map (AV.int .i32))=true:=D9 .i32 _;refine BG (W_T ?_);(with_reducible repeat'(first|simp(disch:=omega)only[push_cast,↓zz,seval,ps,px,pf,po2,pL]|refine sp_ ?_ ?_<;>try(intro hc;push_cast at hc)|omega|intro _));refine BG (Es (W_T ?_));(with_reducible repeat'(first|simp(disch:=omega)only[push_cast,↓zz,seval,ps,px,pf,po2,pL,pn]|refine sp_ ?_ ?_<;>try(intro hc;push_cast at hc)|omega|intro _))
    (refine at_c [0] (hP) (by decide) (by simp) (by refine⟨?_,?_,?_,?_⟩<;>(simp(disch:=omega)only[push_cast,↓zz,seval,Af,Ai,Ap,Av,AH,Ar,pn,po2,pL])) ?_)
    have hpl:=H0 o2 (nth L k)
    have hpm:∀p∈putE o2 (nth L k),p.2.length<=700000:=λp hp=>by
     rcases FW.1 hp with hp|rfl
     ·exact hw2 p hp
     ·exact hLk
    generalize putE o2 (nth L k)=o3 at *;have po3:=C4 o3;rintro y H' ⟨v2,rfl,rfl⟩;refine⟨_,rfl,by simp,?_⟩;(with_reducible repeat'(first|simp(disch:=omega)only[push_cast,↓zz,seval,pn,po3,pL]|refine sp_ ?_ ?_<;>try(intro hc;push_cast at hc)|omega|intro _));refine W_T ?_;(with_reducible repeat'(first|simp(disch:=omega)only[push_cast,↓zz,seval,pn,po3,pL]|refine sp_ ?_ ?_<;>try(intro hc;push_cast at hc)|omega|intro _))
    all_goals
     refine⟨(k+1,o3),?_⟩;(with_reducible repeat'(first|simp(disch:=omega)only[push_cast,↓zz,seval,ps,px,pf,po3,pL]|refine sp_ ?_ ?_<;>try(intro hc;push_cast at hc)|omega|intro _))
    all_goals first|exact hp2|exact hpm|exact hpm _ (by assumption)|exact hpm _|omega
   ·obtain rfl:k=L.length:=by omega
    rw[List.drop_length] at hp2;have hp2:o2=Fq o L:=hp2;subst hp2;refine BG (W_T ?_);(with_reducible repeat'(first|simp(disch:=omega)only[push_cast,↓zz,seval,ps,px,pf,po2,pL]|refine sp_ ?_ ?_<;>try(intro hc;push_cast at hc)|omega|intro _));refine W_T ?_;(with_reducible repeat'(first|simp(disch:=omega)only[push_cast,↓zz,seval,ps,px,pf,po2,pL]|refine sp_ ?_ ?_<;>try(intro hc;push_cast at hc)|omega|intro _))
    all_goals
     refine⟨(i+1,Fq o L),?_⟩;(with_reducible repeat'(first|simp(disch:=omega)only[push_cast,↓zz,seval,ps,px,pf,po2]|refine sp_ ?_ ?_<;>try(intro hc;push_cast at hc)|omega|intro _))
    all_goals first|exact hk|exact hw2|exact hw2 _ (by assumption)|exact hw2 _|omega
 ·obtain rfl:i=l.length:=by omega
  rw[List.drop_length,enA] at hk;subst hk;rw[fewP,show decide (o.length<=400)=decide ((o.length:Int)<=400) from B1.2 (by omega)];refine W_T ?_;(with_reducible repeat'(first|simp(disch:=omega)only[push_cast,↓zz,seval,ps,px,po]|refine sp_ ?_ ?_<;>try(intro hc;push_cast at hc)|omega|intro _));refine W_T ?_;(with_reducible repeat'(first|simp(disch:=omega)only[push_cast,↓zz,seval,ps,px,po]|refine sp_ ?_ ?_<;>try(intro hc;push_cast at hc)|omega|intro _))
end
section
variable {x:List Int}
theorem Xc(k:Int)(s:List Span)(b:Int)(r w:List Int)(l:List Rec){d:Int}{g:Nat}(hsc:∀v∈x,Dh 2 v=true)(hx:x.length<=1000000)(hl:l.length<=1000)(hok:okL l d=true)(hn:Ei l=false)(hg:d+g=66)(ih:∀n∈l,EnW x g n)(fr:List En)(hfr:fr.length<=400)(hb:Bud x 700000 (g+1) (cntA l) fr):
 PC Tryz.prog 95 [JV k s b r w l,A6 x,ensV fr] (enqV (F9 (enC x l) (x.length+1) fr (Fq [] fr))):=by
 generalize hT:F9 (enC x l) (x.length+1) fr (Fq [] fr)=T;have ps:=BR s r w l;have px:=Bf x;have pf:=C4 fr;refine PP PK ?_;unfold JK;refine BG (W_T ?_);(with_reducible repeat'(first|simp(disch:=omega)only[push_cast,↓zz,seval,ps,px,pf]|refine sp_ ?_ ?_<;>try(intro hc;push_cast at hc)|omega|intro _));refine BG (W_T ?_);(with_reducible repeat'(first|simp(disch:=omega)only[push_cast,↓zz,seval,ps,px,pf]|refine sp_ ?_ ?_<;>try(intro hc;push_cast at hc)|omega|intro _));refine BG (BG (W_T ?_));(with_reducible repeat'(first|simp(disch:=omega)only[push_cast,↓zz,seval,ps,px,pf]|refine sp_ ?_ ?_<;>try(intro hc;push_cast at hc)|omega|intro _))
 refine Es (IT Ent.refl (Bs (λ(q:Nat × List En)=>q.1<=fr.length/\Fq q.2 (fr.drop q.1)=Fq [] fr/\q.2.length<=q.1/\(∀p∈q.2,p.2.length<=700000)) (λq=>fr.length-q.1)
  (λq=>[(1,A6 x),(2,ensV fr),(3,.cptr (JV k s b r w l)),(8,.ref 0 1 0 q.2.length),(9,.int .i64 q.1)]) (λq=>[⟨2,1,false,q.2.map enV⟩]) (λenv _=>[C7 2 (env 8)]) (0,[]) ⟨Au _,rfl,Au _,λp hp=>(by cases hp)⟩ ?_ ?_))
 ·(with_reducible repeat'(first|simp(disch:=omega)only[push_cast,↓zz,seval,ps,px,pf]|refine sp_ ?_ ?_<;>try(intro hc;push_cast at hc)|omega|intro _))
 rintro⟨i,o⟩ ⟨hi,hk,ho,how⟩;simp only at hi hk ho how ⊢;have po:=C4 o;have hfw:=Mr hb;rcases Ak i fr.length with hil|hil
 ·have hP:=P6 o (nth fr i) 1 (by omega) (λp hp=>by have:=how p hp;omega)
  rw[P8 hil] at hk;have hLk:=(hfw _ (AS hil)).2;have pn:Bh ((nth fr i).2.map (AV.int .i32))=true:=D9 .i32 _;refine BG (W_T ?_);(with_reducible repeat'(first|simp(disch:=omega)only[push_cast,↓zz,seval,ps,px,pf,po]|refine sp_ ?_ ?_<;>try(intro hc;push_cast at hc)|omega|intro _));refine BG (Es (W_T ?_));(with_reducible repeat'(first|simp(disch:=omega)only[push_cast,↓zz,seval,ps,px,pf,po,pn]|refine sp_ ?_ ?_<;>try(intro hc;push_cast at hc)|omega|intro _))
  (refine at_c [0] (hP) (by decide) (by simp) (by refine⟨?_,?_,?_,?_⟩<;>(simp(disch:=omega)only[push_cast,↓zz,seval,Af,Ai,Ap,Av,AH,Ar,pn,po])) ?_)
  have hpl:=H0 o (nth fr i)
  have hpm:∀p∈putE o (nth fr i),p.2.length<=700000:=λp hp=>by
   rcases FW.1 hp with hp|rfl
   ·exact how p hp
   ·exact hLk
  generalize putE o (nth fr i)=o3 at *;have po3:=C4 o3;rintro y H' ⟨v2,rfl,rfl⟩;refine⟨_,rfl,by simp,?_⟩;(with_reducible repeat'(first|simp(disch:=omega)only[push_cast,↓zz,seval,pn,po3]|refine sp_ ?_ ?_<;>try(intro hc;push_cast at hc)|omega|intro _));refine W_T ?_;(with_reducible repeat'(first|simp(disch:=omega)only[push_cast,↓zz,seval,pn,po3]|refine sp_ ?_ ?_<;>try(intro hc;push_cast at hc)|omega|intro _))
  all_goals
   refine⟨(i+1,o3),?_⟩;(with_reducible repeat'(first|simp(disch:=omega)only[push_cast,↓zz,seval,ps,px,pf,po3]|refine sp_ ?_ ?_<;>try(intro hc;push_cast at hc)|omega|intro _))
  all_goals first|exact hk|exact hpm|exact hpm _ (by assumption)|exact hpm _|omega
 ·obtain rfl:i=fr.length:=by omega
  rw[List.drop_length] at hk;have hk:o=Fq [] fr:=hk;rw[<-hk] at hT;refine BG (W_T ?_);(with_reducible repeat'(first|simp(disch:=omega)only[push_cast,↓zz,seval,ps,px,pf,po]|refine sp_ ?_ ?_<;>try(intro hc;push_cast at hc)|omega|intro _));refine BG (W_T ?_);(with_reducible repeat'(first|simp(disch:=omega)only[push_cast,↓zz,seval,ps,px,pf,po]|refine sp_ ?_ ?_<;>try(intro hc;push_cast at hc)|omega|intro _));refine BG (BG (W_T ?_));(with_reducible repeat'(first|simp(disch:=omega)only[push_cast,↓zz,seval,ps,px,pf,po]|refine sp_ ?_ ?_<;>try(intro hc;push_cast at hc)|omega|intro _))
  refine Es (IT Ent.refl (Bs (λ(q:Nat × List En × List En)=>q.1<=x.length+1/\F9 (enC x l) (x.length+1-q.1) q.2.1 q.2.2=T/\q.2.1.length<=400/\Bud x 700000 (g+1) (cntA l) q.2.1/\q.2.2.length<=400/\(∀p∈q.2.2,p.2.length<=700000)) (λq=>x.length+1-q.1)
   (λq=>[(1,A6 x),(3,.cptr (JV k s b r w l)),(8,.ref 0 1 0 q.2.2.length),(10,ensV q.2.1),(11,.int .i64 q.1)]) (λq=>[⟨2,1,false,q.2.2.map enV⟩]) (λenv _=>[C7 2 (env 8)]) (0,fr,o) ⟨Au _,hT,hfr,hb,(show o.length<=400 by omega),how⟩ ?_ ?_))
  ·(with_reducible repeat'(first|simp(disch:=omega)only[push_cast,↓zz,seval,ps,px,pf,po]|refine sp_ ?_ ?_<;>try(intro hc;push_cast at hc)|omega|intro _))
  clear hk hT ho how po;rintro⟨n,now,o⟩ ⟨hn1,hk,hno,hnb,ho,how⟩;simp only at hn1 hk hno hnb ho how ⊢;have po:=C4 o;have pnow:=C4 now;rcases Ak n (x.length+1) with hnl|hnl
  ·rw[show x.length+1-n=(x.length+1-(n+1))+1 by omega,F9] at hk
   by_cases h0:now.length=0
   ·rw[Ae h0] at hk
    subst hk;refine BG (W_T ?_);(with_reducible repeat'(first|simp(disch:=omega)only[push_cast,↓zz,seval,ps,px,pnow,po,h0]|refine sp_ ?_ ?_<;>try(intro hc;push_cast at hc)|omega|intro _));refine W_T ?_;(with_reducible repeat'(first|simp(disch:=omega)only[push_cast,↓zz,seval,ps,px,pnow,po]|refine sp_ ?_ ?_<;>try(intro hc;push_cast at hc)|omega|intro _))
    all_goals first|((repeat'(first|(simp(disch:=omega)only[push_cast,↓zz,seval,D3])|omega|(with_reducible refine Aa ?_ ?_)));done)
   ·rw[Ab h0] at hk
    have hm:=Zf [] 0 [] [] l hsc hx (by omega) hok hg ih now hno (I9 (Cr g) (Ad _) hnb);have hstep:=λh=>z8f hsc hok hn hg hnb h;have hfew:=Xb (x:=x) l now;generalize enC x l now=Q at *;obtain⟨L,ok⟩:=Q;have pL:=C4 L;simp only at hk hstep hfew;refine BG (W_T ?_);(with_reducible repeat'(first|simp(disch:=omega)only[push_cast,↓zz,seval,ps,px,pnow,po,h0]|refine sp_ ?_ ?_<;>try(intro hc;push_cast at hc)|omega|intro _));refine BG (Es (BG (W_T ?_)));(with_reducible repeat'(first|simp(disch:=omega)only[push_cast,↓zz,seval,ps,px,pnow,po,pL]|refine sp_ ?_ ?_<;>try(intro hc;push_cast at hc)|refine ee hm ?_|(refine cc hm ?_;simp(disch:=omega)only[push_cast,↓zz,seval,ps,px,pnow,po,pL];fail_if_success change False)|omega|intro _));refine BG (BG (W_T ?_));cases ok with
    |false =>
     rw[Ab (by simp)] at hk;subst hk;(with_reducible repeat'(first|simp(disch:=omega)only[push_cast,↓zz,seval,ps,px,pnow,po,pL]|refine sp_ ?_ ?_<;>try(intro hc;push_cast at hc)|omega|intro _));refine W_T ?_;(with_reducible repeat'(first|simp(disch:=omega)only[push_cast,↓zz,seval,ps,px,pnow,po,pL]|refine sp_ ?_ ?_<;>try(intro hc;push_cast at hc)|omega|intro _))
     all_goals first|((repeat'(first|(simp(disch:=omega)only[push_cast,↓zz,seval,D3])|omega|(with_reducible refine Aa ?_ ?_)));done)
    |true =>
     rw[Ae rfl] at hk;have hL:=hfew rfl;have hLb:=hstep rfl;have hLw:=λp hp=>(Mr hLb p hp).2;(with_reducible repeat'(first|simp(disch:=omega)only[push_cast,↓zz,seval,ps,px,pnow,po,pL]|refine sp_ ?_ ?_<;>try(intro hc;push_cast at hc)|omega|intro _));refine W_T ?_;(with_reducible repeat'(first|simp(disch:=omega)only[push_cast,↓zz,seval,ps,px,pnow,po,pL]|refine sp_ ?_ ?_<;>try(intro hc;push_cast at hc)|omega|intro _));refine BG (W_T ?_);(with_reducible repeat'(first|simp(disch:=omega)only[push_cast,↓zz,seval,ps,px,pnow,po,pL]|refine sp_ ?_ ?_<;>try(intro hc;push_cast at hc)|omega|intro _));refine BG (BG (W_T ?_));(with_reducible repeat'(first|simp(disch:=omega)only[push_cast,↓zz,seval,ps,px,pnow,po,pL]|refine sp_ ?_ ?_<;>try(intro hc;push_cast at hc)|omega|intro _))
     refine Es (IT Ent.refl (Bs (λ(q:Nat × List En)=>q.1<=L.length/\Fq q.2 (L.drop q.1)=Fq o L/\q.2.length<=o.length+q.1/\(∀p∈q.2,p.2.length<=700000)) (λq=>L.length-q.1)
      (λq=>[(1,A6 x),(3,.cptr (JV k s b r w l)),(8,.ref 0 1 0 q.2.length),(10,ensV L),(11,.int .i64 n),(12,ensV L),(14,.int .i64 q.1)]) (λq=>[⟨2,1,false,q.2.map enV⟩]) (λenv _=>[C7 2 (env 8)]) (0,o) ⟨Au _,rfl,Ad _,how⟩ ?_ ?_))
     ·(with_reducible repeat'(first|simp(disch:=omega)only[push_cast,↓zz,seval,ps,px,po,pL]|refine sp_ ?_ ?_<;>try(intro hc;push_cast at hc)|omega|intro _))
     rintro⟨j,o2⟩ ⟨hk2,hp2,hl2,hw2⟩;simp only at hk2 hp2 hl2 hw2 ⊢;have po2:=C4 o2;have hbig:=z8h (es:=L) (o:=o2) j;rcases Ak 400 o2.length with h4|h4
     ·rw[hp2] at hbig
      have hbig:=hbig h4;rw[Ab (by omega)] at hk;subst hk;refine BG (W_T ?_);by_cases hkl:j<L.length
      ·(with_reducible repeat'(first|simp(disch:=omega)only[push_cast,↓zz,seval,ps,px,po2,pL,hkl,h4]|refine sp_ ?_ ?_<;>try(intro hc;push_cast at hc)|omega|intro _))
       refine W_T ?_;(with_reducible repeat'(first|simp(disch:=omega)only[push_cast,↓zz,seval,ps,px,po2,pL,h4]|refine sp_ ?_ ?_<;>try(intro hc;push_cast at hc)|omega|intro _))
       all_goals first|((repeat'(first|(simp(disch:=omega)only[push_cast,↓zz,seval,D3])|omega|(with_reducible refine Aa ?_ ?_)));done)
      ·(with_reducible repeat'(first|simp(disch:=omega)only[push_cast,↓zz,seval,ps,px,po2,pL,hkl,h4]|refine sp_ ?_ ?_<;>try(intro hc;push_cast at hc)|omega|intro _))
       refine W_T ?_;(with_reducible repeat'(first|simp(disch:=omega)only[push_cast,↓zz,seval,ps,px,po2,pL,h4]|refine sp_ ?_ ?_<;>try(intro hc;push_cast at hc)|omega|intro _))
       all_goals first|((repeat'(first|(simp(disch:=omega)only[push_cast,↓zz,seval,D3])|omega|(with_reducible refine Aa ?_ ?_)));done)
     ·rcases Ak j L.length with hkl|hkl
      ·have hP:=P6 o2 (nth L j) 1 (by omega) (λp hp=>by have:=hw2 p hp;omega)
       rw[P8 hkl] at hp2;have hLk:=hLw _ (AS hkl);have pn:Bh ((nth L j).2.map (AV.int .i32))=true:=D9 .i32 _;refine BG (W_T ?_);(with_reducible repeat'(first|simp(disch:=omega)only[push_cast,↓zz,seval,ps,px,po2,pL,h4]|refine sp_ ?_ ?_<;>try(intro hc;push_cast at hc)|omega|intro _));refine BG (Es (W_T ?_));(with_reducible repeat'(first|simp(disch:=omega)only[push_cast,↓zz,seval,ps,px,po2,pL,pn]|refine sp_ ?_ ?_<;>try(intro hc;push_cast at hc)|omega|intro _))
       (refine at_c [0] (hP) (by decide) (by simp) (by refine⟨?_,?_,?_,?_⟩<;>(simp(disch:=omega)only[push_cast,↓zz,seval,Af,Ai,Ap,Av,AH,Ar,pn,po2,pL])) ?_)
       have hpl:=H0 o2 (nth L j)
       have hpm:∀p∈putE o2 (nth L j),p.2.length<=700000:=λp hp=>by
        rcases FW.1 hp with hp|rfl
        ·exact hw2 p hp
        ·exact hLk
       generalize putE o2 (nth L j)=o3 at *;have po3:=C4 o3;rintro y H' ⟨v2,rfl,rfl⟩;refine⟨_,rfl,by simp,?_⟩;(with_reducible repeat'(first|simp(disch:=omega)only[push_cast,↓zz,seval,pn,po3,pL]|refine sp_ ?_ ?_<;>try(intro hc;push_cast at hc)|omega|intro _));refine W_T ?_;(with_reducible repeat'(first|simp(disch:=omega)only[push_cast,↓zz,seval,pn,po3,pL]|refine sp_ ?_ ?_<;>try(intro hc;push_cast at hc)|omega|intro _))
       all_goals
        refine⟨(j+1,o3),?_⟩;(with_reducible repeat'(first|simp(disch:=omega)only[push_cast,↓zz,seval,ps,px,po3,pL]|refine sp_ ?_ ?_<;>try(intro hc;push_cast at hc)|omega|intro _))
       all_goals first|exact hp2|exact hpm|exact hpm _ (by assumption)|exact hpm _|omega
      ·obtain rfl:j=L.length:=by omega
       rw[List.drop_length] at hp2;have hp2:o2=Fq o L:=hp2;rw[<-hp2,Ae h4] at hk;refine BG (W_T ?_);(with_reducible repeat'(first|simp(disch:=omega)only[push_cast,↓zz,seval,ps,px,po2,pL,h4]|refine sp_ ?_ ?_<;>try(intro hc;push_cast at hc)|omega|intro _));refine W_T ?_;(with_reducible repeat'(first|simp(disch:=omega)only[push_cast,↓zz,seval,ps,px,po2,pL,h4]|refine sp_ ?_ ?_<;>try(intro hc;push_cast at hc)|omega|intro _));refine W_T ?_;(with_reducible repeat'(first|simp(disch:=omega)only[push_cast,↓zz,seval,ps,px,po2,pL,h4]|refine sp_ ?_ ?_<;>try(intro hc;push_cast at hc)|omega|intro _))
       all_goals
        refine⟨(n+1,L,o2),?_⟩;(with_reducible repeat'(first|simp(disch:=omega)only[push_cast,↓zz,seval,ps,px,po2,pL]|refine sp_ ?_ ?_<;>try(intro hc;push_cast at hc)|omega|intro _))
       all_goals first|exact hk|(rw[show x.length-n=x.length+1-(n+1) by omega];exact hk)|exact hw2|exact hLb|exact hw2 _ (by assumption)|exact hw2 _|omega
  ·obtain rfl:n=x.length+1:=by omega
   rw[Nat.sub_self,F9] at hk;subst hk;refine BG (W_T ?_);(with_reducible repeat'(first|simp(disch:=omega)only[push_cast,↓zz,seval,ps,px,pnow,po]|refine sp_ ?_ ?_<;>try(intro hc;push_cast at hc)|omega|intro _));refine W_T ?_;(with_reducible repeat'(first|simp(disch:=omega)only[push_cast,↓zz,seval,ps,px,pnow,po]|refine sp_ ?_ ?_<;>try(intro hc;push_cast at hc)|omega|intro _))
   all_goals first|((repeat'(first|(simp(disch:=omega)only[push_cast,↓zz,seval,D3])|omega|(with_reducible refine Aa ?_ ?_)));done)
end
section
variable {x:List Int}
theorem z8i(s:List Span)(b:Int)(r w:List Int)(l:List Rec){d:Int}{g:Nat}(hsc:∀v∈x,Dh 2 v=true)(hx:x.length<=1000000)(hl:l.length<=1000)(hok:okL l d=true)(hn:Ei l=false)(hg:d+g=66)(ih:∀n∈l,EnW x g n)(fr:List En)(hfr:fr.length<=400)(hb:Bud x 700000 (g+1) (cntA l) fr):
 PC Tryz.prog 57 [JV 6 s b r w l,A6 x,ensV fr] (enqV (F9 (enC x l) (x.length+1) fr (Fq [] fr))):=by
 have hR:=Xc 6 s b r w l hsc hx hl hok hn hg ih fr hfr hb;generalize F9 (enC x l) (x.length+1) fr (Fq [] fr)=T at *;obtain⟨L,ok⟩:=T;have pL:=C4 L;have ps:=BR s r w l;have px:=Bf x;have pf:=C4 fr;refine PP GH ?_;unfold Gg;refine BG (W_T ?_);(with_reducible repeat'(first|simp(disch:=omega)only[push_cast,↓zz,seval,ps,px,pf]|refine sp_ ?_ ?_<;>try(intro hc;push_cast at hc)|omega|intro _));refine BG (W_T ?_);(with_reducible repeat'(first|simp(disch:=omega)only[push_cast,↓zz,seval,ps,px,pf]|refine sp_ ?_ ?_<;>try(intro hc;push_cast at hc)|omega|intro _));refine BG (BG (W_T ?_));(with_reducible repeat'(first|simp(disch:=omega)only[push_cast,↓zz,seval,ps,px,pf]|refine sp_ ?_ ?_<;>try(intro hc;push_cast at hc)|omega|intro _));refine Es (BG (BG (W_T ?_)));(with_reducible repeat'(first|simp(disch:=omega)only[push_cast,↓zz,seval,ps,px,pf]|refine sp_ ?_ ?_<;>try(intro hc;push_cast at hc)|omega|intro _));refine W_T ?_;(with_reducible repeat'(first|simp(disch:=omega)only[push_cast,↓zz,seval,ps,px,pf]|refine sp_ ?_ ?_<;>try(intro hc;push_cast at hc)|omega|intro _));refine W_T ?_;(with_reducible repeat'(first|simp(disch:=omega)only[push_cast,↓zz,seval,ps,px,pf]|refine sp_ ?_ ?_<;>try(intro hc;push_cast at hc)|omega|intro _));(with_reducible repeat'(first|simp(disch:=omega)only[push_cast,↓zz,seval,ps,px,pf,pL]|refine sp_ ?_ ?_<;>try(intro hc;push_cast at hc)|refine ee hR ?_|(refine cc hR ?_;simp(disch:=omega)only[push_cast,↓zz,seval,ps,px,pf,pL];fail_if_success change False)|omega|intro _))
 all_goals first|((repeat'(first|(simp(disch:=omega)only[push_cast,↓zz,seval,D3])|omega|(with_reducible refine Aa ?_ ?_)));done)
theorem ze6(hsc:∀v∈x,Dh 2 v=true)(hx:x.length<=1000000)(n:Rec):∀(d:Int)(g:Nat),EI n->okR n d=true->d+g=66->cntN n<=1000->EnW x g n:=by
 refine Rec.ind (P:=λn=>∀(d:Int)(g:Nat),EI n->okR n d=true->d+g=66->cntN n<=1000->EnW x g n) ?_ n;intro k s b r w l ih d g hf hok hg hc fr hfr hb;have hd:=SE hok;cases hf with
 |mk hs hr hw hl hch =>
 rw[cntN] at hc hb;have hlen:=JC l;rw[okR,Ac] at hok;obtain⟨_,hok⟩:=hok;have hfw:=Mr hb;rw[Cv,enR];by_cases h1:k=1
 ·subst h1
  rw[Ae rfl] at hok ⊢;simp only[Ac,AA,AQ,Ah] at hok;obtain⟨hb2,_,hm⟩:=hok;exact Ze 1 (.inl rfl) s b r w l x fr (by omega) hx (by omega) (λp hp=>by have:=hfw p hp;omega) (λv hv hh _=>JU (Vr hb2 hm (by have:=JU (hsc v hv);omega) hh)) (λ_=>hb2) hsc _ (λ_=>rfl) (λh=>absurd h (by decide))
 by_cases h2:k=2
 ·subst h2
  rw[Ab (by decide),Ae rfl];exact Ze 2 (.inr rfl) s b r w l x fr (by omega) hx (by omega) (λp hp=>by have:=hfw p hp;omega) (λv hv hh h=>absurd h (by decide)) (λh=>absurd h (by decide)) hsc _ (λh=>absurd h (by decide)) (λ_=>rfl)
 by_cases h3:k=3
 ·subst h3
  rw[Ab (by decide),Ab (by decide),Ae rfl];exact z8e s b r w l x fr (by omega) (by omega) hx (by omega) (λp hp=>by have:=hfw p hp;omega)
 rw[Ab h1,Ab h2,Ab h3] at hok ⊢
 have hL:okL l (d+1)=true:=by
  split at hok
  ·exact hok
  ·split at hok
   ·rw[Ac] at hok;exact hok.1
   ·cases hok
 obtain⟨g,rfl⟩:∃m,g=m+1:=⟨g-1,by omega⟩;have ih2:∀n∈l,EnW x g n:=λn hn=>ih n hn (d+1) g (hch n hn) (F8 hL n hn) (by omega) (by have:=P9 hn;omega);have hb2:Bud x 700000 (g+1) (cntA l) fr:=I9 (Ad _) (by omega) hb;have hb3:Bud x 700000 g (cntA l) fr:=I9 (Cr g) (Ad _) hb2;by_cases h4:k=4
 ·subst h4
  rw[Ae rfl];exact Zf s b r w l hsc hx (by omega) hL (by omega) ih2 fr hfr hb3
 by_cases h5:k=5
 ·subst h5
  rw[Ab (by decide),Ae rfl];exact ze5 s b r w l hsc hx (by omega) hL (by omega) ih2 fr hfr hb3
 by_cases h6:k=6
 ·subst h6
  rw[Ab (by decide),Ab (by decide),Ae rfl];rw[Ab (by decide),Ae rfl,Ac,AA] at hok;exact z8i s b r w l hsc hx (by omega) hL hok.2 (by omega) ih2 fr hfr hb2
 ·rw[Ab (by omega),Ab h6] at hok
  cases hok
end
theorem ze7(a b:List Int)(hl:a.length<=1000000000):PC Tryz.prog 132 [A6 a,A6 b] (.int .i64 (C8 a b)):=by
 have pa:=Bf a;have pb:=Bf b;refine Cf Sb ?_;unfold KU;(with_reducible repeat'(first|simp(disch:=omega)only[push_cast,↓zz,seval]|refine sp_ ?_ ?_<;>try(intro hc;push_cast at hc)|omega|intro _))
 refine Br (Bs (λ(k:Nat)=>k<=a.length/\k<=b.length/\C8 a b=k+C8 (a.drop k) (b.drop k)) (λk=>a.length-k)
  (λk=>[(0,A6 a),(1,A6 b),(5,.int .i64 k)]) (λs=>[]) (λenv _=>[]) 0 (by simp) ?_ ?_)
 ·(with_reducible repeat'(first|simp(disch:=omega)only[push_cast,↓zz,seval,pa,pb]|refine sp_ ?_ ?_<;>try(intro hc;push_cast at hc)|omega|intro _))
 rintro k ⟨hk,hkb,hr⟩;refine W_T ?_;by_cases h:k<a.length/\k<b.length/\nth a k=nth b k
 ·obtain⟨h1,h2,h3⟩:=h
  have hs:=QZ h1 h2 h3;(with_reducible repeat'(first|simp(disch:=omega)only[push_cast,↓zz,seval,pa,pb,h3]|refine sp_ ?_ ?_<;>try(intro hc;push_cast at hc)|omega|intro _))
  all_goals
   refine⟨k+1,?_⟩;(with_reducible repeat'(first|simp(disch:=omega)only[push_cast,↓zz,seval,pa,pb]|refine sp_ ?_ ?_<;>try(intro hc;push_cast at hc)|omega|intro _))
  all_goals first|omega
 ·have hs:=Ra h
  rw[hs] at hr;by_cases h1:k<a.length
  ·by_cases h2:k<b.length
   ·have h3:¬nth a k=nth b k:=λe=>h ⟨h1,h2,e⟩
    (with_reducible repeat'(first|simp(disch:=omega)only[push_cast,↓zz,seval,pa,pb,h3]|refine sp_ ?_ ?_<;>try(intro hc;push_cast at hc)|omega|intro _))
    all_goals first|omega
   ·(with_reducible repeat'(first|simp(disch:=omega)only[push_cast,↓zz,seval,pa,pb]|refine sp_ ?_ ?_<;>try(intro hc;push_cast at hc)|omega|intro _))
    all_goals first|omega
  ·(with_reducible repeat'(first|simp(disch:=omega)only[push_cast,↓zz,seval,pa,pb]|refine sp_ ?_ ?_<;>try(intro hc;push_cast at hc)|omega|intro _))
   all_goals first|omega
theorem Rp(a b:List Int)(ha:a.length<=1000000000)(hb:b.length<=1000000000):PC Tryz.prog 96 [A6 a,A6 b] (.int .i64 (cmpL a b)):=by
 have pa:=Bf a;have pb:=Bf b;have hF:=ze7 a b ha;have hfl:=SH a b
 have hst:C8 a b<a.length->C8 a b<b.length->¬nth a (C8 a b)=nth b (C8 a b):=λh1 h2 e=>by
  have key:∀(a b:List Int),C8 a b<a.length->C8 a b<b.length->nth a (C8 a b)=nth b (C8 a b)->False:=λa=>by
   induction a with
   |nil=>intro b h;simp at h
   |cons y l ih =>
    intro b h1 h2 he;cases b with
    |nil=>simp at h2
    |cons z m =>
     rw[C8] at h1 h2 he;split at h1
     ·rename_i hyz
      rw[Ae hyz] at h2 he;exact ih m (by simpa using h1) (by simpa using h2) (by simpa [KF] using he)
     ·rename_i hyz
      rw[Ab hyz] at he;exact hyz he
  exact key a b h1 h2 e
 rw[Pv];generalize C8 a b=f at *;refine Cf Ox ?_;unfold IZ;by_cases h1:f=a.length
 ·by_cases h2:f=b.length
  ·rw[Ae ⟨h1,h2⟩]
   (with_reducible repeat'(first|simp(disch:=omega)only[push_cast,↓zz,seval,pa,pb]|refine sp_ ?_ ?_<;>try(intro hc;push_cast at hc)|refine ee hF ?_|(refine cc hF ?_;simp(disch:=omega)only[push_cast,↓zz,seval,pa,pb];fail_if_success change False)|omega|intro _))
   all_goals first|omega
  ·rw[Ab (λh=>h2 h.2),Ae h1]
   (with_reducible repeat'(first|simp(disch:=omega)only[push_cast,↓zz,seval,pa,pb]|refine sp_ ?_ ?_<;>try(intro hc;push_cast at hc)|refine ee hF ?_|(refine cc hF ?_;simp(disch:=omega)only[push_cast,↓zz,seval,pa,pb];fail_if_success change False)|omega|intro _))
   all_goals first|omega
 ·rw[Ab (λh=>h1 h.1),Ab h1]
  by_cases h2:f=b.length
  ·rw[Ae h2]
   (with_reducible repeat'(first|simp(disch:=omega)only[push_cast,↓zz,seval,pa,pb]|refine sp_ ?_ ?_<;>try(intro hc;push_cast at hc)|refine ee hF ?_|(refine cc hF ?_;simp(disch:=omega)only[push_cast,↓zz,seval,pa,pb];fail_if_success change False)|omega|intro _))
   all_goals first|omega
  ·rw[Ab h2]
   have hne:=hst (by omega) (by omega);by_cases h3:nth a f<nth b f
   ·rw[Ae h3]
    (with_reducible repeat'(first|simp(disch:=omega)only[push_cast,↓zz,seval,pa,pb]|refine sp_ ?_ ?_<;>try(intro hc;push_cast at hc)|refine ee hF ?_|(refine cc hF ?_;simp(disch:=omega)only[push_cast,↓zz,seval,pa,pb];fail_if_success change False)|omega|intro _))
    all_goals first|omega
   ·rw[Ab h3,Ae (by omega)]
    (with_reducible repeat'(first|simp(disch:=omega)only[push_cast,↓zz,seval,pa,pb]|refine sp_ ?_ ?_<;>try(intro hc;push_cast at hc)|refine ee hF ?_|(refine cc hF ?_;simp(disch:=omega)only[push_cast,↓zz,seval,pa,pb];fail_if_success change False)|omega|intro _))
    all_goals first|omega
theorem z8j{w:List Int}:∀{l:List (List Int)}{lo:Nat},I3 l->lo<=l.length->(∀i,i<lo->ltW (nth l i) w=true)->(∀i,lo<=i->i<l.length->ltW (nth l i) w=false) ->
 (lo<l.length/\nth l lo=w->insU w l=l)/\(¬(lo<l.length/\nth l lo=w)->insU w l=l.take lo++w::l.drop lo)
 |[],lo,_,hlo,_,_=>by
  obtain rfl:lo=0:=by simpa using hlo
  exact⟨λh=>absurd h.1 (by simp),λ_=>rfl⟩
 |a::l,0,hs,_,_,h2=>by
  have h:=h2 0 (Ad _) (by simp);rw[RG] at h;refine⟨λ⟨_,e⟩=>?_,λhn=>?_⟩
  ·rw[RG] at e
   subst e;rw[insU,Ab (by rw[FF];simp),Ab (by rw[FF];simp)]
  ·have hne:¬a=w:=λe=>hn ⟨by simp,e⟩
   have hlt:ltW w a=true:=by
    cases hh:ltW w a with
    |true=>rfl
    |false=>exact absurd (Ie _ _ h hh) hne
   rw[insU,Ae hlt];rfl
 |a::l,lo+1,hs,hlo,h1,h2=>by
  have h:=h1 0 (by omega);rw[RG] at h
  have hn:ltW w a=false:=by
   cases hh:ltW w a with
   |false=>rfl
   |true=>have:=GJ _ _ _ h hh;rw[FF] at this;cases this
  have hs2:I3 l:=by rw[I3,AM] at hs;exact hs.2
  obtain⟨k1,k2⟩:=z8j (w:=w) (l:=l) (lo:=lo) hs2 (by simpa using hlo) (λi hi=>by have:=h1 (i+1) (by omega);rwa [KF] at this) (λi hi hl=>by have:=h2 (i+1) (by omega) (by simpa using hl);rwa [KF] at this);have e:insU w (a::l)=a::insU w l:=by rw[insU,Ab (by rw[hn];simp),Ae h]
  rw[KF,e];refine⟨λ⟨c1,c2⟩=>by rw[k1 ⟨by simpa using c1,c2⟩],λc=>by rw[k2 λc'=>c ⟨by simpa using c'.1,c'.2⟩];rfl⟩
def insK(l:List (List Int))(w:List Int)(lo:Nat):Nat->List (List Int)
 |0=>[]
 |k+1=>(if k=lo then insK l w lo k++[w] else insK l w lo k)++[nth l k]
theorem z8k{l:List (List Int)}{w:List Int}{lo:Nat}(hlo:lo<=l.length):∀k,k<=l.length->insK l w lo k=if lo<k then l.take lo++w::(l.take k).drop lo else l.take k
 |0,_=>by simp[insK]
 |k+1,hk=>by
  have ih:=z8k (l:=l) (w:=w) hlo k (by omega);rw[insK,ih,take_at (by omega)];by_cases h1:lo<k
  ·rw[Ae h1,Ab (by omega),Ae (by omega),CZ (by simp;omega)]
   simp
  ·rw[Ab h1]
   by_cases h2:k=lo
   ·subst h2
    rw[Ae rfl,Ae (by omega),CZ (by simp;omega),An (by rw[BA];omega)];simp
   ·rw[Ab h2,Ab (by omega)]
theorem Ta{l:List (List Int)}{w:List Int}{lo:Nat}:∀k,(insK l w lo k).length<=k+1/\(k<=lo->(insK l w lo k).length=k)
 |0=>by simp[insK]
 |k+1=>by
  have ih:=Ta (l:=l) (w:=w) (lo:=lo) k;rw[insK];split
  ·rename_i h
   refine⟨?_,λh2=>by omega⟩;have:=ih.2 (by omega);simp;omega
  ·refine⟨by simp;omega,λh2=>by have:=ih.2 (by omega);simp;omega⟩
set_option maxHeartbeats 1000000 in
theorem zoj(l:List (List Int))(w:List Int)(hl:l.length<=1000000000)(hlw:∀v∈l,v.length<=1000000000)(hw:w.length<=1000000000)(hs:I3 l):PC Tryz.prog 58 [F5 l,A6 w] (F5 (insU w l)):=by
 have pW:=Ce l;have pw:=Bf w;refine Cf VH ?_;unfold Om;(with_reducible repeat'(first|simp(disch:=omega)only[push_cast,↓zz,seval,pW,pw]|refine sp_ ?_ ?_<;>try(intro hc;push_cast at hc)|omega|intro _))
 refine Br (Bs (λ(q:Nat × Nat)=>(q.1<=q.2/\q.2<=l.length)/\Hold ((∀i,i<q.1->ltW (nth l i) w=true)/\∀i,q.2<=i->i<l.length->ltW (nth l i) w=false)) (λq=>q.2-q.1)
  (λq=>[(0,F5 l),(1,A6 w),(5,.int .i64 q.1),(6,.int .i64 q.2)]) (λ_=>[]) (λ_ _=>[]) (0,l.length) ⟨⟨Au _,Ad _⟩,⟨λi hi=>absurd hi (Ba _),λi h1 h2=>by omega⟩⟩ ?_ ?_)
 ·(with_reducible repeat'(first|simp(disch:=omega)only[push_cast,↓zz,seval,pW,pw]|refine sp_ ?_ ?_<;>try(intro hc;push_cast at hc)|omega|intro _))
 rintro⟨lo,hi⟩ ⟨⟨h1,h2⟩,⟨hlt,hge⟩⟩;simp only at h1 h2 hlt hge ⊢;rcases Ak lo hi with hlh|hlh
 ·obtain⟨k,hk⟩:∃k,k=(lo+hi) / 2:=⟨_,rfl⟩
  have hkl:k<l.length:=by omega
  have hq:((lo:Int)+(hi:Int)).tdiv 2=(k:Int):=by rw[Int.tdiv_eq_ediv_of_nonneg (by omega),hk];omega
  have hmem:=AS hkl;have hC:=Rp (nth l k) w (hlw _ hmem) hw
  have hmono:∀i j,i<j->j<l.length->ltW (nth l i) (nth l j)=true:=λi j hij hj=>by
   rw[Gp hj,Gp (by omega)];exact Cq.1 hs i j (by omega) hj hij
  by_cases hc:cmpL (nth l k) w<0
  ·have hltk:=(Vd _ _).1 hc
   have hA:Hold ((∀i,i<k+1->ltW (nth l i) w=true)/\∀i,hi<=i->i<l.length->ltW (nth l i) w=false):=⟨λi hik=>by
    rcases Ak i k with h|h
    ·exact GJ _ _ _ (hmono i k h hkl) hltk
    ·obtain rfl:i=k:=by omega
     exact hltk,hge⟩
   clear hlt hge hmono;generalize cmpL (nth l k) w=c at *;generalize hwe:nth l k=v at *;have pv:=Bf v;refine W_T ?_;(with_reducible repeat'(first|simp(disch:=omega)only[push_cast,↓zz,seval,pW,pw,hq,hwe,pv]|refine sp_ ?_ ?_<;>try(intro hc;push_cast at hc)|refine ee hC ?_|(refine cc hC ?_;simp(disch:=omega)only[push_cast,↓zz,seval,pW,pw,hq,hwe,pv];fail_if_success change False)|omega|intro _));exact⟨(k+1,hi),⟨by simp,rfl⟩,⟨⟨by omega,h2⟩,hA⟩,by simp only;omega⟩
  ·have hltk:ltW (nth l k) w=false:=by
    cases hh:ltW (nth l k) w with
    |false=>rfl
    |true=>exact absurd ((Vd _ _).2 hh) hc
   have hA:Hold ((∀i,i<lo->ltW (nth l i) w=true)/\∀i,k<=i->i<l.length->ltW (nth l i) w=false):=⟨hlt,λi hik hil=>by
    rcases Ak k i with h|h
    ·cases hh:ltW (nth l i) w with
     |false=>rfl
     |true=>have:=GJ _ _ _ (hmono k i h hil) hh;rw[hltk] at this;cases this
    ·obtain rfl:i=k:=by omega
     exact hltk⟩
   clear hlt hge hmono;generalize cmpL (nth l k) w=c at *;generalize hwe:nth l k=v at *;have pv:=Bf v;refine W_T ?_;(with_reducible repeat'(first|simp(disch:=omega)only[push_cast,↓zz,seval,pW,pw,hq,hwe,pv]|refine sp_ ?_ ?_<;>try(intro hc;push_cast at hc)|refine ee hC ?_|(refine cc hC ?_;simp(disch:=omega)only[push_cast,↓zz,seval,pW,pw,hq,hwe,pv];fail_if_success change False)|omega|intro _));exact⟨(lo,k),⟨rfl,rfl⟩,⟨⟨by omega,by omega⟩,hA⟩,by simp only;omega⟩
 ·obtain rfl:lo=hi:=by omega
  obtain⟨k1,k2⟩:=z8j (w:=w) hs h2 hlt hge;clear hlt hge;have hC:=λh=>Rp (nth l lo) w (hlw _ (AS (l:=l) (i:=lo) h)) hw;have hz:=SI (nth l lo) w;by_cases hin:lo<l.length/\nth l lo=w
  ·rw[k1 hin]
   have hC:=hC hin.1;rw[hz.2 hin.2] at hC;have hlo:=hin.1;generalize hwe:nth l lo=v at *;have pv:=Bf v;refine W_T ?_;(with_reducible repeat'(first|simp(disch:=omega)only[push_cast,↓zz,seval,pW,pw,hwe,pv]|refine sp_ ?_ ?_<;>try(intro hc;push_cast at hc)|refine ee hC ?_|(refine cc hC ?_;simp(disch:=omega)only[push_cast,↓zz,seval,pW,pw,hwe,pv];fail_if_success change False)|omega|intro _))
  ·rw[k2 hin]
   have hfin:insK l w lo l.length++(if lo=l.length then [w] else [])=l.take lo++w::l.drop lo:=by
    rw[z8k h2 _ (Ad _)];by_cases h:lo<l.length
    ·rw[Ae h,Ab (by omega),A4,A7]
    ·rw[Ab h,Ae (by omega),A7,Az (by omega),An (by omega)]
   rw[<-hfin];refine W_T ?_;have hil:=Ta (l:=l) (w:=w) (lo:=lo);rcases Ak lo l.length with hlo|hlo
   focus
    have hC:=hC hlo;have hnz:¬cmpL (nth l lo) w=0:=λh=>hin ⟨hlo,hz.1 h⟩;clear hz k1 k2 hin hfin hil;generalize cmpL (nth l lo) w=c at *;generalize hwe:nth l lo=v at *;have pv:=Bf v;(with_reducible repeat'(first|simp(disch:=omega)only[push_cast,↓zz,seval,pW,pw,hwe,pv,hnz]|refine sp_ ?_ ?_<;>try(intro hc;push_cast at hc)|refine ee hC ?_|(refine cc hC ?_;simp(disch:=omega)only[push_cast,↓zz,seval,pW,pw,hwe,pv,hnz];fail_if_success change False)|omega|intro _))
   rotate_left
   focus
    clear hz k1 k2 hin hfin hC hil;(with_reducible repeat'(first|simp(disch:=omega)only[push_cast,↓zz,seval,pW,pw]|refine sp_ ?_ ?_<;>try(intro hc;push_cast at hc)|omega|intro _))
   all_goals
    have hil:=Ta (l:=l) (w:=w) (lo:=lo);refine Br (Bs (λ(k:Nat)=>k<=l.length) (λk=>l.length-k) (λk=>[(0,F5 l),(1,A6 w),(5,.int .i64 lo),(8,.ref 0 1 0 (insK l w lo k).length),(9,.int .i64 k)]) (λk=>[⟨1,1,false,(insK l w lo k).map A6⟩]) (λenv _=>[C7 1 (env 8)]) 0 (Au _) ?_ ?_)
    ·have e0:insK l w lo 0=[]:=rfl
     (with_reducible repeat'(first|simp(disch:=omega)only[push_cast,↓zz,seval,pW,pw,e0]|refine sp_ ?_ ?_<;>try(intro hc;push_cast at hc)|omega|intro _))
    intro k hk;have hAl:=(hil k).1;rcases Ak k l.length with hkl|hkl
    ·by_cases hkq:k=lo
     ·subst hkq
      have e1:insK l w k (k+1)=(insK l w k k++[w])++[nth l k]:=by rw[insK,Ae rfl]
      generalize insK l w k k=A at *;generalize hue:nth l k=u at *;have pA:=Ce A;have pu:=Bf u;refine W_T ?_;(with_reducible repeat'(first|simp(disch:=omega)only[push_cast,↓zz,seval,pW,pw,pA,pu,hue]|refine sp_ ?_ ?_<;>try(intro hc;push_cast at hc)|omega|intro _))
      all_goals
       refine⟨k+1,?_⟩;(with_reducible repeat'(first|simp(disch:=omega)only[push_cast,↓zz,seval,pW,pw,pA,pu,e1]|refine sp_ ?_ ?_<;>try(intro hc;push_cast at hc)|omega|intro _))
     ·have e1:insK l w lo (k+1)=insK l w lo k++[nth l k]:=by rw[insK,Ab hkq]
      generalize insK l w lo k=A at *;generalize hue:nth l k=u at *;have pA:=Ce A;have pu:=Bf u;refine W_T ?_;(with_reducible repeat'(first|simp(disch:=omega)only[push_cast,↓zz,seval,pW,pw,pA,pu,hkq,hue]|refine sp_ ?_ ?_<;>try(intro hc;push_cast at hc)|omega|intro _))
      all_goals
       refine⟨k+1,?_⟩;(with_reducible repeat'(first|simp(disch:=omega)only[push_cast,↓zz,seval,pW,pw,pA,pu,e1]|refine sp_ ?_ ?_<;>try(intro hc;push_cast at hc)|omega|intro _))
    ·obtain rfl:k=l.length:=by omega
     generalize insK l w lo l.length=A at *;have pA:=Ce A;have tA:List.take (A.length+1) (A.map A6++[A6 w])=A.map A6++[A6 w]:=Az (by simp);refine W_T ?_;by_cases hlq:lo=l.length
     ·rw[Ae hlq]
      (with_reducible repeat'(first|simp(disch:=omega)only[push_cast,↓zz,seval,pW,pw,pA,hlq,tA]|refine sp_ ?_ ?_<;>try(intro hc;push_cast at hc)|omega|intro _))
     ·rw[Ab hlq,A4]
      (with_reducible repeat'(first|simp(disch:=omega)only[push_cast,↓zz,seval,pW,pw,pA,hlq]|refine sp_ ?_ ?_<;>try(intro hc;push_cast at hc)|omega|intro _))
section
variable {x:List Int}
theorem Tb(s:List Span)(f:Int->List Int):∀(fr out:List En),(oneE x s f fr out).length<=out.length+fr.length
 |[],out=>Ad _
 |q::fr,out=>by
  have h2:=H0 out (q.1+1,q.2++f (nth x q.1));rw[oneE,List.length_cons];split
  ·have h:=Tb s f fr (putE out (q.1+1,q.2++f (nth x q.1)));omega
  ·have h:=Tb s f fr out;omega
theorem Tc(r w:List Int):∀(fr out:List En),(Mo x r w fr out).length<=out.length+fr.length
 |[],out=>Ad _
 |q::fr,out=>by
  have h2:=H0 out (q.1+r.length,q.2++w);rw[Mo,List.length_cons];split
  ·have h:=Tc r w fr (putE out (q.1+r.length,q.2++w));omega
  ·have h:=Tc r w fr out;omega
theorem z8l:∀(l:List Rec)(fr:List En),fr.length<=400->(enC x l fr).2=false->(enC x l fr).1=[]
 |[],fr,hf,h=>by
  rw[enC,fewP,AE hf] at h;cases h
 |n::l,fr,hf,h=>by
  rw[enC] at h ⊢;split
  ·rename_i h1
   rw[Ae h1] at h;exact z8l l _ (Ro n hf h1) h
  ·rfl
theorem Rq{body:List En->EnQ}:∀(n:Nat)(now out:List En),(F9 body n now out).2=false->(F9 body n now out).1=[]
 |0,now,out,h=>by cases h
 |n+1,now,out,h=>by
  rw[F9] at h ⊢;split
  ·rename_i h0;rw[Ae h0] at h;cases h
  ·rename_i h0
   rw[Ab h0] at h;split
   ·rename_i h1
    rw[Ae h1] at h;split
    ·rename_i h2
     rw[Ae h2] at h;exact Rq n _ _ h
    ·rfl
   ·rfl
def OutB(L:List En):Prop:=L.length<=500000/\∀p∈L,p.2.length<=700000
theorem z8m{fr:List En}(hf:fr.length<=400):∀(l:List Rec)(out:List En),(∀n∈l,(enR x n fr).2=true->∀p∈(enR x n fr).1,p.2.length<=700000)->(∀p∈out,p.2.length<=700000) ->
 (enA x l fr out).1.length<=out.length+400 * l.length/\∀p∈(enA x l fr out).1,p.2.length<=700000
 |[],out,_,ho=>⟨by rw[enA,fewP];simp,ho⟩
 |n::l,out,hn,ho=>by
  rw[enA];split
  ·rename_i h1
   have hw:=hn n (by simp) h1;have hfe:=Ro n hf h1;have hp:=L3 (enR x n fr).1 out
   obtain⟨k1,k2⟩:=z8m hf l (Fq out (enR x n fr).1) (λm hm=>hn m (by simp[hm])) (λp hp=>by
    rcases Jn.1 hp with hp|hp
    ·exact ho p hp
    ·exact hw p hp)
   refine⟨?_,k2⟩;rw[List.length_cons];omega
  ·exact⟨Au _,λp hp=>by cases hp⟩
theorem ze8(hsc:∀v∈x,Dh 2 v=true){n:Rec}{d:Int}{g:Nat}(hok:okR n d=true)(hg:d+g=66)(hc:cntN n<=1000){fr:List En}(hfr:fr.length<=400)(hb:Bud x 700000 g (cntN n) fr):OutB (enR x n fr).1:=by
 cases hq:(enR x n fr).2 with
 |true =>
  have h1:=Ro n hfr hq;have h2:=NA (c:=0) hsc hok hg hb hq;exact⟨by omega,λp hp=>(Mr h2 p hp).2⟩
 |false =>
  obtain⟨k,s,b,r,w,l⟩:=n;rw[cntN] at hb hc;have hlen:=JC l;have hd:=SE hok;rw[okR,Ac] at hok;obtain⟨_,hok⟩:=hok
  have hlim:∀q∈fr,q.2.length+(1+w.length)<=700000:=λq hq=>by
   have:=(hb q hq).2;unfold Lim at this;omega
  rw[enR] at hq ⊢;by_cases h1:k=1
  ·rw[Ae h1]
   have:=Tb (x:=x) s (λv=>[v+b]) fr [];refine⟨by rw[fewP];simp only[List.length_nil] at this ⊢;omega,λp hp=>?_⟩;rcases (L5 s _ fr [] p).1 hp with hp|⟨q,hq,_,_,h⟩
   ·cases hp
   ·rw[h,Aj]
    have:=hlim q hq;simp only[List.length_singleton];omega
  by_cases h2:k=2
  ·rw[Ab h1,Ae h2]
   have:=Tb (x:=x) s (λv=>[]) fr [];refine⟨by rw[fewP];simp only[List.length_nil] at this ⊢;omega,λp hp=>?_⟩;rcases (L5 s _ fr [] p).1 hp with hp|⟨q,hq,_,_,h⟩
   ·cases hp
   ·rw[h,Aj]
    have:=hlim q hq;simp only[List.length_nil];omega
  by_cases h3:k=3
  ·rw[Ab h1,Ab h2,Ae h3]
   have:=Tc (x:=x) r w fr [];refine⟨by rw[fewP];simp only[List.length_nil] at this ⊢;omega,λp hp=>?_⟩;rcases (P5 r w fr [] p).1 hp with hp|⟨q,hq,_,_,h⟩
   ·cases hp
   ·rw[h,Aj]
    have:=hlim q hq;omega
  rw[Ab h1,Ab h2,Ab h3] at hok hq ⊢
  have hL:okL l (d+1)=true:=by
   split at hok
   ·exact hok
   ·split at hok
    ·rw[Ac] at hok;exact hok.1
    ·cases hok
  obtain⟨g,rfl⟩:∃m,g=m+1:=⟨g-1,by omega⟩;have nil:OutB []:=⟨Au _,λp hp=>by cases hp⟩;by_cases h4:k=4
  ·rw[Ae h4] at hq ⊢
   rw[z8l l fr hfr hq];exact nil
  by_cases h5:k=5
  ·rw[Ab h4,Ae h5] at hq ⊢
   obtain⟨k1,k2⟩:=z8m (x:=x) hfr l [] (λn hn h=>by
    have:=NA (c:=0) hsc (F8 hL n hn) (show d+1+(g:Int)=66 by omega) (I9 (Cr g) (by have:=P9 hn;omega) hb) h
    exact λp hp=>(Mr this p hp).2) (λp hp=>by cases hp)
   exact⟨by simp only[List.length_nil] at k1;omega,k2⟩
  by_cases h6:k=6
  ·rw[Ab h4,Ab h5,Ae h6] at hq ⊢
   rw[Rq _ _ _ hq];exact nil
  ·rw[Ab h4,Ab h5,Ab h6];exact nil
end
def IL(m:Nat)(O:List (List Int))(p:En):List (List Int):=if p.1=m then insU p.2 O else O
def Td(m:Nat)(L:List En):List (List Int):=L.foldl (IL m) []
theorem ze9{m:Nat}{O:List (List Int)}(h:I3 O)(p:En):I3 (IL m O p)/\(IL m O p).length<=O.length+1/\∀w,w∈IL m O p↔w∈O\/(p.1=m/\w=p.2):=by
 unfold IL;split
 ·rename_i hm
  refine⟨Po _ h,SB _ _,λw=>?_⟩;rw[Nz];simp[hm,or_comm]
 ·rename_i hm
  exact⟨h,Cr _,λw=>by simp[hm]⟩
theorem PD{m:Nat}:∀(L:List En){O:List (List Int)},I3 O->I3 (L.foldl (IL m) O)/\(L.foldl (IL m) O).length<=O.length+L.length/\∀w,w∈L.foldl (IL m) O↔w∈O\/∃p∈L,p.1=m/\w=p.2
 |[],O,h=>⟨h,Ad _,λw=>by simp⟩
 |p::L,O,h=>by
  obtain⟨h1,h2,h3⟩:=ze9 (m:=m) h p;obtain⟨k1,k2,k3⟩:=PD L h1;refine⟨k1,by rw[List.length_cons];simp only[List.foldl_cons];omega,λw=>?_⟩;rw[List.foldl_cons,k3,h3];simp only[Af,exists_eq_or_imp,F1]
theorem zea(m:Nat)(L:List En):Td m L=I4 (z1g m L):=by
 obtain⟨h1,_,h3⟩:=PD (m:=m) L (O:=[]) List.Pairwise.nil;refine Ny h1 (Ha _) λw=>?_;rw[Hn,z1g];simp only[Ax,Bn,Ah];rw[show w∈Td m L↔_ from h3 w];constructor
 ·rintro (h|⟨p,k1,k2,k3⟩)
  ·cases h
  ·exact⟨p,⟨k1,k2⟩,k3.symm⟩
 ·rintro⟨p,⟨k1,k2⟩,k3⟩
  exact .inr ⟨p,k1,k2,k3.symm⟩
theorem Xd(n:Rec)(x:List Int)(hf:EI n)(hok:okR n 0=true)(hc:cntN n<=300)(hsc:∀v∈x,Dh 2 v=true)(hx:x.length<=10):
 PC Tryz.prog 22 [recV n,A6 x] (.tup [F5 (Td x.length (enR x n [(0,[])]).1),.bool (enR x n [(0,[])]).2]):=by
 have hbd:Bud x 700000 66 (cntN n) [(0,[])]:=λp hp=>by
  rw[Am] at hp;subst hp;refine⟨Au _,?_⟩;unfold Lim;have h1:66 * cntN n * (x.length-0)<=66 * 300 * 10:=Ca (Nat.mul_le_mul_left _ hc) (by omega);simp only[List.length_nil];omega
 have hE:=ze6 hsc (by omega) n 0 66 hf hok (by omega) (by omega) [(0,[])] (by simp) hbd;obtain⟨hLl,hLw⟩:=ze8 hsc hok (by omega) (by omega) (by simp) hbd;obtain⟨k,s,b,r,w,l,he⟩:∃k s b r w l,n=.mk k s b r w l:=by cases n;exact⟨_,_,_,_,_,_,rfl⟩
 generalize enR x n [(0,[])]=Q at *;obtain⟨L,ok⟩:=Q;simp only at hLl hLw ⊢;rw[he,Cv] at *;have ps:=BR s r w l;have px:=Bf x;have pL:=C4 L;refine PP Oh ?_;unfold IV;refine BG (W_T ?_);(with_reducible repeat'(first|simp(disch:=omega)only[push_cast,↓zz,seval,ps,px]|refine sp_ ?_ ?_<;>try(intro hc;push_cast at hc)|omega|intro _));refine BG (W_T ?_)
 have hE:PC Tryz.prog 57 [.agg [.int .i64 k,Bg s,.int .i64 b,A6 r,A6 w,.lst 6 (l.map recV)],A6 x,.lst 2 [.agg [.int .i64 0,.nilS]]] (enqV (L,ok)) :=
  Iq hE (AW (AV.le_refl _) (AW (AV.le_refl _) (AW (AV.le_lst rfl rfl (AW (AV.le_agg (AW (AV.le_refl _) (AW (AV.le_nilS (by decide)) D2))) D2)) D2)))
 (with_reducible repeat'(first|simp(disch:=omega)only[push_cast,↓zz,seval,ps,px,pL]|refine sp_ ?_ ?_<;>try(intro hc;push_cast at hc)|refine ee hE ?_|(refine cc hE ?_;simp(disch:=omega)only[push_cast,↓zz,seval,ps,px,pL];fail_if_success change False)|omega|intro _));refine BG (W_T ?_);(with_reducible repeat'(first|simp(disch:=omega)only[push_cast,↓zz,seval,px,pL]|refine sp_ ?_ ?_<;>try(intro hc;push_cast at hc)|omega|intro _));refine BG (BG (W_T ?_));(with_reducible repeat'(first|simp(disch:=omega)only[push_cast,↓zz,seval,px,pL]|refine sp_ ?_ ?_<;>try(intro hc;push_cast at hc)|omega|intro _))
 refine Es (IT Ent.refl (Bs (λ(i:Nat)=>i<=L.length) (λi=>L.length-i)
  (λi=>[(1,A6 x),(6,ensV L),(7,.bool ok),(8,F5 ((L.take i).foldl (IL x.length) [])),(9,.int .i64 i)]) (λ_=>[]) (λenv _=>[]) 0 (Au _) ?_ ?_))
 ·(with_reducible repeat'(first|simp(disch:=omega)only[push_cast,↓zz,seval,px,pL]|refine sp_ ?_ ?_<;>try(intro hc;push_cast at hc)|omega|intro _))
  all_goals first|rfl
 intro i hi;obtain⟨o1,o2,o3⟩:=PD (m:=x.length) (L.take i) (O:=[]) List.Pairwise.nil
 have o4:∀v∈(L.take i).foldl (IL x.length) [],v.length<=700000:=λv hv=>by
  rcases (o3 v).1 hv with h|⟨p,h1,_,rfl⟩
  ·cases h
  ·exact hLw p (B8 h1)
 rw[List.length_nil,BA] at o2;rcases Ak i L.length with hil|hil
 ·have e1:(L.take (i+1)).foldl (IL x.length) []=IL x.length ((L.take i).foldl (IL x.length) []) (nth L i):=by rw[take_at hil,CO];rfl
  have hP:=zoj ((L.take i).foldl (IL x.length) []) (nth L i).2 (by omega) (λv hv=>by have:=o4 v hv;omega) (by have:=hLw _ (AS hil);omega) o1;generalize (L.take i).foldl (IL x.length) []=O at *;have pO:=Ce O;have pn:Bh ((nth L i).2.map (AV.int .i32))=true:=D9 .i32 _;refine BG (W_T ?_);(with_reducible repeat'(first|simp(disch:=omega)only[push_cast,↓zz,seval,px,pL,pO]|refine sp_ ?_ ?_<;>try(intro hc;push_cast at hc)|omega|intro _));refine BG (Es (BG (W_T ?_)));by_cases h1:(nth L i).1=x.length
  ·rw[IL,Ae h1] at e1
   (with_reducible repeat'(first|simp(disch:=omega)only[push_cast,↓zz,seval,px,pL,pO,pn,h1]|refine sp_ ?_ ?_<;>try(intro hc;push_cast at hc)|omega|intro _));refine W_T ?_;(with_reducible repeat'(first|simp(disch:=omega)only[push_cast,↓zz,seval,px,pL,pO,pn]|refine sp_ ?_ ?_<;>try(intro hc;push_cast at hc)|refine ee hP ?_|(refine cc hP ?_;simp(disch:=omega)only[push_cast,↓zz,seval,px,pL,pO,pn];fail_if_success change False)|omega|intro _));refine W_T ?_;(with_reducible repeat'(first|simp(disch:=omega)only[push_cast,↓zz,seval,px,pL,pO,pn]|refine sp_ ?_ ?_<;>try(intro hc;push_cast at hc)|omega|intro _))
   all_goals
    refine⟨i+1,?_⟩;(with_reducible repeat'(first|simp(disch:=omega)only[push_cast,↓zz,seval,px,pL,e1]|refine sp_ ?_ ?_<;>try(intro hc;push_cast at hc)|omega|intro _))
   all_goals first|omega
  ·rw[IL,Ab h1] at e1
   have h1:¬(((nth L i).1:Int)=x.length):=by omega
   (with_reducible repeat'(first|simp(disch:=omega)only[push_cast,↓zz,seval,px,pL,pO,pn,h1]|refine sp_ ?_ ?_<;>try(intro hc;push_cast at hc)|omega|intro _));refine W_T ?_;(with_reducible repeat'(first|simp(disch:=omega)only[push_cast,↓zz,seval,px,pL,pO,pn]|refine sp_ ?_ ?_<;>try(intro hc;push_cast at hc)|omega|intro _));refine W_T ?_;(with_reducible repeat'(first|simp(disch:=omega)only[push_cast,↓zz,seval,px,pL,pO,pn]|refine sp_ ?_ ?_<;>try(intro hc;push_cast at hc)|omega|intro _))
   all_goals
    refine⟨i+1,?_⟩;(with_reducible repeat'(first|simp(disch:=omega)only[push_cast,↓zz,seval,px,pL,e1]|refine sp_ ?_ ?_<;>try(intro hc;push_cast at hc)|omega|intro _))
   all_goals first|omega
 ·obtain rfl:i=L.length:=by omega
  rw[A7] at *;have e0:L.foldl (IL x.length) []=Td x.length L:=rfl;rw[e0] at *;generalize Td x.length L=O at *;have pO:=Ce O;refine BG (W_T ?_);(with_reducible repeat'(first|simp(disch:=omega)only[push_cast,↓zz,seval,px,pL,pO]|refine sp_ ?_ ?_<;>try(intro hc;push_cast at hc)|omega|intro _));refine W_T ?_;(with_reducible repeat'(first|simp(disch:=omega)only[push_cast,↓zz,seval,px,pL,pO]|refine sp_ ?_ ?_<;>try(intro hc;push_cast at hc)|omega|intro _))
  all_goals first|((repeat'(first|(simp(disch:=omega)only[push_cast,↓zz,seval,D3])|omega|(with_reducible refine Aa ?_ ?_)));done)
set_option maxHeartbeats 1000000 in
theorem PE(n:Rec)(x:List Int)(hok:Nm n)(hl:x.length<=9223372036854775807)(h32:∀v∈x,-2147483648<=v/\v<=2147483647):PC Tryz.prog 3 [recV n,A6 x] (.bool true):=by
 have hS:=z7n n hok;have hA:=WW;have hF:=λ(h:x.length<=10)=>WN 2 x (by omega) h32
 have hZ:PC Tryz.prog 20 [DV PS,zo3] (.bool true):=by
  have h:=z0o PS PS ⟨by simp[PS],λr hr=>(by cases hr),by simp[PS],λr hr=>(by cases hr)⟩;rw[AE rfl] at h;exact Iq h (AW (AV.le_refl _) (AW (AV.le_agg (AW (AV.le_refl _) (AW (AV.le_refl _) (AW (AV.le_refl _) (AW (AV.le_refl _) (AW (AV.le_nilS (by decide)) (AW (AV.le_nilS (by decide)) D2))))))) D2))
 have hf:=Vk (n:=n) hok;have hC:=λh=>Nf n (hf h) (by have:=Lx h;omega);have hR:=λh=>z7j n (hf h) 0 (by decide) (by decide);have hE:=λh=>WY (n:=n) h;have hO:=λh (hr:okR n 0=true) (hx:x.length<=10) (hsc:∀v∈x,Dh 2 v=true)=>Xd n x (hf h) hr (by have:=Lx h;omega) hsc hx
 have key:Pz n=true->okR n 0=true->x.length<=10->(∀v∈x,Dh 2 v=true)->(enR x n [(0,[])]).2=true ->
  PC Tryz.prog 23 [DV (Hq n),A6 x,.int .i64 500] (.tup [F5 (Td x.length (enR x n [(0,[])]).1),.int .i64 0])/\(Td x.length (enR x n [(0,[])]).1).length<=400/\∀w∈Td x.length (enR x n [(0,[])]).1,w.length<=100000000:=λhs hr hx hsc hq=>by
  have he:=hE hs;rw[Ab (by rw[hr];simp)] at he;have h0:askV (Hq n) x=0:=SN.2 ⟨Rk he,by omega,AP.2 hsc⟩;have hw:=zke (L:=(enR x n [(0,[])]).1) he hsc h0 (by rw[WZ,optP,Ae hq]);have hlen:=ze3 (m:=x.length) (enR x n [(0,[])]).1;have hfe:=Ro (x:=x) n (fr:=[(0,[])]) (by simp) hq;rw[<-zea] at hw hlen;have hRun:=Nc (Hq n) x (YY he) (by omega) h32 (500:Nat) (by decide) λ_=>AJ (Nat.min_le_left _ _) (by decide);rw[zdr h0 (by decide) (by rw[hw];omega),hw] at hRun;obtain⟨m,hk⟩:=YP h0;exact⟨hRun,by omega,λw hw'=>z7h hk (by rw[hw];exact hw')⟩
 obtain⟨k,s,b,r,w,l,hn⟩:∃k s b r w l,n=.mk k s b r w l:=by cases n;exact⟨_,_,_,_,_,_,rfl⟩
 unfold zdy at hC;generalize IK n=e at *;generalize Hq n=D at *;generalize hsm:Pz n=c at *;generalize okR n 0=q at *;generalize enR x n [(0,[])]=Q at *;obtain⟨L,okq⟩:=Q;simp only at hO key;generalize Td x.length L=W at *;rw[hn,Cv] at *;clear hf hok;have ps:=BR s r w l;have px:=Bf x;have pZ1:=BO PS.rules;have pZ2:=Ch PS.finals;have pR:=BO D.rules;have pF:=Ch D.finals;have pW:=Ce W;refine PP Km ?_;unfold Hh;refine BG (W_T ?_);(with_reducible repeat'(first|simp(disch:=omega)only[push_cast,↓zz,seval,ps,px]|refine sp_ ?_ ?_<;>try(intro hc;push_cast at hc)|omega|intro _));refine BG (W_T ?_);cases c with
 |false =>
  (with_reducible repeat'(first|simp(disch:=omega)only[push_cast,↓zz,seval,ps,px]|refine sp_ ?_ ?_<;>try(intro hc;push_cast at hc)|refine ee hS ?_|refine ee hA ?_|((first|refine cc hS ?_|refine cc hA ?_);simp(disch:=omega)only[push_cast,↓zz,seval,ps,px];fail_if_success change False)|omega|intro _))
 |true =>
  by_cases hx:10<x.length
  ·(with_reducible repeat'(first|simp(disch:=omega)only[push_cast,↓zz,seval,ps,px,hx]|refine sp_ ?_ ?_<;>try(intro hc;push_cast at hc)|refine ee hS ?_|refine ee hA ?_|((first|refine cc hS ?_|refine cc hA ?_);simp(disch:=omega)only[push_cast,↓zz,seval,ps,px,hx];fail_if_success change False)|omega|intro _))
  have hx:x.length<=10:=by omega
  have hF:=hF hx;cases hd:x.all (Dh 2) with
  |false =>
   rw[hd] at hF;(with_reducible repeat'(first|simp(disch:=omega)only[push_cast,↓zz,seval,ps,px,hx]|refine sp_ ?_ ?_<;>try(intro hc;push_cast at hc)|refine ee hS ?_|refine ee hF ?_|refine ee hA ?_|((first|refine cc hS ?_|refine cc hF ?_|refine cc hA ?_);simp(disch:=omega)only[push_cast,↓zz,seval,ps,px,hx];fail_if_success change False)|omega|intro _))
  |true =>
   rw[hd] at hF;have hsc:=AP.1 hd;have hC:=hC rfl;have hR:=hR rfl;have hE:=hE rfl;(with_reducible repeat'(first|simp(disch:=omega)only[push_cast,↓zz,seval,ps,px,hx]|refine sp_ ?_ ?_<;>try(intro hc;push_cast at hc)|refine ee hS ?_|refine ee hF ?_|refine ee hA ?_|((first|refine cc hS ?_|refine cc hF ?_|refine cc hA ?_);simp(disch:=omega)only[push_cast,↓zz,seval,ps,px,hx];fail_if_success change False)|omega|intro _));refine BG (W_T ?_);cases q with
   |false =>
    rw[Ae rfl] at hE;subst hE;rw[Ab (by decide)] at hC;(with_reducible repeat'(first|simp(disch:=omega)only[push_cast,↓zz,seval,ps,px,pZ1,pZ2]|refine sp_ ?_ ?_<;>try(intro hc;push_cast at hc)|refine ee hC ?_|(refine cc hC ?_;simp(disch:=omega)only[push_cast,↓zz,seval,ps,px,pZ1,pZ2];fail_if_success change False)|omega|intro _));refine BG (W_T ?_);(with_reducible repeat'(first|simp(disch:=omega)only[push_cast,↓zz,seval,ps,px,pZ1,pZ2]|refine sp_ ?_ ?_<;>try(intro hc;push_cast at hc)|refine ee hR ?_|refine ee hZ ?_|refine ee hA ?_|((first|refine cc hR ?_|refine cc hZ ?_|refine cc hA ?_);simp(disch:=omega)only[push_cast,↓zz,seval,ps,px,pZ1,pZ2];fail_if_success change False)|omega|intro _))
   |true =>
    rw[Ab (by simp)] at hE;subst hE;rw[Ae rfl] at hC;have hO:=hO rfl rfl hx hsc;(with_reducible repeat'(first|simp(disch:=omega)only[push_cast,↓zz,seval,ps,px,pR,pF]|refine sp_ ?_ ?_<;>try(intro hc;push_cast at hc)|refine ee hC ?_|(refine cc hC ?_;simp(disch:=omega)only[push_cast,↓zz,seval,ps,px,pR,pF];fail_if_success change False)|omega|intro _));refine BG (W_T ?_);(with_reducible repeat'(first|simp(disch:=omega)only[push_cast,↓zz,seval,ps,px,pR,pF]|refine sp_ ?_ ?_<;>try(intro hc;push_cast at hc)|refine ee hR ?_|(refine cc hR ?_;simp(disch:=omega)only[push_cast,↓zz,seval,ps,px,pR,pF];fail_if_success change False)|omega|intro _));refine BG (W_T ?_);(with_reducible repeat'(first|simp(disch:=omega)only[push_cast,↓zz,seval,ps,px,pR,pF]|refine sp_ ?_ ?_<;>try(intro hc;push_cast at hc)|omega|intro _));refine BG (W_T ?_);(with_reducible repeat'(first|simp(disch:=omega)only[push_cast,↓zz,seval,ps,px,pR,pF,pW]|refine sp_ ?_ ?_<;>try(intro hc;push_cast at hc)|refine ee hO ?_|(refine cc hO ?_;simp(disch:=omega)only[push_cast,↓zz,seval,ps,px,pR,pF,pW];fail_if_success change False)|omega|intro _));refine BG (W_T ?_);cases okq with
    |false =>
     (with_reducible repeat'(first|simp(disch:=omega)only[push_cast,↓zz,seval,ps,px,pR,pF,pW]|refine sp_ ?_ ?_<;>try(intro hc;push_cast at hc)|refine ee hA ?_|(refine cc hA ?_;simp(disch:=omega)only[push_cast,↓zz,seval,ps,px,pR,pF,pW];fail_if_success change False)|omega|intro _))
    |true =>
     obtain⟨hRun,hWl,hWw⟩:=key rfl rfl hx hsc rfl;have hM:=Pn W W (by omega) (λw hw=>by have:=hWw w hw;omega);rw[AE rfl] at hM;(with_reducible repeat'(first|simp(disch:=omega)only[push_cast,↓zz,seval,ps,px,pR,pF,pW]|refine sp_ ?_ ?_<;>try(intro hc;push_cast at hc)|omega|intro _));refine BG (W_T ?_);(with_reducible repeat'(first|simp(disch:=omega)only[push_cast,↓zz,seval,ps,px,pR,pF,pW]|refine sp_ ?_ ?_<;>try(intro hc;push_cast at hc)|refine ee hRun ?_|(refine cc hRun ?_;simp(disch:=omega)only[push_cast,↓zz,seval,ps,px,pR,pF,pW];fail_if_success change False)|omega|intro _));refine W_T ?_;(with_reducible repeat'(first|simp(disch:=omega)only[push_cast,↓zz,seval,ps,px,pR,pF,pW]|refine sp_ ?_ ?_<;>try(intro hc;push_cast at hc)|refine ee hM ?_|refine ee hA ?_|((first|refine cc hM ?_|refine cc hA ?_);simp(disch:=omega)only[push_cast,↓zz,seval,ps,px,pR,pF,pW];fail_if_success change False)|omega|intro _))
end Go.Proofs.YtflibbceibjddaaGreat
