/-
  Parts of the proof that the law holds whatever the input; without conditions.
-/
import Derived.Test.YtbcjoeadpjfcfaaEB6
import Derived.Test.YtbcjoeadpjfcfaaEB4
set_option linter.unusedSimpArgs false
set_option linter.unusedVariables false
set_option maxRecDepth 100000
namespace Go.Proofs.Ytbcjoeadpjfcfaa
open Abs
abbrev e1 (i:Nat):AV:=.int .i64 i
def wayV (w:Int × List Term):AV:=.agg [.int .i64 w.1,Bl w.2]
theorem Fl (w:Int × List Term):(wayV w).pure=true:=by simp[wayV,AV.pure,Ap,Aq]
def epsV (l:List Rule) (n:Nat):AV:=.lst 1 (fD 1 e1 n fun i=>epsI l i)
def fnL (d:Desc) (n left:Nat) (V:Nat→Nat) (D:Nat→List (Int × List Term)):List Grp :=
 ⟨9,1,true,[.agg [.int .i64 d.in_,.int .i64 d.out,.int .i64 d.states,.int .i64 d.start,De d.rules,F1 d.finals,epsV d.rules n,.ref 1 1 0 n,.int .i64 left]]⟩::⟨1,1,true,fT 2 n V D⟩::fF 2 wayV n V D
theorem L5 (d:Desc) (n left:Nat) (V:Nat→Nat) (D:Nat→List (Int × List Term)):fnL d n left V D=⟨9,1,true,[.agg [.int .i64 d.in_,.int .i64 d.out,.int .i64 d.states,.int .i64 d.start,De d.rules,F1 d.finals,epsV d.rules n,.ref 1 1 0 n,.int .i64 left]]⟩::⟨1,1,true,fT 2 n V D⟩::fF 2 wayV n V D:=rfl
theorem Do (d:Desc) (n left:Nat) (V:Nat→Nat) (D:Nat→List (Int × List Term)):(fnL d n left V D).length=n+2:=by simp[fnL,H0]
theorem Km (l:List Rule) (n:Nat):Ap (fD 1 e1 n fun i=>epsI l i)=true:=H5 fun _=>rfl
theorem Du (d:Desc) (n left:Nat) (V:Nat→Nat) (D:Nat→List (Int × List Term)):∀ G∈fnL d n left V D,ltL (fnL d n left V D).length G.xs:=fun G hG=>by
 rw[Do];simp only[fnL,List.mem_cons] at hG;rcases hG with rfl|rfl|hG
 · have h1:ltV (n+2) (De d.rules):=C0 _ _ (A7 _)
   have h2:ltV (n+2) (F1 d.finals):=C0 _ _ (A6 _);have h3:ltV (n+2) (epsV d.rules n):=C0 _ _ (Km _ _);exact⟨⟨trivial,trivial,trivial,trivial,h1,h2,h3,(show 1<n+2 by omega),trivial,trivial⟩,trivial⟩
 · exact z1s (by omega)
 · exact z1t Fl G hG
theorem zkd (l:List Rule) (n:Nat) (s:Int) (out:List Term):0<(wayL l n s out).length:=by
 rw[wayL,List.length_map];exact zeo l n s
def wayK (l:List Rule) (n:Nat) (s:Int) (out:List Term) (k:Nat):List (Int × List Term):=((epsI l s).take k).flatMap fun i=>wayL l n (nth l i).to_ (out++(nth l i).out)
theorem za3 {l:List Rule} {n:Nat} {s:Int} {out:List Term} {k:Nat} (h:k<(epsI l s).length):wayK l n s out (k+1)=wayK l n s out k++wayL l n (nth l (nth (epsI l s) k)).to_ (out++(nth l (nth (epsI l s) k)).out):=by
 rw[wayK,take_at h,List.flatMap_append];simp[wayK]
theorem zke {l:List Rule} {n:Nat} {s:Int} {out:List Term} {k:Nat} (h:k≤(epsI l s).length):∃ r,wayK l n s out (epsI l s).length=wayK l n s out k++r:=by
 have:epsI l s=(epsI l s).take k++(epsI l s).drop k:=(List.take_append_drop k _).symm;refine⟨((epsI l s).drop k).flatMap fun i=>wayL l n (nth l i).to_ (out++(nth l i).out),?_⟩;rw[wayK,List.take_length,wayK,←List.flatMap_append,List.take_append_drop]
theorem zet {l:List Rule} {n:Nat} (hl:∀ r∈l,(0≤r.from_∧r.from_<n)∧0≤r.to_∧r.to_<n) (hc:¬cycP l n) {s:Int} (hs:0≤s) (out:List Term):wayL l n s out=(s,out)::wayK l n s out (epsI l s).length:=by
 rw[zka hl hc hs,wayK,List.take_length]
theorem za4 {α:Type} (D:Nat→List α) (i:Nat) (l:List α) (h:l=D i):setD D i l=D:=by
 funext p;simp only[setD];split
 · rename_i e;rw[h,e]
 · rfl
theorem We {α:Type} (D:Nat→List α) (i:Nat) (l m:List α):setD (setD D i l) i m=setD D i m:=by
 funext p;simp only[setD];split<;>rfl
theorem Yq {α:Type} (D:Nat→List α) (i:Nat) (l:List α):setD D i l i=l:=by simp[setD]
theorem zeu {α:Type} {a:α} {L M r W:List α} {left l':Nat} (hW:W=a::(L++M++r)) (hl:left=1+L.length+l') (hM:l'<M.length):W.take left=a::(L++M.take l')∧left<W.length:=by
 subst hW;refine⟨?_,by simp;omega⟩;rw[hl,show 1+L.length+l'=L.length+l'+1 by omega,List.take_succ_cons,List.append_assoc,List.take_append,List.take_of_length_le (by omega),Nat.add_sub_cancel_left,List.take_append_of_le_length (by omega)]
theorem zev (d:Desc) {n:Nat} (hn:n≤1024) (hrl:d.rules.length≤4096) (hl:∀ r∈d.rules,(0≤r.from_∧r.from_<n)∧0≤r.to_∧r.to_<n) (hc:¬cycP d.rules n) (ho:∀ r∈d.rules,r.out.length≤64) :
   ∀ (left:Nat) (root s:Nat) (out:List Term) (V:Nat→Nat) (D:Nat→List (Int × List Term)),left≤4096→root<n→s<n→out.length+64 * left≤64 * 4096→(D root).length+left≤4096 →
   Bj Try.prog 22 [.ptr 0 1 0 0,.int .i64 root,.int .i64 s,Bl out] (Abs.hl (fnL d n left V D)) fun y H'=>∃ V',y=.bool (decide ((wayL d.rules n s out).length≤left)) ∧
     H'=Abs.hl (fnL d n (left-(wayL d.rules n s out).length) V' (setD D root (D root++(wayL d.rules n s out).take left))):=by
 intro left
 induction left using Nat.strongRecOn with
 | ind left ih =>
 intro root s out V D hlb hroot hs hout hDl;refine z5j (Zl Hk (W_T ?_));unfold Eq;have hwp:=zkd d.rules n s out;have pR:=A7 d.rules;have pFi:=A6 d.finals;have pO:=Aq out;have pE:=Km d.rules n;have hFl:(fF 2 wayV n V D).length=n:=H0;rcases Nat.eq_zero_or_pos left with rfl|hpos
 · rw[L5 d n 0 V D]
   generalize hF:fF 2 wayV n V D=F at *;(with_reducible repeat' (first|(simp(disch:=omega)only[push_cast,↓zz,seval,pR,pFi,pO,pE,hFl])|refine And.intro ?_ ?_|(first|refine Ab ?_ ?_|refine Aa ?_ ?_)<;>intro hc<;>(try simp only[push_cast] at hc)|omega|intro _))
   all_goals
     refine⟨_,_,Ent.refl,V,by rw[decide_eq_false (by omega)],?_⟩;rw[za4 _ _ _ (by simp),Nat.zero_sub,L5,hF];rfl
 · have hTl:(fT 2 n V D).length=n:=z1n
   have hLl:(fD 1 e1 n fun i=>epsI d.rules i).length=n:=V8;have aL:(fD 1 e1 n fun i=>epsI d.rules i).getD s .any=.lst 1 ((epsI d.rules s).map e1):=za1 hs;have aL2:(fD 1 e1 n fun i=>epsI d.rules i)[s]? = some (.lst 1 ((epsI d.rules s).map e1)):=Wa hs;have pI:Ap ((epsI d.rules s).map e1)=true:=E4 (fun _=>rfl) _;have gI:(fF 2 wayV n V D).getD root default=gG 2 wayV (V root) (D root):=V9 hroot;have tI:(fT 2 n V D).getD root .any=.ref (root+2) (V root) 0 (D root).length:=zep hroot;have sI:∀ G,setQ (fF 2 wayV n V D) root G=some ((fF 2 wayV n V D).set root G):=fun G=>z1q (by omega);have hEx:(!(D root).isEmpty||((D root).map wayV).isEmpty)=true:=zeq _
   have eT:(fT 2 n V D).set root (.ref (root+2) (V root+1) 0 ((D root).length+1))=fT 2 n (setV V root (V root+1)) (setD D root (D root++[((s:Int),out)])):=by
     have:=z1o (o:=2) (V:=V) (D:=D) (l:=D root++[((s:Int),out)]) hroot
     rwa [List.length_append] at this
   have eF:(fF 2 wayV n V D).set root ⟨2,V root+1,false,(D root).map wayV++[.agg [.int .i64 s,Bl out]]⟩=fF 2 wayV n (setV V root (V root+1)) (setD D root (D root++[((s:Int),out)])):=by
     have:=z1p (V:=V) (D:=D) (w:=2) (e:=wayV) (l:=D root++[((s:Int),out)]) (by simp) hroot;rw[List.map_append] at this;exact this
   have hSB:∀ G,B1 2 [root+2] (fF 2 wayV n V D) ((fF 2 wayV n V D).set root G):=fun G=>Gv (by simp;omega);rw[L5 d n left V D];have hEp:epsV d.rules n=.lst 1 (fD 1 e1 n fun i=>epsI d.rules i):=rfl;have hwa:=zet hl hc (show (0:Int)≤s by omega) out;generalize hLe:fD 1 e1 n (fun i=>epsI d.rules i)=L at *;generalize fF 2 wayV n V D=F at *;generalize fT 2 n V D=TT at *;simp only[gG] at gI;(with_reducible repeat' (first|(simp(disch:=omega)only[push_cast,↓zz,seval,hEp,pR,pFi,pO,pE,hFl])|refine And.intro ?_ ?_|(first|refine Ab ?_ ?_|refine Aa ?_ ?_)<;>intro hc<;>(try simp only[push_cast] at hc)|omega|intro _));refine B2 [root+2] ?_;(with_reducible repeat' (first|(simp(disch:=omega)only[push_cast,↓zz,seval,xx,List.mem_cons,List.not_mem_nil,or_false,false_or,not_or,not_false_eq_true,true_or,or_true,hEp,pR,pFi,pO,pE,hFl,hTl,hLl,aL,aL2,gI,tI,sI,hEx,pI])|refine And.intro ?_ ?_|(first|refine Ab ?_ ?_|refine Aa ?_ ?_)<;>intro hc<;>(try simp only[push_cast] at hc)|omega|intro _))
   · exact hSB _
   have hE1:(epsI d.rules s).length≤4096:=by
     have:=List.length_filter_le (fun i=>B3 (nth d.rules i)&&decide ((nth d.rules i).from_=(s:Int))) (List.range d.rules.length);rw[List.length_range] at this;exact Nat.le_trans this hrl
   refine A5 (K2 (fun (q:Nat × (Nat→Nat))=>q.1≤(epsI d.rules s).length∧(wayK d.rules n s out q.1).length+1≤left) (fun q=>(epsI d.rules s).length-q.1)
     (fun q=>C2 [(0,.ptr 0 1 0 0),(1,.int .i64 root),(3,Bl out),(48,.lst 1 ((epsI d.rules s).map e1)),(49,.int .i64 (epsI d.rules s).length),(50,.int .i64 q.1)])
     (fun q=>Abs.hl (fnL d n (left-1-(wayK d.rules n s out q.1).length) q.2 (setD D root (D root++((s:Int),out)::wayK d.rules n s out q.1)))) (0,setV V root (V root+1)) ⟨by simp,by simp[wayK];omega⟩ ?_ ?_)
   · have e0:wayK d.rules n s out 0=[]:=by simp[wayK]
     have el:((left-1-0:Nat):Int)=(left:Int)-1:=by omega
     refine Fj (gar:=[]) _ ?_ (by rw[Do];simp[hl_n,hFl]) (Du _ _ _ _ _) ?_
     · simp only[L5,e0,List.length_nil,el,hEp,List.append_nil,eT,eF]
     · have hO:ltV (n+2) (Bl out):=C0 _ _ pO
       rw[Do];exact⟨rfl,(show 0<n+2 by omega),rfl,trivial,rfl,hO,rfl,trivial,rfl,trivial,rfl,trivial,trivial⟩
   clear eT eF sI hSB gI tI hEx;rintro⟨k,V1⟩ ⟨hk,hkl⟩;simp only at hk hkl ⊢;have hO:ltV (n+2) (Bl out):=C0 _ _ pO;obtain⟨left',hleft'⟩:∃ left',left'=left-1-(wayK d.rules n s out k).length:=⟨_,rfl⟩;rw[←hleft'];obtain⟨D1,hD1⟩:∃ D1,D1=setD D root (D root++((s:Int),out)::wayK d.rules n s out k):=⟨_,rfl⟩;rw[←hD1];obtain⟨B,hB⟩:∃ B,B=(fnL d n left' V1 D1):=⟨_,rfl⟩;have hBc:=Du d n left' V1 D1;have hBl:=Do d n left' V1 D1;rcases Nat.lt_or_ge k (epsI d.rules s).length with hkl2|hkl2
   · obtain⟨i,hi⟩:∃ i,i=nth (epsI d.rules s) k:=⟨_,rfl⟩
     have him:i∈epsI d.rules s:=by rw[hi];exact Ba hkl2
     obtain⟨i1,i2,i3⟩:=Gx.1 him;have hws:=za3 (l:=d.rules) (n:=n) (out:=out) hkl2;rw[←hi] at hws;have aI:((epsI d.rules s).map e1).getD k .any=.int .i64 i:=by rw[hi];simp[nth,List.getD,hkl2]
     have hto:=(hl _ (Ba i1)).2;have hol:=ho _ (Ba i1);obtain⟨r,hr⟩:=zke (l:=d.rules) (n:=n) (s:=s) (out:=out) (k:=k+1) (by omega);rw[hr,hws] at hwa;clear hr;generalize hre:nth d.rules i=rr at *;have hgr:=Ag rr.guards;have hot:=Aq rr.out;obtain⟨j,hj⟩:∃ j:Nat,rr.to_=j:=⟨rr.to_.toNat,by omega⟩;have hjn:j<n:=by omega
     rw[hj] at hwa hws;have hC:=Rc out rr.out (by omega);have hlt':left'<left:=by omega
     have hIH:=ih left' hlt' root j (out++rr.out) V1 D1 (by omega) hroot hjn (by rw[List.length_append];omega) (by rw[hD1,Yq,List.length_append,List.length_cons];omega);have hpO2:=Aq (out++rr.out);have hO2:ltV (n+2) (Bl (out++rr.out)):=C0 _ _ hpO2;generalize hM:wayL d.rules n j (out++rr.out)=M at *;have hF1:(fF 2 wayV n V1 D1).length=n:=H0;have gR:∀ G,(fF 2 wayV n V1 D1++[G]).getD n default=G:=fun G=>by rw[Gy hF1];rfl
     have sR:∀ G G',setQ (fF 2 wayV n V1 D1++[G]) n G'=some (fF 2 wayV n V1 D1++[G']):=fun G G'=>by rw[Kl _ _ hF1];rfl
     rw[L5 d n left' V1 D1];refine W_T ?_;(with_reducible repeat' (first|(simp(disch:=omega)only[push_cast,↓zz,seval,hEp,pR,pFi,pO,pI,hLl,aI,hre,hgr,hot,hj,i1,hF1,gR,sR])|refine And.intro ?_ ?_|(first|refine Ab ?_ ?_|refine Aa ?_ ?_)<;>intro hc<;>(try simp only[push_cast] at hc)|refine eK hC ?_|refine eQ hC ?_|refine eG hC ?_|((first|refine cK hC ?_|refine cQ hC ?_|refine cG hC ?_);(simp(disch:=omega)only[push_cast,↓zz,seval,hEp,pR,pFi,pO,pI,hLl,aI,hre,hgr,hot,hj,i1,hF1,gR,sR]);(fail_if_success change False))|omega|intro _));refine zg4 (l0:=fnL d n left' V1 D1) (extra:=[_]) (by simp only[L5,hEp];rfl) hIH ?_ (Du _ _ _ _ _) ?_
     · rw[Do]
       exact⟨(show 0<n+2 by omega),trivial,trivial,hO2,trivial⟩
     rintro y H' ⟨V2,rfl,rfl⟩;refine⟨_,rfl,by rw[Do,Do],trivial,fun G hG=>?_,?_⟩
     · have:=Du _ _ _ _ _ G hG
       rw[Do] at this ⊢;exact this
     by_cases hfit:M.length≤left'
     · rw[decide_eq_true hfit]
       have hD2:setD D1 root (D1 root++List.take left' M)=setD D root (D root++((s:Int),out)::wayK d.rules n s out (k+1)):=by
         rw[hD1,We,Yq,List.take_of_length_le hfit,hws,List.append_assoc,List.cons_append]
       have hL2:left'-M.length=left-1-(wayK d.rules n s out (k+1)).length:=by rw[hws,List.length_append];omega
       have hL3:(wayK d.rules n s out (k+1)).length+1≤left:=by rw[hws,List.length_append];omega
       rw[hD2,hL2];(with_reducible repeat' (first|(simp(disch:=omega)only[push_cast,↓zz,seval])|refine And.intro ?_ ?_|(first|refine Ab ?_ ?_|refine Aa ?_ ?_)<;>intro hc<;>(try simp only[push_cast] at hc)|omega|intro _));refine⟨(k+1,V2),Fj (gar:=[_]) _ rfl (by rw[Do];omega) (Du _ _ _ _ _) ?_,⟨by omega,hL3⟩,by simp only;omega⟩;rw[Do];exact⟨rfl,(show 0<n+2 by omega),rfl,trivial,rfl,hO,rfl,trivial,rfl,trivial,rfl,trivial,trivial⟩
     · rw[decide_eq_false hfit]
       have hW:wayL d.rules n s out=((s:Int),out)::(wayK d.rules n s out k++M++r):=hwa;obtain⟨c1,c2⟩:=zeu hW (show left=1+(wayK d.rules n s out k).length+left' by omega) (show left'<M.length by omega)
       have hD2:setD D1 root (D1 root++List.take left' M)=setD D root (D root++List.take left (wayL d.rules n s out)):=by
         rw[hD1,We,Yq,c1,List.append_assoc,List.cons_append]
       have hL2:left'-M.length=left-(wayL d.rules n s out).length:=by omega
       rw[hD2,hL2];(with_reducible repeat' (first|(simp(disch:=omega)only[push_cast,↓zz,seval])|refine And.intro ?_ ?_|(first|refine Ab ?_ ?_|refine Aa ?_ ?_)<;>intro hc<;>(try simp only[push_cast] at hc)|omega|intro _));exact⟨_,_,zer (gar:=[_]) rfl (by rw[Do];omega) (Du _ _ _ _ _) trivial,V2,by rw[decide_eq_false (by omega)],rfl⟩
   · obtain rfl:k=(epsI d.rules s).length:=by omega
     have hWl:(wayL d.rules n s out).length=(wayK d.rules n s out (epsI d.rules s).length).length+1:=by rw[hwa,List.length_cons]
     have hD2:D1=setD D root (D root++List.take left (wayL d.rules n s out)):=by
       rw[hD1,List.take_of_length_le (by omega),hwa]
     have hL2:left'=left-(wayL d.rules n s out).length:=by omega
     rw[hD2,hL2];refine W_T ?_;(with_reducible repeat' (first|(simp(disch:=omega)only[push_cast,↓zz,seval,pR,pFi,pO,pI,hLl])|refine And.intro ?_ ?_|(first|refine Ab ?_ ?_|refine Aa ?_ ?_)<;>intro hc<;>(try simp only[push_cast] at hc)|omega|intro _));exact⟨_,_,Ent.refl,V1,by rw[decide_eq_true (by omega)],rfl⟩
end Go.Proofs.Ytbcjoeadpjfcfaa
namespace Go.Proofs.Ytbcjoeadpjfcfaa.Abs
def Frz1 (d:Nat) (H:Ac) (ks:List Nat) (x y:AV):Prop:=y=x∨(Cj d (H.only ks) x∧y=frzV d (H.only ks) x)
def FrzL (d:Nat) (H:Ac) (ks:List Nat):List AV→List AV→Prop
 | [],ys=>ys=[]
 | x::xs,ys=>∃ y r,ys=y::r∧Frz1 d H ks x y∧FrzL d H ks xs r
def Frz2 (d:Nat) (H:Ac) (ks:List Nat) (x y:AV):Prop:=Frz1 d H ks x y∨∃ cs ds,x=.agg cs∧y=.agg ds∧FrzL d H ks cs ds
def FrzM (d:Nat) (H:Ac) (ks:List Nat):List AV→List AV→Prop
 | [],ys=>ys=[]
 | x::xs,ys=>∃ y r,ys=y::r∧Frz2 d H ks x y∧FrzM d H ks xs r
theorem FrzM.len {d:Nat} {H:Ac} {ks:List Nat}:∀ {xs ys:List AV},FrzM d H ks xs ys→ys.length=xs.length
 | [],_,h=>by rw[show _=[] from h]
 | x::xs,_,⟨y,r,rfl,_,h⟩=>by simp[FrzM.len h]
theorem Frz1.rel {d:Nat} {H:Ac} {ks:List Nat} {S:MS} (hS:SRel S H) {x y:AV} {v:Value} (h:Frz1 d H ks x y) (hv:VRel S x v):VRel (S.kill H ks) y v:=by
 rcases h with rfl|⟨h1,rfl⟩
 · exact VRel.mono (Fs ks hS) _ hv
 · exact Mp ks hS d h1 hv
theorem FrzL.rel {d:Nat} {H:Ac} {ks:List Nat} {S:MS} (hS:SRel S H):∀ {xs ys:List AV} {vs:List Value},FrzL d H ks xs ys→Ad S xs vs→Ad (S.kill H ks) ys vs
 | [],_,_,h,hv=>by rw[show _=[] from h];exact hv
 | x::xs,_,_,⟨y,r,rfl,h1,h2⟩,⟨u,q,rfl,k1,k2⟩=>⟨u,q,rfl,h1.rel hS k1,FrzL.rel hS h2 k2⟩
theorem Frz2.rel {d:Nat} {H:Ac} {ks:List Nat} {S:MS} (hS:SRel S H) {x y:AV} {v:Value} (h:Frz2 d H ks x y) (hv:VRel S x v):VRel (S.kill H ks) y v:=by
 rcases h with h|⟨cs,ds,rfl,rfl,h⟩
 · exact h.rel hS hv
 · obtain⟨vs,rfl,hvs⟩:=hv
   exact⟨vs,rfl,h.rel hS hvs⟩
theorem FrzM.rel {d:Nat} {H:Ac} {ks:List Nat} {S:MS} (hS:SRel S H):∀ {xs ys:List AV} {vs:List Value},FrzM d H ks xs ys→Ad S xs vs→Ad (S.kill H ks) ys vs
 | [],_,_,h,hv=>by rw[show _=[] from h];exact hv
 | x::xs,_,_,⟨y,r,rfl,h1,h2⟩,⟨u,q,rfl,k1,k2⟩=>⟨u,q,rfl,h1.rel hS k1,FrzM.rel hS h2 k2⟩
theorem FrzM.refl {d:Nat} {H:Ac} {ks:List Nat}:∀ (xs:List AV),FrzM d H ks xs xs
 | []=>rfl
 | x::xs=>⟨x,xs,rfl,.inl (.inl rfl),FrzM.refl xs⟩
theorem FrzM.set {d:Nat} {H:Ac} {ks:List Nat} {y:AV}:∀ {xs:List AV} {i:Nat},i<xs.length→Frz2 d H ks (xs.getD i .any) y→FrzM d H ks xs (xs.set i y)
 | [],_,h,_=>by simp at h
 | x::xs,0,_,h=>⟨y,xs,rfl,h,FrzM.refl xs⟩
 | x::xs,i+1,hi,h=>⟨x,_,rfl,.inl (.inl rfl),FrzM.set (by simpa using hi) (by simpa using h)⟩
theorem Wg {n b:Nat} {env:Env} {l l':List Grp} {g w v d:Nat} {ex:Bool} {xs ys:List AV} (ks:List Nat) (hw:0<w) (hlt:g<l.length) (hg:l.getD g default=⟨w,v,ex,xs⟩) (hk:g∉ks)
   (hxy:FrzM d (hl l) ks xs ys) (hl':(D5 0 ks l).set g ⟨w,v,ex,ys⟩=l'):Ent n b env (hl l) env (hl l'):=fun S val hb hS hv=>by
 subst hl';have hS1:=Mo ks hS;have he:=Fs ks hS;refine⟨S.kill (hl l) ks,rfl,he.down hb,?_,fun i hi=>VRel.mono he _ (hv i hi)⟩;have hlk:g<(D5 0 ks l).length:=by rw[Fc];exact hlt
 have hat0:∀ j,j<l.length→((hl l).kill ks).at_ j=(D5 0 ks l).getD j default:=fun j hj=>by
   rw[J4 0 ks l j hj,Nat.zero_add];rfl
 have hn:(hl ((D5 0 ks l).set g ⟨w,v,ex,ys⟩)).n=((hl l).kill ks).n:=by simp[hl,Ac.kill,Fc]
 have hlen:((hl l).kill ks).n=l.length:=rfl
 have hat:∀ j,j<l.length→(hl ((D5 0 ks l).set g ⟨w,v,ex,ys⟩)).at_ j=if j=g then ⟨w,v,ex,ys⟩ else ((hl l).kill ks).at_ j:=fun j hj=>by
   rw[Cg];by_cases e:j=g
   · subst e;rw[if_pos rfl];exact Jk _ hlk
   · rw[if_neg e,hat0 j hj];exact Ep _ (Ne.symm e)
 have hgk:((hl l).kill ks).at_ g=⟨w,v,ex,xs⟩:=by
   show (if g∈ks then _ else _)=_;rw[if_neg hk,Cg,hg]
 have h1:GRel (S.kill (hl l) ks) ⟨w,v,ex,xs⟩ g:=by have:=hS1.grp g (by rw[hlen];exact hlt);rwa [hgk] at this
 have h0:GRel S ⟨w,v,ex,xs⟩ g:=by have:=hS.grp g hlt;rwa [Cg,hg] at this
 have hly:=hxy.len
 have hG:GRel (S.kill (hl l) ks) ⟨w,v,ex,ys⟩ g:=by
   refine⟨h1.ver,h1.wid,fun _ hc=>?_,fun hh=>by show ys.length≤_;rw[hly];exact h1.len hh,fun hh he=>by show ys.length=_;rw[hly];exact h1.full hh he,fun hh=>by simp only at hh;omega⟩;obtain⟨⟨cells,TT,vs,a1,a2,a3,a4⟩,_⟩:=h0.live hw hc;exact⟨⟨cells,TT,vs,a1,a2,hxy.rel hS a3,a4⟩,(h1.live hw hc).2⟩
 have hhas:∀ j,j<l.length→((hl ((D5 0 ks l).set g ⟨w,v,ex,ys⟩)).at_ j).has ((S.kill (hl l) ks).cap j)→(((hl l).kill ks).at_ j).has ((S.kill (hl l) ks).cap j):=fun j hj h=>by
   rw[hat j hj] at h;by_cases e:j=g
   · subst e;rw[if_pos rfl] at h;rw[hgk];exact h
   · rw[if_neg e] at h;exact h
 refine⟨hS1.n.trans hn.symm,fun j hj=>?_,fun j j' a c hne p q=>hS1.apart j j' (by rwa [hn] at a) (by rwa [hn] at c) hne (hhas j (by rwa [hn] at a) p) (hhas j' (by rwa [hn] at c) q),hS1.im⟩;rw[hn] at hj;rw[hat j hj];by_cases e:j=g
 · subst e;rw[if_pos rfl];exact hG
 · rw[if_neg e];exact hS1.grp j hj
end Go.Proofs.Ytbcjoeadpjfcfaa.Abs
namespace Go.Proofs.Ytbcjoeadpjfcfaa
open Abs
def fwdE (d:Desc):List (Int × Int):=d.rules.map fun r=>(r.from_,r.to_)
def bwdE (d:Desc):List (Int × Int):=d.rules.map fun r=>(r.to_,r.from_)
def endE (d:Desc):List Int:=d.finals.map (·.from_)
structure Wf (d:Desc):Prop where
 n:∃ n:Nat,d.states=n∧1≤n∧n≤1024
 start:0≤d.start∧d.start<d.states
 rl:d.rules.length≤4096
 fl:d.finals.length≤4096
 r:∀ r∈d.rules,(0≤r.from_∧r.from_<d.states)∧0≤r.to_∧r.to_<d.states
 f:∀ f∈d.finals,0≤f.from_∧f.from_<d.states
theorem zew {d:Desc} (h:Dg d=0):Wf d:=by
 obtain⟨h1,h2,h3⟩:=Ea h;have h4:=z9t h1;refine⟨⟨d.states.toNat,by omega,by omega,by omega⟩,h4.2.2.2,h4.2.1,h4.2.2.1,fun r hr=>z9u (h2 r hr),fun f hf=>?_⟩;have:=h3 f hf;simp only[E0,Hv,Bool.and_eq_true,decide_eq_true_eq] at this;exact this.1
noncomputable def comeL (d:Desc):List Bool:=zg5 d.states.toNat [d.start] (fwdE d)
noncomputable def goL (d:Desc):List Bool:=zg5 d.states.toNat (endE d) (bwdE d)
end Go.Proofs.Ytbcjoeadpjfcfaa
set_option maxRecDepth 100000
namespace Go.Proofs.Ytbcjoeadpjfcfaa
open Abs
def epsK (l:List Rule) (k:Nat) (s:Nat):List Nat:=(List.range k).filter fun i=>B3 (nth l i)&&decide ((nth l i).from_=s)
theorem zex (l:List Rule) (k s:Nat):(epsK l k s).length≤k:=by
 have:=List.length_filter_le (fun i=>B3 (nth l i)&&decide ((nth l i).from_=s)) (List.range k);simpa [epsK] using this
theorem zey {l:List Rule} {k i:Nat} (he:B3 (nth l k)=true) (hi:(nth l k).from_=i):epsK l (k+1)=setD (epsK l k) i (epsK l k i++[k]):=by
 funext s;simp only[epsK,List.range_succ,List.filter_append,List.filter_cons,List.filter_nil,he,Bool.true_and,hi,decide_eq_true_eq,setD];by_cases e:s=i
 · subst e;simp
 · rw[if_neg (by omega),if_neg e];simp
theorem zkf {l:List Rule} {k:Nat} (he:B3 (nth l k)=false):epsK l (k+1)=epsK l k:=by
 funext s;simp[epsK,List.range_succ,List.filter_append,he]
def wayD (l:List Rule) (n k:Nat) (s:Nat):List (Int × List Term):=if s<k then wayL l n s [] else []
theorem za5 (l:List Rule) (n:Nat):wayD l n 0=fun _=>[]:=by funext s;simp[wayD]
theorem za6 (l:List Rule) (n k:Nat):setD (wayD l n k) k (wayD l n k k++wayL l n k [])=wayD l n (k+1):=by
 funext s;simp only[setD,wayD];by_cases e:s=k
 · subst e;simp
 · rw[if_neg e]
   by_cases h:s<k
   · rw[if_pos h,if_pos (by omega)]
   · rw[if_neg h,if_neg (by omega)]
theorem zo7 (l:List Rule) (n:Nat):fD 2 wayV n (wayD l n n)=fD 2 wayV n fun s=>wayL l n s []:=by
 simp only[fD];refine List.map_congr_left fun s hs=>?_;have:s<n:=by simpa using hs
 simp[wayD,this]
def fbV (d:Desc) (E Wy:AV) (left:Int):AV:=.agg [.int .i64 d.in_,.int .i64 d.out,.int .i64 d.states,.int .i64 d.start,De d.rules,F1 d.finals,E,Wy,.int .i64 left]
def epL (d:Desc) (n k:Nat) (V:Nat→Nat):List Grp :=
 ⟨9,1,true,[fbV d (.ref 2 1 0 n) (.ref 1 1 0 n) 4096]⟩::⟨1,1,true,List.replicate n .nilS⟩::⟨1,1,true,fT 4 n V (epsK d.rules k)⟩::⟨6,1,true,[Cp d]⟩::fF 1 e1 n V (epsK d.rules k)
theorem Wh (d:Desc) (n k:Nat) (V:Nat→Nat):epL d n k V=⟨9,1,true,[fbV d (.ref 2 1 0 n) (.ref 1 1 0 n) 4096]⟩::⟨1,1,true,List.replicate n .nilS⟩::⟨1,1,true,fT 4 n V (epsK d.rules k)⟩::⟨6,1,true,[Cp d]⟩::fF 1 e1 n V (epsK d.rules k):=rfl
theorem Tg (d:Desc) (n k:Nat) (V:Nat→Nat):(epL d n k V).length=n+4:=by simp[epL,H0]
theorem Gg (n:Nat):Ap (List.replicate n AV.nilS)=true:=Bu.2 fun x hx=>by rw[List.eq_of_mem_replicate hx];rfl
theorem Re (d:Desc) (n k:Nat) (V:Nat→Nat):∀ G∈epL d n k V,ltL (epL d n k V).length G.xs:=fun G hG=>by
 rw[Tg];simp only[epL,List.mem_cons] at hG;rcases hG with rfl|rfl|rfl|rfl|hG
 · have h1:ltV (n+4) (De d.rules):=C0 _ _ (A7 _)
   have h2:ltV (n+4) (F1 d.finals):=C0 _ _ (A6 _);exact⟨⟨trivial,trivial,trivial,trivial,h1,h2,(show 2<n+4 by omega),(show 1<n+4 by omega),trivial,trivial⟩,trivial⟩
 · exact C3 _ _ (Gg n)
 · exact z1s (by omega)
 · exact C3 _ _ (by simp[Ap,Iv])
 · exact z1t (fun _=>rfl) G hG
theorem z5l {m b:Nat} {env:Env} (d:Desc) (n:Nat) (V:Nat→Nat):Ent m b env (Abs.hl (epL d n d.rules.length V)) env (Abs.hl ([⟨9,1,true,[fbV d (epsV d.rules n) (.ref 1 1 0 n) 4096]⟩,⟨1,1,true,List.replicate n .nilS⟩,⟨0,2,false,[]⟩,⟨6,1,true,[Cp d]⟩]++(fF 1 e1 n V (epsK d.rules d.rules.length)).map Grp.dead)):=by
 have h1:(Abs.hl (epL d n d.rules.length V)).at_ 2=⟨1,1,true,fT 4 n V (epsK d.rules d.rules.length)⟩:=rfl
 have h2:∀ i,i<n→(Abs.hl (epL d n d.rules.length V)).at_ (i+4)=gG 1 e1 (V i) (epsK d.rules d.rules.length i):=fun i hi=>by
   rw[Wh,Cg];simp only[List.getD_cons_succ];exact V9 hi
 obtain⟨f1,f2⟩:=Yo (w:=1) (e:=e1) (by decide) (fun _=>rfl) h1 h2;refine Wg (g:=0) (w:=9) (v:=1) (d:=2) (ex:=true) (xs:=[fbV d (.ref 2 1 0 n) (.ref 1 1 0 n) 4096]) (ys:=[fbV d (epsV d.rules n) (.ref 1 1 0 n) 4096]) (fKs 2 4 n) (by decide) (by rw[Tg];omega) rfl (Lb (by decide) (by omega)) ?_ ?_
 · refine⟨_,[],rfl,.inr ⟨_,_,rfl,rfl,?_⟩,rfl⟩
   refine⟨_,_,rfl,.inl rfl,_,_,rfl,.inl rfl,_,_,rfl,.inl rfl,_,_,rfl,.inl rfl,_,_,rfl,.inl rfl,_,_,rfl,.inl rfl,_,_,rfl,.inr ⟨f1,f2.symm⟩,_,_,rfl,.inl rfl,_,_,rfl,.inl rfl,rfl⟩
 · have m0:(0:Nat)∉fKs 2 4 n:=Lb (by decide) (by omega)
   have m1:(1:Nat)∉fKs 2 4 n:=Lb (by decide) (by omega);have m3:(3:Nat)∉fKs 2 4 n:=Lb (by decide) (by omega);have m2:(2:Nat)∈fKs 2 4 n:=by simp[fKs]
   have hF:D5 4 (fKs 2 4 n) (fF 1 e1 n V (epsK d.rules d.rules.length))=(fF 1 e1 n V (epsK d.rules d.rules.length)).map Grp.dead:=Wb fun j hj=>by
     rw[H0] at hj;rw[Nat.add_comm];exact Yn hj
   rw[Wh,Fe,Fe,Fe,Fe,if_neg m0,if_neg m1,if_pos m2,if_neg m3,hF];rfl
theorem Yr {m b:Nat} {env:Env} (d:Desc) (n left:Nat) (V:Nat→Nat) (D:Nat→List (Int × List Term)):Ent m b env (Abs.hl (fnL d n left V D)) env (Abs.hl ([⟨9,1,true,[fbV d (epsV d.rules n) (.lst 1 (fD 2 wayV n D)) left]⟩,⟨0,2,false,[]⟩]++(fF 2 wayV n V D).map Grp.dead)):=by
 have h1:(Abs.hl (fnL d n left V D)).at_ 1=⟨1,1,true,fT 2 n V D⟩:=rfl
 have h2:∀ i,i<n→(Abs.hl (fnL d n left V D)).at_ (i+2)=gG 2 wayV (V i) (D i):=fun i hi=>by
   rw[L5,Cg];simp only[List.getD_cons_succ];exact V9 hi
 obtain⟨f1,f2⟩:=Yo (w:=2) (e:=wayV) (by decide) Fl h1 h2;refine Wg (g:=0) (w:=9) (v:=1) (d:=2) (ex:=true) (xs:=[fbV d (epsV d.rules n) (.ref 1 1 0 n) left]) (ys:=[fbV d (epsV d.rules n) (.lst 1 (fD 2 wayV n D)) left]) (fKs 1 2 n) (by decide) (by rw[Do];omega) rfl (Lb (by decide) (by omega)) ?_ ?_
 · refine⟨_,[],rfl,.inr ⟨_,_,rfl,rfl,?_⟩,rfl⟩
   refine⟨_,_,rfl,.inl rfl,_,_,rfl,.inl rfl,_,_,rfl,.inl rfl,_,_,rfl,.inl rfl,_,_,rfl,.inl rfl,_,_,rfl,.inl rfl,_,_,rfl,.inl rfl,_,_,rfl,.inr ⟨f1,f2.symm⟩,_,_,rfl,.inl rfl,rfl⟩
 · have m0:(0:Nat)∉fKs 1 2 n:=Lb (by decide) (by omega)
   have m1:(1:Nat)∈fKs 1 2 n:=by simp[fKs]
   have hF:D5 2 (fKs 1 2 n) (fF 2 wayV n V D)=(fF 2 wayV n V D).map Grp.dead:=Wb fun j hj=>by
     rw[H0] at hj;rw[Nat.add_comm];exact Yn hj
   rw[L5,Fe,Fe,if_neg m0,if_pos m1,hF];rfl
theorem Ys {P:Program} {f:Nat} {xs ys:List AV} {l:List Grp} {K:AV→Ac→Prop} (h:Bj P f ys (Abs.hl l) K) (hle:leSL l xs ys):Bj P f xs (Abs.hl l) K:=⟨h.1,fun S cargs hS hx=>h.2 S cargs hS (Hj (.inl hS) _ hle hx)⟩
noncomputable def za7 (d:Desc) (n:Nat):AV:=if cumW d.rules n n≤4096 then .tup [.lst 1 (fD 2 wayV n fun s=>wayL d.rules n s []),.int .i64 0] else .tup [.nilS,.int .i64 4]
theorem z1w (d:Desc) (hf:Fi d) (h:Dg d=0) {n:Nat} (hn:d.states=n) (hcyc:¬cycP d.rules n):PC Try.prog 10 [Cp d] (za7 d n):=by
 have hw:=zew h;obtain⟨_,hrules,_⟩:=Ea h;have hC:=Q5 d hf;rw[h] at hC;have hnn:1≤n∧n≤1024:=by obtain⟨m,h1,h2,h3⟩:=hw.n;omega
 have hrl:=hw.rl;have hl:∀ r∈d.rules,(0≤r.from_∧r.from_<n)∧0≤r.to_∧r.to_<n:=fun r hr=>by have:=hw.r r hr;rw[hn] at this;exact this
 have pR:=A7 d.rules;have pFi:=A6 d.finals;refine zes I7 (W_T ?_);unfold F3;(with_reducible repeat' (first|(simp(disch:=omega)only[push_cast,↓zz,seval,pR,pFi,hn])|refine And.intro ?_ ?_|(first|refine Ab ?_ ?_|refine Aa ?_ ?_)<;>intro hc<;>(try simp only[push_cast] at hc)|refine eK hC ?_|refine eQ hC ?_|refine eG hC ?_|((first|refine cK hC ?_|refine cQ hC ?_|refine cG hC ?_);(simp(disch:=omega)only[push_cast,↓zz,seval,pR,pFi,hn]);(fail_if_success change False))|omega|intro _));refine z8o [1,2,3] [1,1,9] [none,none,none,some 1,none,none,some 2,none,some 3] (by simp) (by decide) ?_;(with_reducible repeat' (first|(simp(disch:=omega)only[push_cast,↓zz,seval,yy,List.mem_cons,List.not_mem_nil,or_false,false_or,not_or,not_false_eq_true,true_or,or_true,pR,pFi,hn])|refine And.intro ?_ ?_|(first|refine Ab ?_ ?_|refine Aa ?_ ?_)<;>intro hc<;>(try simp only[push_cast] at hc)|omega|intro _))
 refine A5 (Zu (srcs:=[.grp 3,.grp 2,.grp 1,.grp 0]) (live:=[(1,.ptr 3 1 0 0),(4,.ptr 0 1 0 0),(21,De d.rules),(22,.int .i64 d.rules.length),(23,.int .i64 0)])
   (heap:=[⟨9,1,true,[fbV d (.ref 2 1 0 n) (.ref 1 1 0 n) 4096]⟩,⟨1,1,true,List.replicate n .nilS⟩,⟨1,1,true,List.replicate n .nilS⟩,⟨6,1,true,[Cp d]⟩]) ?_ (N6 (Td (α:=Nat) (w:=1) (e:=e1) (n:=n) (t:=2) (by decide) (by simp) rfl) ?_))
 · have pN:=Gg n
   unfold fbV;(with_reducible repeat' (first|(simp(disch:=omega)only[push_cast,↓zz,seval,pR,pFi,hn,pN])|refine And.intro ?_ ?_|(first|refine Ab ?_ ?_|refine Aa ?_ ?_)<;>intro hc<;>(try simp only[push_cast] at hc)|omega|intro _))
 refine K2 (fun (q:Nat × (Nat→Nat))=>q.1≤d.rules.length) (fun q=>d.rules.length-q.1)
   (fun q=>C2 [(1,.ptr 3 1 0 0),(4,.ptr 0 1 0 0),(21,De d.rules),(22,.int .i64 d.rules.length),(23,.int .i64 q.1)]) (fun q=>Abs.hl (epL d n q.1 q.2)) (0,fun _=>1) (by simp) Ent.refl ?_
 rintro⟨k,V⟩ hk;simp only at hk ⊢;rcases Nat.lt_or_ge k d.rules.length with hkl|hkl
 · have hr:=hl _ (Ba hkl)
   have hyes:=fun i=>zey (l:=d.rules) (k:=k) (i:=i);have hno:=zkf (l:=d.rules) (k:=k);generalize hre:nth d.rules k=r at *;have hgr:=Ag r.guards;have hot:=Aq r.out;obtain⟨i,hi⟩:∃ i:Nat,r.from_=i:=⟨r.from_.toNat,by omega⟩;have hin:i<n:=by omega
   have hFl:(fF 1 e1 n V (epsK d.rules k)).length=n:=H0;have hTl:(fT 4 n V (epsK d.rules k)).length=n:=z1n;have gI:∀ G,(fF 1 e1 n V (epsK d.rules k)++[G]).getD i default=gG 1 e1 (V i) (epsK d.rules k i):=fun G=>by rw[za2 hFl hin];exact V9 hin
   have gR:∀ G,(fF 1 e1 n V (epsK d.rules k)++[G]).getD n default=G:=fun G=>by rw[Gy hFl];rfl
   have sR:∀ G G',setQ (fF 1 e1 n V (epsK d.rules k)++[G]) n G'=some (fF 1 e1 n V (epsK d.rules k)++[G']):=fun G G'=>by rw[Kl _ _ hFl];rfl
   have tI:(fT 4 n V (epsK d.rules k)).getD i .any=.ref (i+4) (V i) 0 (epsK d.rules k i).length:=zep hin;have sI:∀ G G',setQ (fF 1 e1 n V (epsK d.rules k)++[G]) i G'=some ((fF 1 e1 n V (epsK d.rules k)).set i G'++[G]):=fun G G'=>Tb (by omega);have gR2:∀ G G',((fF 1 e1 n V (epsK d.rules k)).set i G'++[G]).getD n default=G:=fun G G'=>by rw[Gy (by rw[List.length_set];exact hFl)];rfl
   have hSB:∀ R G,B1 4 [i+4] (fF 1 e1 n V (epsK d.rules k)++[R]) ((fF 1 e1 n V (epsK d.rules k)).set i G++[R]):=fun R G=>Tc (by omega) (by simp;omega);have hEx:=zeq (e:=e1) (epsK d.rules k i);have hel:=zex d.rules k i
   have eT:(fT 4 n V (epsK d.rules k)).set i (.ref (i+4) (V i+1) 0 ((epsK d.rules k i).length+1))=fT 4 n (setV V i (V i+1)) (setD (epsK d.rules k) i (epsK d.rules k i++[k])):=by
     have:=z1o (o:=4) (V:=V) (D:=epsK d.rules k) (l:=epsK d.rules k i++[k]) hin
     rwa [List.length_append] at this
   have eF:(fF 1 e1 n V (epsK d.rules k)).set i ⟨1,V i+1,false,(epsK d.rules k i).map e1++[.int .i64 k]⟩=fF 1 e1 n (setV V i (V i+1)) (setD (epsK d.rules k) i (epsK d.rules k i++[k])):=by
     have:=z1p (V:=V) (D:=epsK d.rules k) (w:=1) (e:=e1) (l:=epsK d.rules k i++[k]) (by simp) hin;rw[List.map_append] at this;exact this
   rw[Wh];unfold fbV;have hni:¬n=i:=by omega
   simp only[gG] at gI;refine W_T ?_;(with_reducible repeat' (first|(simp(disch:=omega)only[push_cast,↓zz,seval,xx,List.mem_cons,List.not_mem_nil,or_false,false_or,not_or,not_false_eq_true,true_or,or_true,pR,pFi,hn,hre,hi,hgr,hot,hFl,hTl,gI,gR,sR,tI,sI,gR2,hEx,hni])|refine And.intro ?_ ?_|(first|refine Ab ?_ ?_|refine Aa ?_ ?_)<;>intro hc<;>(try simp only[push_cast] at hc)|refine B2 [i+4] ?_|omega|intro _))
   · exact hSB _ _
   · have he:B3 r=true:=by simp only[B3];simpa using ‹(r.guards.length:Int)=0›
     refine⟨(k+1,setV V i (V i+1)),Fj (gar:=[⟨5,1,true,[.agg [.int .i64 i,.int .i64 r.to_,Al r.guards,.int .i64 r.eat,Bl r.out]]⟩]) _ ?_ (Nat.zero_le _) (Re _ _ _ _) ?_,by simp only;omega,by simp only;omega⟩
     · rw[Wh,hyes i he hi,←eT,←eF]
       unfold fbV;rw[hn];rfl
     · have hRv:ltV (n+4) (De d.rules):=C0 _ _ pR
       rw[Tg];exact⟨rfl,(show 3<n+4 by omega),rfl,(show 0<n+4 by omega),rfl,hRv,rfl,trivial,rfl,trivial,trivial⟩
   · have he:B3 r=false:=by simp only[B3];simpa using ‹¬(r.guards.length:Int)=0›
     refine⟨(k+1,V),Fj (gar:=[⟨5,1,true,[.agg [.int .i64 i,.int .i64 r.to_,Al r.guards,.int .i64 r.eat,Bl r.out]]⟩]) _ ?_ (Nat.zero_le _) (Re _ _ _ _) ?_,by simp only;omega,by simp only;omega⟩
     · rw[Wh,hno he]
       unfold fbV;rw[hn];rfl
     · have hRv:ltV (n+4) (De d.rules):=C0 _ _ pR
       rw[Tg];exact⟨rfl,(show 3<n+4 by omega),rfl,(show 0<n+4 by omega),rfl,hRv,rfl,trivial,rfl,trivial,trivial⟩
 · obtain rfl:k=d.rules.length:=by omega
   refine N6 ((z5l d n V).trans (Fj (l0:=[⟨9,1,true,[fbV d (epsV d.rules n) (.ref 1 1 0 n) 4096]⟩,⟨1,1,true,List.replicate n .nilS⟩,⟨0,2,false,[]⟩,⟨6,1,true,[Cp d]⟩]) [(1,.ptr 3 1 0 0),(4,.ptr 0 1 0 0),(21,De d.rules),(22,.int .i64 d.rules.length),(23,.int .i64 d.rules.length)] rfl (Nat.zero_le _) ?_ ?_)) ?_
   · intro G hG
     simp only[List.mem_cons,List.not_mem_nil,or_false] at hG;have h1:ltV 4 (De d.rules):=C0 _ _ (A7 _);have h2:ltV 4 (F1 d.finals):=C0 _ _ (A6 _);have h3:ltV 4 (epsV d.rules n):=C0 _ _ (Km _ _);rcases hG with rfl|rfl|rfl|rfl
     · exact⟨⟨trivial,trivial,trivial,trivial,h1,h2,h3,(show 1<4 by omega),trivial,trivial⟩,trivial⟩
     · exact C3 _ _ (Gg n)
     · trivial
     · exact C3 _ _ (by simp[Ap,Iv])
   · have hRv:ltV 4 (De d.rules):=C0 _ _ pR
     exact⟨rfl,(show 3<4 by omega),rfl,(show 0<4 by omega),rfl,hRv,rfl,trivial,rfl,trivial,trivial⟩
   refine W_T ?_;(with_reducible repeat' (first|(simp(disch:=omega)only[push_cast,↓zz,seval,pR,pFi,hn])|refine And.intro ?_ ?_|(first|refine Ab ?_ ?_|refine Aa ?_ ?_)<;>intro hc<;>(try simp only[push_cast] at hc)|omega|intro _));refine A5 (N6 ((Fj (l0:=[⟨9,1,true,[fbV d (epsV d.rules n) (.ref 1 1 0 n) 4096]⟩,⟨1,1,true,List.replicate n .nilS⟩]) (gar:=[⟨0,2,false,[]⟩,⟨6,1,true,[Cp d]⟩]) [(4,.ptr 0 1 0 0),(52,.int .i64 n),(53,.int .i64 0)] ?_ (Nat.zero_le _) ?_ ?_).trans (Td (α:=Int × List Term) (w:=2) (e:=wayV) (n:=n) (t:=1) (by decide) (by simp) rfl)) ?_)
   · unfold fbV
     rw[hn];rfl
   · intro G hG
     simp only[List.mem_cons,List.not_mem_nil,or_false] at hG;have h1:ltV 2 (De d.rules):=C0 _ _ (A7 _);have h2:ltV 2 (F1 d.finals):=C0 _ _ (A6 _);have h3:ltV 2 (epsV d.rules n):=C0 _ _ (Km _ _);rcases hG with rfl|rfl
     · exact⟨⟨trivial,trivial,trivial,trivial,h1,h2,h3,(show 1<2 by omega),trivial,trivial⟩,trivial⟩
     · exact C3 _ _ (Gg n)
   · exact⟨rfl,(show 0<2 by omega),rfl,trivial,rfl,trivial,trivial⟩
   have ho:∀ r∈d.rules,r.out.length≤64:=fun r hr=>by
     have:=hrules r hr;simp only[Gu,Bool.and_eq_true] at this;exact (Hy this.2.2.2.2).1
   refine K2 (fun (q:Nat × (Nat→Nat))=>q.1≤n∧cumW d.rules n q.1≤4096) (fun q=>n-q.1)
     (fun q=>C2 [(4,.ptr 0 1 0 0),(52,.int .i64 n),(53,.int .i64 q.1)]) (fun q=>Abs.hl (fnL d n (4096-cumW d.rules n q.1) q.2 (wayD d.rules n q.1))) (0,fun _=>1) ⟨by simp,by rw[O3];omega⟩ ?_ ?_
   · rw[za5,O3]
     exact Ent.refl
   rintro⟨k,V2⟩ ⟨hk1,hk2⟩;simp only at hk1 hk2 ⊢;rcases Nat.lt_or_ge k n with hkn|hkn
   · have hF:=zev d (n:=n) (by omega) hrl hl hcyc ho (4096-cumW d.rules n k) k k [] V2 (wayD d.rules n k) (by omega) hkn hkn (by simp;omega) (by rw[show wayD d.rules n k k=[] by simp[wayD]];simp)
     have hWl:(wayL d.rules n k []).length=(I5 d.rules n k).length:=by rw[wayL,List.length_map]
     have hcs:=Hz d.rules n k;have hcm:=O4 d.rules n (show k+1≤n by omega);rw[hWl] at hF;obtain⟨D1,hD1⟩:∃ D1,D1=setD (wayD d.rules n k) k (wayD d.rules n k k++List.take (4096-cumW d.rules n k) (wayL d.rules n k [])):=⟨_,rfl⟩;rw[←hD1] at hF;have hFa:=Ys (xs:=[.ptr 0 1 0 0,.int .i64 k,.int .i64 k,.nilS]) hF ⟨Gm _ _,Gm _ _,Gm _ _,⟨by decide,rfl⟩,rfl⟩;refine W_T ?_;(with_reducible repeat' (first|(simp(disch:=omega)only[push_cast,↓zz,seval])|refine And.intro ?_ ?_|(first|refine Ab ?_ ?_|refine Aa ?_ ?_)<;>intro hc<;>(try simp only[push_cast] at hc)|omega|intro _));refine zg4 (extra:=[]) (List.append_nil _).symm hFa ?_ (Du _ _ _ _ _) ?_
     · rw[Do]
       exact⟨(show 0<n+2 by omega),trivial,trivial,trivial,trivial⟩
     rintro y H' ⟨V3,rfl,rfl⟩;refine⟨_,rfl,by rw[Do,Do],trivial,fun G hG=>?_,?_⟩
     · have:=Du _ _ _ _ _ G hG
       rw[Do] at this ⊢;exact this
     by_cases hfit:(I5 d.rules n k).length≤4096-cumW d.rules n k
     · rw[decide_eq_true hfit]
       have hD2:D1=wayD d.rules n (k+1):=by rw[hD1,List.take_of_length_le (by omega),za6]
       have hL2:4096-cumW d.rules n k-(I5 d.rules n k).length=4096-cumW d.rules n (k+1):=by omega
       rw[hD2,hL2];(with_reducible repeat' (first|(simp(disch:=omega)only[push_cast,↓zz,seval])|refine And.intro ?_ ?_|(first|refine Ab ?_ ?_|refine Aa ?_ ?_)<;>intro hc<;>(try simp only[push_cast] at hc)|omega|intro _));refine⟨(k+1,V3),Fj (gar:=[]) _ (List.append_nil _).symm (Nat.zero_le _) (Du _ _ _ _ _) ?_,⟨by omega,by simp only;omega⟩,by simp only;omega⟩;rw[Do];exact⟨rfl,(show 0<n+2 by omega),rfl,trivial,rfl,trivial,trivial⟩
     · rw[decide_eq_false hfit]
       have:¬cumW d.rules n n≤4096:=by omega
       rw[za7,if_neg this];(with_reducible repeat' (first|(simp(disch:=omega)only[push_cast,↓zz,seval])|refine And.intro ?_ ?_|(first|refine Ab ?_ ?_|refine Aa ?_ ?_)<;>intro hc<;>(try simp only[push_cast] at hc)|omega|intro _))
   · obtain rfl:k=n:=by omega
     rw[za7,if_pos hk2];refine N6 (Yr d k (4096-cumW d.rules k k) V2 _) ?_;rw[zo7];unfold fbV;have pW:Ap (fD 2 wayV k fun s=>wayL d.rules k s [])=true:=H5 Fl;refine W_T ?_;(with_reducible repeat' (first|(simp(disch:=omega)only[push_cast,↓zz,seval,pW])|refine And.intro ?_ ?_|(first|refine Ab ?_ ?_|refine Aa ?_ ?_)<;>intro hc<;>(try simp only[push_cast] at hc)|omega|intro _))
     all_goals trace_state
end Go.Proofs.Ytbcjoeadpjfcfaa
set_option maxRecDepth 100000
namespace Go.Proofs.Ytbcjoeadpjfcfaa
open Abs
theorem Yt (d:Desc) (hf:Fi d) (h:¬Dg d=0):PC Try.prog 10 [Cp d] (.tup [.nilS,.int .i64 2]):=by
 have hC:=Q5 d hf;have pR:=A7 d.rules;have pFi:=A6 d.finals;generalize Dg d=c at *;refine Bf I7 ?_;unfold F3;(with_reducible repeat' (first|(simp(disch:=omega)only[push_cast,↓zz,seval,pR,pFi,h])|refine And.intro ?_ ?_|(first|refine Ab ?_ ?_|refine Aa ?_ ?_)<;>intro hc<;>(try simp only[push_cast] at hc)|refine eK hC ?_|refine eQ hC ?_|refine eG hC ?_|((first|refine cK hC ?_|refine cQ hC ?_|refine cG hC ?_);(simp(disch:=omega)only[push_cast,↓zz,seval,pR,pFi,h]);(fail_if_success change False))|omega|intro _))
 all_goals trace_state
theorem z1x (d:Desc) (hf:Fi d) (h:Dg d=0) {n:Nat} (hn:d.states=n) (hcyc:¬cycP d.rules n):PC Try.prog 7 [Cp d] (if cumW d.rules n n≤4096 then .tup [.int .i64 (cumW d.rules n n),.int .i64 0] else .tup [.int .i64 0,.int .i64 4]):=by
 have hF:=z1w d hf h hn hcyc;have hnn:1≤n∧n≤1024:=by obtain⟨m,h1,h2,h3⟩:=(zew h).n;omega
 have pR:=A7 d.rules;have pFi:=A6 d.finals;have pW:Ap (fD 2 wayV n fun s=>wayL d.rules n s [])=true:=H5 Fl;have lW:(fD 2 wayV n fun s=>wayL d.rules n s []).length=n:=V8;refine Bf Ph ?_;unfold I6;rw[za7] at hF;by_cases hfit:cumW d.rules n n≤4096
 · rw[if_pos hfit] at hF ⊢
   (with_reducible repeat' (first|(simp(disch:=omega)only[push_cast,↓zz,seval,pR,pFi,pW,lW])|refine And.intro ?_ ?_|(first|refine Ab ?_ ?_|refine Aa ?_ ?_)<;>intro hc<;>(try simp only[push_cast] at hc)|refine eK hF ?_|refine eQ hF ?_|refine eG hF ?_|((first|refine cK hF ?_|refine cQ hF ?_|refine cG hF ?_);(simp(disch:=omega)only[push_cast,↓zz,seval,pR,pFi,pW,lW]);(fail_if_success change False))|omega|intro _))
   refine A5 (Be (fun (k:Nat)=>k≤n) (fun k=>n-k)
     (fun k=>[(5,.int .i64 0),(6,.int .i64 (cumW d.rules n k)),(14,.lst 1 (fD 2 wayV n fun s=>wayL d.rules n s [])),(15,.int .i64 n),(16,.int .i64 k)]) (fun _=>[]) (fun _ _=>[]) 0 (by simp) ?_ ?_)
   · (with_reducible repeat' (first|(simp(disch:=omega)only[push_cast,↓zz,seval,pW,lW,O3])|refine And.intro ?_ ?_|(first|refine Ab ?_ ?_|refine Aa ?_ ?_)<;>intro hc<;>(try simp only[push_cast] at hc)|omega|intro _))
   intro k hk;rcases Nat.lt_or_ge k n with hkn|hkn
   · have aK:(fD 2 wayV n fun s=>wayL d.rules n s []).getD k .any=.lst 2 ((wayL d.rules n k []).map wayV):=za1 hkn
     have aK2:(fD 2 wayV n fun s=>wayL d.rules n s [])[k]? = some (.lst 2 ((wayL d.rules n k []).map wayV)):=Wa hkn;have hWl:(wayL d.rules n k []).length=(I5 d.rules n k).length:=by rw[wayL,List.length_map]
     have hcs:=Hz d.rules n k;have hcm:=O4 d.rules n (show k+1≤n by omega);have pWk:Ap ((wayL d.rules n k []).map wayV)=true:=E4 Fl _;generalize fD 2 wayV n (fun s=>wayL d.rules n s [])=L at *;generalize wayL d.rules n k []=Wk at *;refine W_T ?_;(with_reducible repeat' (first|(simp(disch:=omega)only[push_cast,↓zz,seval,pW,lW,aK,aK2,hWl,pWk])|refine And.intro ?_ ?_|(first|refine Ab ?_ ?_|refine Aa ?_ ?_)<;>intro hc<;>(try simp only[push_cast] at hc)|omega|intro _))
     all_goals
       refine⟨k+1,?_⟩;(with_reducible repeat' (first|(simp(disch:=omega)only[push_cast,↓zz,seval,hcs,pW])|refine And.intro ?_ ?_|(first|refine Ab ?_ ?_|refine Aa ?_ ?_)<;>intro hc<;>(try simp only[push_cast] at hc)|omega|intro _))
   · obtain rfl:k=n:=by omega
     refine W_T ?_;(with_reducible repeat' (first|(simp(disch:=omega)only[push_cast,↓zz,seval,pW,lW])|refine And.intro ?_ ?_|(first|refine Ab ?_ ?_|refine Aa ?_ ?_)<;>intro hc<;>(try simp only[push_cast] at hc)|omega|intro _))
 · rw[if_neg hfit] at hF ⊢
   (with_reducible repeat' (first|(simp(disch:=omega)only[push_cast,↓zz,seval,pR,pFi])|refine And.intro ?_ ?_|(first|refine Ab ?_ ?_|refine Aa ?_ ?_)<;>intro hc<;>(try simp only[push_cast] at hc)|refine eK hF ?_|refine eQ hF ?_|refine eG hF ?_|((first|refine cK hF ?_|refine cQ hF ?_|refine cG hF ?_);(simp(disch:=omega)only[push_cast,↓zz,seval,pR,pFi]);(fail_if_success change False))|omega|intro _));refine Ay 1 ?_;(with_reducible repeat' (first|(simp(disch:=omega)only[push_cast,↓zz,seval])|refine And.intro ?_ ?_|(first|refine Ab ?_ ?_|refine Aa ?_ ?_)<;>intro hc<;>(try simp only[push_cast] at hc)|omega|intro _))
   all_goals trace_state
theorem Rf (gs:List (List Span)) (hl:gs.length≤1000000) (hg:∀ g∈gs,g.length≤1000000):PC Try.prog 15 [Al gs] (Al gs):=by
 have hP:=Ag gs;refine Bf Mb ?_;unfold G6;(with_reducible repeat' (first|(simp(disch:=omega)only[push_cast,↓zz,seval])|refine And.intro ?_ ?_|(first|refine Ab ?_ ?_|refine Aa ?_ ?_)<;>intro hc<;>(try simp only[push_cast] at hc)|omega|intro _))
 refine A5 (Be (fun (k:Nat)=>k≤gs.length) (fun k=>gs.length-k)
   (fun k=>[(3,.ref 0 1 0 k),(6,Al gs),(7,.int .i64 gs.length),(8,.int .i64 k)]) (fun k=>[⟨1,1,false,(gs.take k).map Ah⟩]) (fun env _=>[Bi 1 (env 3)]) 0 (by simp) ?_ ?_)
 · (with_reducible repeat' (first|(simp(disch:=omega)only[push_cast,↓zz,seval,hP])|refine And.intro ?_ ?_|(first|refine Ab ?_ ?_|refine Aa ?_ ?_)<;>intro hc<;>(try simp only[push_cast] at hc)|omega|intro _))
 intro k hk;have hpk:=Ag (gs.take k);rcases Nat.lt_or_ge k gs.length with hkl|hkl
 · have hC:=Yi (nth gs k) (by have:=hg _ (Ba hkl);omega)
   have e1:(gs.take (k+1)).map Ah=(gs.take k).map Ah++[Ah (nth gs k)]:=by rw[take_at hkl];simp
   have hlm:((gs.take k).map Ah).length=k:=by simp;omega
   generalize hgl:(gs.take k).map Ah=L at *;refine W_T ?_;(with_reducible repeat' (first|(simp(disch:=omega)only[push_cast,↓zz,seval,hP,hpk,hlm])|refine And.intro ?_ ?_|(first|refine Ab ?_ ?_|refine Aa ?_ ?_)<;>intro hc<;>(try simp only[push_cast] at hc)|refine eK hC ?_|refine eQ hC ?_|refine eG hC ?_|((first|refine cK hC ?_|refine cQ hC ?_|refine cG hC ?_);(simp(disch:=omega)only[push_cast,↓zz,seval,hP,hpk,hlm]);(fail_if_success change False))|omega|intro _))
   all_goals
     refine⟨k+1,?_⟩;(with_reducible repeat' (first|(simp(disch:=omega)only[push_cast,↓zz,seval,e1])|refine And.intro ?_ ?_|(first|refine Ab ?_ ?_|refine Aa ?_ ?_)<;>intro hc<;>(try simp only[push_cast] at hc)|omega|intro _))
 · obtain rfl:k=gs.length:=by omega
   have et:List.take gs.length gs=gs:=List.take_of_length_le (by simp);rw[et] at hpk ⊢;refine W_T ?_;(with_reducible repeat' (first|(simp(disch:=omega)only[push_cast,↓zz,seval,hP,hpk,et])|refine And.intro ?_ ?_|(first|refine Ab ?_ ?_|refine Aa ?_ ?_)<;>intro hc<;>(try simp only[push_cast] at hc)|omega|intro _))
   all_goals trace_state
theorem Rh (w:Int × List Term) (out:List Term) (hl:w.2.length+out.length≤1000000) (hg:∀ t∈w.2++out,t.parts.length≤1000000):PC Try.prog 16 [wayV w,Bl out] (Bl (w.2++out)):=by
 have hC2:=Rc w.2 out (by omega);have pw:=Aq w.2;have po:=Aq out;obtain⟨l,hle⟩:∃ l,l=w.2++out:=⟨_,rfl⟩;have hT:=Aq l;rw[←hle] at hg hC2 ⊢;have hll:l.length≤1000000:=by rw[hle,List.length_append];exact hl
 clear hle;refine Bf Mc ?_;unfold G7 wayV;(with_reducible repeat' (first|(simp(disch:=omega)only[push_cast,↓zz,seval,pw,po,hT])|refine And.intro ?_ ?_|(first|refine Ab ?_ ?_|refine Aa ?_ ?_)<;>intro hc<;>(try simp only[push_cast] at hc)|refine eK hC2 ?_|refine eQ hC2 ?_|refine eG hC2 ?_|((first|refine cK hC2 ?_|refine cQ hC2 ?_|refine cG hC2 ?_);(simp(disch:=omega)only[push_cast,↓zz,seval,pw,po,hT]);(fail_if_success change False))|omega|intro _))
 refine A5 (Be (fun (k:Nat)=>k≤l.length) (fun k=>l.length-k)
   (fun k=>[(5,.ref 0 1 0 k),(12,Bl l),(13,.int .i64 l.length),(14,.int .i64 k)]) (fun k=>[⟨6,1,false,(l.take k).map B0⟩]) (fun env _=>[Bi 6 (env 5)]) 0 (by simp) ?_ ?_)
 · (with_reducible repeat' (first|(simp(disch:=omega)only[push_cast,↓zz,seval,hT])|refine And.intro ?_ ?_|(first|refine Ab ?_ ?_|refine Aa ?_ ?_)<;>intro hc<;>(try simp only[push_cast] at hc)|omega|intro _))
 intro k hk;have hpk:=Aq (l.take k);rcases Nat.lt_or_ge k l.length with hkl|hkl
 · have hgt:=hg _ (Ba hkl)
   have e1:(l.take (k+1)).map B0=(l.take k).map B0++[B0 (nth l k)]:=by rw[take_at hkl];simp
   have hlm:((l.take k).map B0).length=k:=by simp;omega
   generalize hte:nth l k=t at *;have hC:=Xw t.parts (by omega);have hpp:=Im t.parts;generalize hgl:(l.take k).map B0=L at *;refine W_T ?_;(with_reducible repeat' (first|(simp(disch:=omega)only[push_cast,↓zz,seval,hT,hpk,hlm,hte,hpp])|refine And.intro ?_ ?_|(first|refine Ab ?_ ?_|refine Aa ?_ ?_)<;>intro hc<;>(try simp only[push_cast] at hc)|refine eK hC ?_|refine eQ hC ?_|refine eG hC ?_|((first|refine cK hC ?_|refine cQ hC ?_|refine cG hC ?_);(simp(disch:=omega)only[push_cast,↓zz,seval,hT,hpk,hlm,hte,hpp]);(fail_if_success change False))|omega|intro _))
   all_goals
     refine⟨k+1,?_⟩;(with_reducible repeat' (first|(simp(disch:=omega)only[push_cast,↓zz,seval,e1])|refine And.intro ?_ ?_|(first|refine Ab ?_ ?_|refine Aa ?_ ?_)<;>intro hc<;>(try simp only[push_cast] at hc)|omega|intro _))
 · obtain rfl:k=l.length:=by omega
   have et:List.take l.length l=l:=List.take_of_length_le (by simp);rw[et] at hpk ⊢;refine W_T ?_;(with_reducible repeat' (first|(simp(disch:=omega)only[push_cast,↓zz,seval,hT,hpk,et])|refine And.intro ?_ ?_|(first|refine Ab ?_ ?_|refine Aa ?_ ?_)<;>intro hc<;>(try simp only[push_cast] at hc)|omega|intro _))
   all_goals trace_state
end Go.Proofs.Ytbcjoeadpjfcfaa
set_option maxRecDepth 100000
namespace Go.Proofs.Ytbcjoeadpjfcfaa
open Abs
theorem za8 {α:Type} {w:Nat} {e:α→AV} {m b:Nat} {env:Env} {l:List Grp} {t v o n:Nat} {V:Nat→Nat} {D:Nat→List α} (i:Nat) (hw:0<w) (he:∀ x,(e x).pure=true) (hi:env i=.ref t v 0 n) (h1:(Abs.hl l).at_ t=⟨1,v,true,fT o n V D⟩) (h2:∀ i,i<n→(Abs.hl l).at_ (i+o)=gG w e (V i) (D i)) :
   Ent m b env (Abs.hl l) (env.put (some i) (.lst 1 (fD w e n D))) (Abs.hl (D5 0 (fKs t o n) l)):=by
 obtain⟨f1,f2⟩:=Yo hw he h1 h2;rw[←hi] at f1 f2;have:=z8t (n:=m) (b:=b) i 2 (fKs t o n) f1;rw[f2] at this;refine this.trans (V4 (by simp[Ac.kill,hl_n,Fc]) fun g hg=>?_);rw[Cg,J4 0 (fKs t o n) l g hg,Nat.zero_add];rfl
theorem Gz (r:Rule):(Ca r).pure=true:=by simp[Ca,AV.pure,Ap,Ag,Aq]
theorem G0 (r:C6):(Bn r).pure=true:=by simp[Bn,AV.pure,Ap,Ag,Aq]
def ruF (l:List Rule) (s:Nat):List Rule:=l.filter fun r=>!B3 r&&decide (r.from_=(s:Int))
theorem zkg {l:List Rule} {k i:Nat} (hk:k<l.length) (he:(fun r:Rule=>!B3 r) (nth l k)=true) (hi:(nth l k).from_=i):ruF (l.take (k+1))=setD (ruF (l.take k)) i (ruF (l.take k) i++[nth l k]):=by
 funext s;simp only at he;rw[take_at hk];simp only[ruF,List.filter_append,List.filter_cons,List.filter_nil,he,Bool.true_and,hi,decide_eq_true_eq,setD];by_cases e:s=i
 · subst e;simp
 · rw[if_neg (by omega),if_neg e];simp
theorem zo8 {l:List Rule} {k:Nat} (hk:k<l.length) (he:(fun r:Rule=>!B3 r) (nth l k)=false):ruF (l.take (k+1))=ruF (l.take k):=by
 funext s;simp only at he;rw[take_at hk];simp[ruF,List.filter_append,he]
theorem za9 (l:List Rule) (k s:Nat):(ruF (l.take k) s).length≤k:=by
 have h1:=List.length_filter_le (fun r:Rule=>!B3 r&&decide (r.from_=(s:Int))) (l.take k);rw[List.length_take] at h1;simp only[ruF];omega
theorem zo9 (r:Rule):PC Try.prog 12 [Ca r] (.tup [.int .i64 r.from_,.bool ((fun r:Rule=>!B3 r) r)]):=by
 have hgr:=Ag r.guards;have hot:=Aq r.out;refine Bf L9 ?_;unfold G4;have eE:(decide ((0:Int)<r.guards.length))=!B3 r:=by rw[B3,←decide_not];exact decide_eq_decide.2 (by omega)
 (with_reducible repeat' (first|(simp(disch:=omega)only[push_cast,↓zz,seval,hgr,hot,eE])|refine And.intro ?_ ?_|(first|refine Ab ?_ ?_|refine Aa ?_ ?_)<;>intro hc<;>(try simp only[push_cast] at hc)|omega|intro _))
 all_goals trace_state
def ruFL (l:List Rule) (n k:Nat) (V:Nat→Nat):List Grp:=⟨1,1,true,fT 1 n V (ruF (l.take k))⟩::fF 5 Ca n V (ruF (l.take k))
theorem Ti (l:List Rule) (n k:Nat) (V:Nat→Nat):(ruFL l n k V).length=n+1:=by simp[ruFL,H0]
theorem O5 (l:List Rule) (n k:Nat) (V:Nat→Nat):∀ G∈ruFL l n k V,ltL (ruFL l n k V).length G.xs:=fun G hG=>by
 rw[Ti];simp only[ruFL,List.mem_cons] at hG;rcases hG with rfl|hG
 · exact z1s (by omega)
 · exact z1t Gz G hG
theorem zkh (l:List Rule) {n:Nat} (hn:n≤1024) (hll:l.length≤4096) (hl:∀ r∈l,0≤r.from_∧r.from_<n):PC Try.prog 11 [.int .i64 n,.lst 5 (l.map Ca),.fn 12 []] (.lst 1 (fD 5 Ca n (ruF l))):=by
 have hP:Ap (l.map Ca)=true:=E4 Gz l;have pN:=Gg n;refine zes Fo (W_T ?_);unfold Dw;(with_reducible repeat' (first|(simp(disch:=omega)only[push_cast,↓zz,seval,hP])|refine And.intro ?_ ?_|(first|refine Ab ?_ ?_|refine Aa ?_ ?_)<;>intro hc<;>(try simp only[push_cast] at hc)|omega|intro _));refine A5 (N6 ((Ir [(2,.fn 12 []),(7,.ref 0 1 0 n),(14,.lst 5 (l.map Ca)),(15,.int .i64 l.length),(16,.int .i64 0)] fun p hp=>?_).trans (Td (α:=Rule) (w:=5) (e:=Ca) (n:=n) (t:=0) (by decide) (by simp) rfl)) ?_)
 · simp only[List.mem_cons,List.not_mem_nil,or_false] at hp
   rcases hp with rfl|rfl|rfl|rfl|rfl<;>rfl
 refine K2 (fun (q:Nat × (Nat→Nat))=>q.1≤l.length) (fun q=>l.length-q.1)
   (fun q=>C2 [(2,.fn 12 []),(7,.ref 0 1 0 n),(14,.lst 5 (l.map Ca)),(15,.int .i64 l.length),(16,.int .i64 q.1)]) (fun q=>Abs.hl (ruFL l n q.1 q.2)) (0,fun _=>1) (by simp) Ent.refl ?_
 rintro⟨k,V⟩ hk;simp only at hk ⊢;rcases Nat.lt_or_ge k l.length with hkl|hkl
 · have hr:=hl _ (Ba hkl)
   have aK:(l.map Ca).getD k .any=Ca (nth l k):=by simp[nth,List.getD,hkl]
   have hyes:=fun i=>zkg (k:=k) (i:=i) hkl;have hno:=zo8 (k:=k) hkl;have hof:=zo9 (nth l k);have hpr:=Gz (nth l k);generalize hre:nth l k=r at *;have hgr:=Ag r.guards;have hot:=Aq r.out;obtain⟨i,hi⟩:∃ i:Nat,r.from_=i:=⟨r.from_.toNat,by omega⟩;have hin:i<n:=by omega
   have hFl:(fF 5 Ca n V (ruF (l.take k))).length=n:=H0;have hTl:(fT 1 n V (ruF (l.take k))).length=n:=z1n;have gI:∀ G,(fF 5 Ca n V (ruF (l.take k))++[G]).getD i default=gG 5 Ca (V i) (ruF (l.take k) i):=fun G=>by rw[za2 hFl hin];exact V9 hin
   have gR:∀ G,(fF 5 Ca n V (ruF (l.take k))++[G]).getD n default=G:=fun G=>by rw[Gy hFl];rfl
   have sR:∀ G G',setQ (fF 5 Ca n V (ruF (l.take k))++[G]) n G'=some (fF 5 Ca n V (ruF (l.take k))++[G']):=fun G G'=>by rw[Kl _ _ hFl];rfl
   have tI:(fT 1 n V (ruF (l.take k))).getD i .any=.ref (i+1) (V i) 0 (ruF (l.take k) i).length:=zep hin;have sI:∀ G G',setQ (fF 5 Ca n V (ruF (l.take k))++[G]) i G'=some ((fF 5 Ca n V (ruF (l.take k))).set i G'++[G]):=fun G G'=>Tb (by omega);have gR2:∀ G G',((fF 5 Ca n V (ruF (l.take k))).set i G'++[G]).getD n default=G:=fun G G'=>by rw[Gy (by rw[List.length_set];exact hFl)];rfl
   have hSB:∀ R G,B1 1 [i+1] (fF 5 Ca n V (ruF (l.take k))++[R]) ((fF 5 Ca n V (ruF (l.take k))).set i G++[R]):=fun R G=>Tc (by omega) (by simp;omega);have hEx:=zeq (e:=Ca) (ruF (l.take k) i);have hel:=za9 l k i
   have eT:(fT 1 n V (ruF (l.take k))).set i (.ref (i+1) (V i+1) 0 ((ruF (l.take k) i).length+1))=fT 1 n (setV V i (V i+1)) (setD (ruF (l.take k)) i (ruF (l.take k) i++[r])):=by
     have:=z1o (o:=1) (V:=V) (D:=ruF (l.take k)) (l:=ruF (l.take k) i++[r]) hin
     rwa [List.length_append] at this
   have eF:(fF 5 Ca n V (ruF (l.take k))).set i ⟨5,V i+1,false,(ruF (l.take k) i).map Ca++[Ca r]⟩=fF 5 Ca n (setV V i (V i+1)) (setD (ruF (l.take k)) i (ruF (l.take k) i++[r])):=by
     have:=z1p (V:=V) (D:=ruF (l.take k)) (w:=5) (e:=Ca) (l:=ruF (l.take k) i++[r]) (by simp) hin;rw[List.map_append] at this;exact this
   have hRv:ltV (n+1) (.lst 5 (l.map Ca)):=C0 _ _ hP;rw[ruFL];have hni:¬n=i:=by omega
   simp only[gG] at gI;obtain⟨bb,hbb⟩:∃ bb,bb=(fun r:Rule=>!B3 r) r:=⟨_,rfl⟩;rw[←hbb] at hof hyes hno;refine W_T ?_;cases bb with
   | true =>
     (with_reducible repeat' (first|(simp(disch:=omega)only[push_cast,↓zz,seval,xx,List.mem_cons,List.not_mem_nil,or_false,false_or,not_or,not_false_eq_true,true_or,or_true,hP,aK,hre,hi,hgr,hot,hFl,hTl,gI,gR,sR,tI,sI,gR2,hEx,hni])|refine And.intro ?_ ?_|(first|refine Ab ?_ ?_|refine Aa ?_ ?_)<;>intro hc<;>(try simp only[push_cast] at hc)|refine eK hof ?_|refine eQ hof ?_|refine eG hof ?_|refine B2 [i+1] ?_|((first|refine cK hof ?_|refine cQ hof ?_|refine cG hof ?_);(simp(disch:=omega)only[push_cast,↓zz,seval,xx,List.mem_cons,List.not_mem_nil,or_false,false_or,not_or,not_false_eq_true,true_or,or_true,hP,aK,hre,hi,hgr,hot,hFl,hTl,gI,gR,sR,tI,sI,gR2,hEx,hni]);(fail_if_success change False))|omega|intro _))
     · exact hSB _ _
     · refine⟨(k+1,setV V i (V i+1)),Fj (gar:=[⟨5,1,true,[.agg [.int .i64 i,.int .i64 r.to_,Al r.guards,.int .i64 r.eat,Bl r.out]]⟩]) _ ?_ (Nat.zero_le _) (O5 _ _ _ _) ?_,by simp only;omega,by simp only;omega⟩
       · rw[ruFL,hyes i rfl hi,←eT,←eF]
         simp only[Ca,hi];rfl
       · rw[Ti]
         exact⟨rfl,trivial,rfl,(show 0<n+1 by omega),rfl,hRv,rfl,trivial,rfl,trivial,trivial⟩
   | false =>
     (with_reducible repeat' (first|(simp(disch:=omega)only[push_cast,↓zz,seval,xx,List.mem_cons,List.not_mem_nil,or_false,false_or,not_or,not_false_eq_true,true_or,or_true,hP,aK,hre,hi,hgr,hot,hFl,hTl,gI,gR,sR,tI,sI,gR2,hEx,hni])|refine And.intro ?_ ?_|(first|refine Ab ?_ ?_|refine Aa ?_ ?_)<;>intro hc<;>(try simp only[push_cast] at hc)|refine eK hof ?_|refine eQ hof ?_|refine eG hof ?_|refine B2 [i+1] ?_|((first|refine cK hof ?_|refine cQ hof ?_|refine cG hof ?_);(simp(disch:=omega)only[push_cast,↓zz,seval,xx,List.mem_cons,List.not_mem_nil,or_false,false_or,not_or,not_false_eq_true,true_or,or_true,hP,aK,hre,hi,hgr,hot,hFl,hTl,gI,gR,sR,tI,sI,gR2,hEx,hni]);(fail_if_success change False))|omega|intro _));refine⟨(k+1,V),Fj (gar:=[⟨5,1,true,[.agg [.int .i64 i,.int .i64 r.to_,Al r.guards,.int .i64 r.eat,Bl r.out]]⟩]) _ ?_ (Nat.zero_le _) (O5 _ _ _ _) ?_,by simp only;omega,by simp only;omega⟩
     · rw[ruFL,hno rfl]
       rfl
     · rw[Ti]
       exact⟨rfl,trivial,rfl,(show 0<n+1 by omega),rfl,hRv,rfl,trivial,rfl,trivial,trivial⟩
 · obtain rfl:k=l.length:=by omega
   have h1:(Abs.hl (ruFL l n l.length V)).at_ 0=⟨1,1,true,fT 1 n V (ruF (l.take l.length))⟩:=rfl
   have h2:∀ i,i<n→(Abs.hl (ruFL l n l.length V)).at_ (i+1)=gG 5 Ca (V i) (ruF (l.take l.length) i):=fun i hi=>by
     rw[ruFL,Cg];simp only[List.getD_cons_succ];exact V9 hi
   refine N6 (za8 7 (by decide) Gz rfl h1 h2) ?_;rw[List.take_length];have pW:Ap (fD 5 Ca n (ruF l))=true:=H5 Gz;refine W_T ?_;(with_reducible repeat' (first|(simp(disch:=omega)only[push_cast,↓zz,seval,hP,pW])|refine And.intro ?_ ?_|(first|refine Ab ?_ ?_|refine Aa ?_ ?_)<;>intro hc<;>(try simp only[push_cast] at hc)|omega|intro _))
def fiF (l:List C6) (s:Nat):List C6:=l.filter fun r=>true&&decide (r.from_=(s:Int))
theorem zki {l:List C6} {k i:Nat} (hk:k<l.length) (he:(fun r:C6=>true) (nth l k)=true) (hi:(nth l k).from_=i):fiF (l.take (k+1))=setD (fiF (l.take k)) i (fiF (l.take k) i++[nth l k]):=by
 funext s;simp only at he;rw[take_at hk];simp only[fiF,List.filter_append,List.filter_cons,List.filter_nil,he,Bool.true_and,hi,decide_eq_true_eq,setD];by_cases e:s=i
 · subst e;simp
 · rw[if_neg (by omega),if_neg e];simp
theorem zoa {l:List C6} {k:Nat} (hk:k<l.length) (he:(fun _:C6=>true) (nth l k)=false):fiF (l.take (k+1))=fiF (l.take k):=by
 cases he
theorem zaa (l:List C6) (k s:Nat):(fiF (l.take k) s).length≤k:=by
 have h1:=List.length_filter_le (fun r:C6=>true&&decide (r.from_=(s:Int))) (l.take k);rw[List.length_take] at h1;simp only[fiF];omega
theorem zob (r:C6):PC Try.prog 14 [Bn r] (.tup [.int .i64 r.from_,.bool ((fun r:C6=>true) r)]):=by
 have hgr:=Ag r.guards;have hot:=Aq r.out;refine Bf Ma ?_;unfold G5;(with_reducible repeat' (first|(simp(disch:=omega)only[push_cast,↓zz,seval,hgr,hot])|refine And.intro ?_ ?_|(first|refine Ab ?_ ?_|refine Aa ?_ ?_)<;>intro hc<;>(try simp only[push_cast] at hc)|omega|intro _))
 all_goals trace_state
def fiFL (l:List C6) (n k:Nat) (V:Nat→Nat):List Grp:=⟨1,1,true,fT 1 n V (fiF (l.take k))⟩::fF 3 Bn n V (fiF (l.take k))
theorem Tj (l:List C6) (n k:Nat) (V:Nat→Nat):(fiFL l n k V).length=n+1:=by simp[fiFL,H0]
theorem O6 (l:List C6) (n k:Nat) (V:Nat→Nat):∀ G∈fiFL l n k V,ltL (fiFL l n k V).length G.xs:=fun G hG=>by
 rw[Tj];simp only[fiFL,List.mem_cons] at hG;rcases hG with rfl|hG
 · exact z1s (by omega)
 · exact z1t G0 G hG
theorem zkj (l:List C6) {n:Nat} (hn:n≤1024) (hll:l.length≤4096) (hl:∀ r∈l,0≤r.from_∧r.from_<n):PC Try.prog 13 [.int .i64 n,.lst 3 (l.map Bn),.fn 14 []] (.lst 1 (fD 3 Bn n (fiF l))):=by
 have hP:Ap (l.map Bn)=true:=E4 G0 l;have pN:=Gg n;refine zes Ff (W_T ?_);unfold Dl;(with_reducible repeat' (first|(simp(disch:=omega)only[push_cast,↓zz,seval,hP])|refine And.intro ?_ ?_|(first|refine Ab ?_ ?_|refine Aa ?_ ?_)<;>intro hc<;>(try simp only[push_cast] at hc)|omega|intro _));refine A5 (N6 ((Ir [(2,.fn 14 []),(7,.ref 0 1 0 n),(14,.lst 3 (l.map Bn)),(15,.int .i64 l.length),(16,.int .i64 0)] fun p hp=>?_).trans (Td (α:=C6) (w:=3) (e:=Bn) (n:=n) (t:=0) (by decide) (by simp) rfl)) ?_)
 · simp only[List.mem_cons,List.not_mem_nil,or_false] at hp
   rcases hp with rfl|rfl|rfl|rfl|rfl<;>rfl
 refine K2 (fun (q:Nat × (Nat→Nat))=>q.1≤l.length) (fun q=>l.length-q.1)
   (fun q=>C2 [(2,.fn 14 []),(7,.ref 0 1 0 n),(14,.lst 3 (l.map Bn)),(15,.int .i64 l.length),(16,.int .i64 q.1)]) (fun q=>Abs.hl (fiFL l n q.1 q.2)) (0,fun _=>1) (by simp) Ent.refl ?_
 rintro⟨k,V⟩ hk;simp only at hk ⊢;rcases Nat.lt_or_ge k l.length with hkl|hkl
 · have hr:=hl _ (Ba hkl)
   have aK:(l.map Bn).getD k .any=Bn (nth l k):=by simp[nth,List.getD,hkl]
   have hyes:=fun i=>zki (k:=k) (i:=i) hkl;have hno:=zoa (k:=k) hkl;have hof:=zob (nth l k);have hpr:=G0 (nth l k);generalize hre:nth l k=r at *;have hgr:=Ag r.guards;have hot:=Aq r.out;obtain⟨i,hi⟩:∃ i:Nat,r.from_=i:=⟨r.from_.toNat,by omega⟩;have hin:i<n:=by omega
   have hFl:(fF 3 Bn n V (fiF (l.take k))).length=n:=H0;have hTl:(fT 1 n V (fiF (l.take k))).length=n:=z1n;have gI:∀ G,(fF 3 Bn n V (fiF (l.take k))++[G]).getD i default=gG 3 Bn (V i) (fiF (l.take k) i):=fun G=>by rw[za2 hFl hin];exact V9 hin
   have gR:∀ G,(fF 3 Bn n V (fiF (l.take k))++[G]).getD n default=G:=fun G=>by rw[Gy hFl];rfl
   have sR:∀ G G',setQ (fF 3 Bn n V (fiF (l.take k))++[G]) n G'=some (fF 3 Bn n V (fiF (l.take k))++[G']):=fun G G'=>by rw[Kl _ _ hFl];rfl
   have tI:(fT 1 n V (fiF (l.take k))).getD i .any=.ref (i+1) (V i) 0 (fiF (l.take k) i).length:=zep hin;have sI:∀ G G',setQ (fF 3 Bn n V (fiF (l.take k))++[G]) i G'=some ((fF 3 Bn n V (fiF (l.take k))).set i G'++[G]):=fun G G'=>Tb (by omega);have gR2:∀ G G',((fF 3 Bn n V (fiF (l.take k))).set i G'++[G]).getD n default=G:=fun G G'=>by rw[Gy (by rw[List.length_set];exact hFl)];rfl
   have hSB:∀ R G,B1 1 [i+1] (fF 3 Bn n V (fiF (l.take k))++[R]) ((fF 3 Bn n V (fiF (l.take k))).set i G++[R]):=fun R G=>Tc (by omega) (by simp;omega);have hEx:=zeq (e:=Bn) (fiF (l.take k) i);have hel:=zaa l k i
   have eT:(fT 1 n V (fiF (l.take k))).set i (.ref (i+1) (V i+1) 0 ((fiF (l.take k) i).length+1))=fT 1 n (setV V i (V i+1)) (setD (fiF (l.take k)) i (fiF (l.take k) i++[r])):=by
     have:=z1o (o:=1) (V:=V) (D:=fiF (l.take k)) (l:=fiF (l.take k) i++[r]) hin
     rwa [List.length_append] at this
   have eF:(fF 3 Bn n V (fiF (l.take k))).set i ⟨3,V i+1,false,(fiF (l.take k) i).map Bn++[Bn r]⟩=fF 3 Bn n (setV V i (V i+1)) (setD (fiF (l.take k)) i (fiF (l.take k) i++[r])):=by
     have:=z1p (V:=V) (D:=fiF (l.take k)) (w:=3) (e:=Bn) (l:=fiF (l.take k) i++[r]) (by simp) hin;rw[List.map_append] at this;exact this
   have hRv:ltV (n+1) (.lst 3 (l.map Bn)):=C0 _ _ hP;rw[fiFL];have hni:¬n=i:=by omega
   simp only[gG] at gI;obtain⟨bb,hbb⟩:∃ bb,bb=(fun r:C6=>true) r:=⟨_,rfl⟩;rw[←hbb] at hof hyes hno;refine W_T ?_;cases bb with
   | true =>
     (with_reducible repeat' (first|(simp(disch:=omega)only[push_cast,↓zz,seval,xx,List.mem_cons,List.not_mem_nil,or_false,false_or,not_or,not_false_eq_true,true_or,or_true,hP,aK,hre,hi,hgr,hot,hFl,hTl,gI,gR,sR,tI,sI,gR2,hEx,hni])|refine And.intro ?_ ?_|(first|refine Ab ?_ ?_|refine Aa ?_ ?_)<;>intro hc<;>(try simp only[push_cast] at hc)|refine eK hof ?_|refine eQ hof ?_|refine eG hof ?_|refine B2 [i+1] ?_|((first|refine cK hof ?_|refine cQ hof ?_|refine cG hof ?_);(simp(disch:=omega)only[push_cast,↓zz,seval,xx,List.mem_cons,List.not_mem_nil,or_false,false_or,not_or,not_false_eq_true,true_or,or_true,hP,aK,hre,hi,hgr,hot,hFl,hTl,gI,gR,sR,tI,sI,gR2,hEx,hni]);(fail_if_success change False))|omega|intro _))
     · exact hSB _ _
     · refine⟨(k+1,setV V i (V i+1)),Fj (gar:=[⟨3,1,true,[.agg [.int .i64 i,Al r.guards,Bl r.out]]⟩]) _ ?_ (Nat.zero_le _) (O6 _ _ _ _) ?_,by simp only;omega,by simp only;omega⟩
       · rw[fiFL,hyes i rfl hi,←eT,←eF]
         simp only[Bn,hi];rfl
       · rw[Tj]
         exact⟨rfl,trivial,rfl,(show 0<n+1 by omega),rfl,hRv,rfl,trivial,rfl,trivial,trivial⟩
   | false =>
     (with_reducible repeat' (first|(simp(disch:=omega)only[push_cast,↓zz,seval,xx,List.mem_cons,List.not_mem_nil,or_false,false_or,not_or,not_false_eq_true,true_or,or_true,hP,aK,hre,hi,hgr,hot,hFl,hTl,gI,gR,sR,tI,sI,gR2,hEx,hni])|refine And.intro ?_ ?_|(first|refine Ab ?_ ?_|refine Aa ?_ ?_)<;>intro hc<;>(try simp only[push_cast] at hc)|refine eK hof ?_|refine eQ hof ?_|refine eG hof ?_|refine B2 [i+1] ?_|((first|refine cK hof ?_|refine cQ hof ?_|refine cG hof ?_);(simp(disch:=omega)only[push_cast,↓zz,seval,xx,List.mem_cons,List.not_mem_nil,or_false,false_or,not_or,not_false_eq_true,true_or,or_true,hP,aK,hre,hi,hgr,hot,hFl,hTl,gI,gR,sR,tI,sI,gR2,hEx,hni]);(fail_if_success change False))|omega|intro _));refine⟨(k+1,V),Fj (gar:=[⟨3,1,true,[.agg [.int .i64 i,Al r.guards,Bl r.out]]⟩]) _ ?_ (Nat.zero_le _) (O6 _ _ _ _) ?_,by simp only;omega,by simp only;omega⟩
     · rw[fiFL,hno rfl]
       rfl
     · rw[Tj]
       exact⟨rfl,trivial,rfl,(show 0<n+1 by omega),rfl,hRv,rfl,trivial,rfl,trivial,trivial⟩
 · obtain rfl:k=l.length:=by omega
   have h1:(Abs.hl (fiFL l n l.length V)).at_ 0=⟨1,1,true,fT 1 n V (fiF (l.take l.length))⟩:=rfl
   have h2:∀ i,i<n→(Abs.hl (fiFL l n l.length V)).at_ (i+1)=gG 3 Bn (V i) (fiF (l.take l.length) i):=fun i hi=>by
     rw[fiFL,Cg];simp only[List.getD_cons_succ];exact V9 hi
   refine N6 (za8 7 (by decide) G0 rfl h1 h2) ?_;rw[List.take_length];have pW:Ap (fD 3 Bn n (fiF l))=true:=H5 G0;refine W_T ?_;(with_reducible repeat' (first|(simp(disch:=omega)only[push_cast,↓zz,seval,hP,pW])|refine And.intro ?_ ?_|(first|refine Ab ?_ ?_|refine Aa ?_ ?_)<;>intro hc<;>(try simp only[push_cast] at hc)|omega|intro _))
   all_goals trace_state
def zoc (l:List Bool) (k:Nat):List Int:=((List.range k).filter fun i=>nth l i).map fun i:Nat=>(i:Int)
noncomputable def zod (d:Desc):List Int:=zoc (comeL d) d.states.toNat
noncomputable def goesI (d:Desc):List Int:=zoc (goL d) d.states.toNat
end Go.Proofs.Ytbcjoeadpjfcfaa
namespace Go.Proofs.Ytbcjoeadpjfcfaa
open Abs
noncomputable def zez (d:Desc) (i:Nat):Bool:=z1v (fwdE d) [d.start] i&&z1v (bwdE d) (endE d) i
def cntB (u:Nat→Bool) (k:Nat):Nat:=((List.range k).filter u).length
def numB (u:Nat→Bool) (i:Nat):Int:=if u i=true then (cntB u i:Int) else -1
def keepR (u:Nat→Bool) (l:List Rule):List Rule:=(l.filter fun r=>u r.from_.toNat&&u r.to_.toNat).map fun r=>⟨numB u r.from_.toNat,numB u r.to_.toNat,r.guards,r.eat,r.out⟩
def keepF (u:Nat→Bool) (l:List C6):List C6:=(l.filter fun f=>u f.from_.toNat).map fun f=>⟨numB u f.from_.toNat,f.guards,f.out⟩
noncomputable def trimV (d:Desc):Desc :=
 if z1v (bwdE d) (endE d) d.start.toNat=false then zo4 d.in_ d.out
 else ⟨d.in_,d.out,cntB (zez d) d.states.toNat,numB (zez d) d.start.toNat,keepR (zez d) d.rules,keepF (zez d) d.finals⟩
theorem Kn (u:Nat→Bool) (k:Nat):cntB u (k+1)=if u k=true then cntB u k+1 else cntB u k:=by
 simp only[cntB,List.range_succ,List.filter_append,List.length_append,List.filter_cons,List.filter_nil];split<;>simp_all
abbrev Ri:AV:=.agg [.int .i64 0,.int .i64 0,.int .i64 0,.int .i64 0,.nilS,.nilS]
end Go.Proofs.Ytbcjoeadpjfcfaa
set_option maxRecDepth 100000
set_option linter.unusedSectionVars false
namespace Go.Proofs.Ytbcjoeadpjfcfaa
open Abs
section
variable {α β:Type} [Inhabited α]
def accL (W:Nat→List α) (g:Nat→α→List β) (s:Nat):List β:=(List.range s).flatMap fun s=>(W s).flatMap (g s)
def accJ (W:Nat→List α) (g:Nat→α→List β) (s j:Nat):List β:=accL W g s++((W s).take j).flatMap (g s)
variable {W:Nat→List α} {g:Nat→α→List β}
theorem Wi:accL W g 0=[]:=rfl
theorem O7 (s:Nat):accL W g (s+1)=accJ W g s (W s).length:=by
 simp[accL,accJ,List.range_succ,List.flatMap_append]
theorem H7 (s:Nat):accJ W g s 0=accL W g s:=by simp[accJ]
theorem Wj {s j:Nat} (h:j<(W s).length):accJ W g s (j+1)=accJ W g s j++g s (nth (W s) j):=by
 rw[accJ,accJ,take_at h,List.flatMap_append,List.append_assoc];simp
theorem Wl (s j:Nat):(accJ W g s j).length≤(accL W g (s+1)).length:=by
 rw[O7,accJ,accJ];have:W s=(W s).take j++(W s).drop j:=(List.take_append_drop j _).symm;rw[List.take_length,List.length_append,List.length_append]
 have h2:((W s).flatMap (g s)).length=(((W s).take j).flatMap (g s)).length+(((W s).drop j).flatMap (g s)).length:=by
   rw[←List.length_append,←List.flatMap_append,List.take_append_drop]
 omega
theorem zab {s n:Nat} (h:s≤n):(accL W g s).length≤(accL W g n).length:=by
 induction h with
 | refl=>exact Nat.le_refl _
 | step _ ih =>
   rename_i m _;have:=Wl (W:=W) (g:=g) m 0;rw[H7] at this;exact Nat.le_trans ih this
theorem z1y {s n:Nat} (j:Nat) (h:s<n):(accJ W g s j).length≤(accL W g n).length:=Nat.le_trans (Wl s j) (zab h)
end
def frR (d:Desc) (s:Nat) (w:Int × List Term):List Rule:=(ruF d.rules w.1.toNat).map fun r=>⟨s,r.to_,r.guards,r.eat,w.2++r.out⟩
def frF (d:Desc) (s:Nat) (w:Int × List Term):List C6:=(fiF d.finals w.1.toNat).map fun f=>⟨s,f.guards,w.2++f.out⟩
def Ct (d:Desc) (n:Nat):Desc:=⟨d.in_,d.out,d.states,d.start,accL (fun s:Nat=>wayL d.rules n s []) (frR d) n,accL (fun s:Nat=>wayL d.rules n s []) (frF d) n⟩
noncomputable def E1 (d:Desc) (n:Nat):Bool:=decide (cumW d.rules n n≤4096)&&(decide ((Ct d n).rules.length≤4096∧(Ct d n).finals.length≤4096)&&decide (Pm (Ct d n)≤64))
theorem z1z {l:List Rule} (ho:∀ r∈l,r.out.length≤64):∀ {s:Int} {p:List Nat},okP l s p→(outP l p).length≤64 * p.length
 | s,[],_=>by simp[outP]
 | s,i::p,h=>by
   have h1:=ho _ (Ba (Gx.1 h.1).1);have h2:=z1z ho (s:=(nth l i).to_) (p:=p) h.2;simp only[outP,List.flatMap_cons,List.length_append,List.length_cons] at *;omega
theorem z2a {l:List Rule} {B:Nat} (hB:∀ r∈l,∀ t∈r.out,t.parts.length≤B):∀ {s:Int} {p:List Nat},okP l s p→∀ t∈outP l p,t.parts.length≤B
 | s,[],_,t,ht=>by simp[outP] at ht
 | s,i::p,h,t,ht=>by
   simp only[outP,List.flatMap_cons,List.mem_append] at ht;rcases ht with ht|ht
   · exact hB _ (Ba (Gx.1 h.1).1) t ht
   · exact z2a hB (s:=(nth l i).to_) (p:=p) h.2 t ht
structure zkk (n:Nat) (w:Int × List Term):Prop where
 e:0≤w.1∧w.1<n
 l:w.2.length≤70000
 p:∀ t∈w.2,t.parts.length≤4
theorem zg6 {d:Desc} {n:Nat} (hn:n≤1024) (hl:∀ r∈d.rules,(0≤r.from_∧r.from_<n)∧0≤r.to_∧r.to_<n) (hcyc:¬cycP d.rules n) (ho:∀ r∈d.rules,r.out.length≤64) (hB:∀ r∈d.rules,∀ t∈r.out,t.parts.length≤4) {s:Nat} (hs:s<n) {w:Int × List Term} (h:w∈wayL d.rules n s []):zkk n w:=by
 obtain⟨p,hp,rfl⟩:=List.mem_map.1 h;obtain⟨h1,h2⟩:=z1l hl hcyc (show (0:Int)≤s by omega) hp;have h3:=z1z ho h2;refine⟨z1m hl (by omega) h2,?_,?_⟩
 · simp only[List.nil_append];omega
 · simp only[List.nil_append];exact z2a hB h2
theorem Yu (d:Desc) (hf:Fi d) (h:¬Dg d=0):PC Try.prog 6 [Cp d] (.tup [Ri,.int .i64 2]):=by
 have hF:=Yt d hf h;have pR:=A7 d.rules;have pFi:=A6 d.finals;refine Bf F2 ?_;unfold Em;(with_reducible repeat' (first|(simp(disch:=omega)only[push_cast,↓zz,seval,pR,pFi])|refine And.intro ?_ ?_|(first|refine Ab ?_ ?_|refine Aa ?_ ?_)<;>intro hc<;>(try simp only[push_cast] at hc)|refine eK hF ?_|refine eQ hF ?_|refine eG hF ?_|((first|refine cK hF ?_|refine cQ hF ?_|refine cG hF ?_);(simp(disch:=omega)only[push_cast,↓zz,seval,pR,pFi]);(fail_if_success change False))|omega|intro _))
 all_goals trace_state
theorem Yv {l:List Rule} {s:Nat} {r:Rule} (h:r∈ruF l s):r∈l:=(List.mem_filter.1 h).1
theorem zac {l:List C6} {s:Nat} {r:C6} (h:r∈fiF l s):r∈l:=(List.mem_filter.1 h).1
theorem E5 {d:Desc} {r:Rule} (h:Gu d r=true):r.out.length≤64∧(∀ t∈r.out,t.parts.length≤4)∧r.guards.length≤4∧∀ g∈r.guards,g.length≤64:=by
 simp only[Gu,Bool.and_eq_true] at h;obtain⟨h1,h2⟩:=Hy h.2.2.2.2;obtain⟨h3,h4⟩:=Fv h.2.2.1;exact⟨h1,h2,h3,h4⟩
theorem Ko {d:Desc} {r:C6} (h:E0 d r=true):r.out.length≤64∧(∀ t∈r.out,t.parts.length≤4)∧r.guards.length≤4∧∀ g∈r.guards,g.length≤64:=by
 simp only[E0,Bool.and_eq_true] at h;obtain⟨h1,h2⟩:=Hy h.2.2;obtain⟨h3,h4⟩:=Fv h.2.1;exact⟨h1,h2,h3,h4⟩
theorem Kp {α β:Type} {W:Nat→List α} {g:Nat→α→List β} {s:Nat} {x:β} (h:x∈accL W g s):∃ i,i<s∧∃ w∈W i,x∈g i w:=by
 simp only[accL,List.mem_flatMap,List.mem_range] at h;obtain⟨i,h1,w,h2,h3⟩:=h;exact⟨i,h1,w,h2,h3⟩
def G1 (s:Nat) (w:Int × List Term) (r:Rule):Rule:=⟨s,r.to_,r.guards,r.eat,w.2++r.out⟩
def H8 (s:Nat) (w:Int × List Term) (r:C6):C6:=⟨s,r.guards,w.2++r.out⟩
theorem Rj (d:Desc) (s:Nat) (w:Int × List Term):frR d s w=(ruF d.rules w.1.toNat).map (G1 s w):=rfl
theorem Wm (d:Desc) (s:Nat) (w:Int × List Term):frF d s w=(fiF d.finals w.1.toNat).map (H8 s w):=rfl
theorem Tk (d:Desc) (hf:Fi d) (h:Dg d=0) {n:Nat} (hn:d.states=n) (hcyc:¬cycP d.rules n):PC Try.prog 6 [Cp d] (if E1 d n=true then .tup [Cp (Ct d n),.int .i64 0] else .tup [Ri,.int .i64 4]):=by
 have hF:=z1w d hf h hn hcyc;have hw:=zew h;obtain⟨_,hrules,hfinals⟩:=Ea h;have hnn:1≤n∧n≤1024:=by obtain⟨m,h1,h2,h3⟩:=hw.n;omega
 have hrl:=hw.rl;have hfl:=hw.fl;have hl:∀ r∈d.rules,(0≤r.from_∧r.from_<n)∧0≤r.to_∧r.to_<n:=fun r hr=>by have:=hw.r r hr;rw[hn] at this;exact this
 have hlf:∀ r∈d.finals,0≤r.from_∧r.from_<n:=fun r hr=>by have:=hw.f r hr;rw[hn] at this;exact this
 have pR:=A7 d.rules;have pFi:=A6 d.finals;rw[za7] at hF;by_cases hfit:cumW d.rules n n≤4096
 rotate_left
 · have:¬E1 d n=true:=by simp[E1,hfit]
   rw[if_neg hfit] at hF;rw[if_neg this];refine Bf F2 ?_;unfold Em;(with_reducible repeat' (first|(simp(disch:=omega)only[push_cast,↓zz,seval,pR,pFi])|refine And.intro ?_ ?_|(first|refine Ab ?_ ?_|refine Aa ?_ ?_)<;>intro hc<;>(try simp only[push_cast] at hc)|refine eK hF ?_|refine eQ hF ?_|refine eG hF ?_|((first|refine cK hF ?_|refine cQ hF ?_|refine cG hF ?_);(simp(disch:=omega)only[push_cast,↓zz,seval,pR,pFi]);(fail_if_success change False))|omega|intro _))
 rw[if_pos hfit] at hF;have hgR:=zkh d.rules (n:=n) hnn.2 hrl fun r hr=>(hl r hr).1;have hgF:=zkj d.finals (n:=n) hnn.2 hfl hlf;have pRU:Ap (fD 5 Ca n (ruF d.rules))=true:=H5 Gz;have pFI:Ap (fD 3 Bn n (fiF d.finals))=true:=H5 G0;have pWA:Ap (fD 2 wayV n fun s=>wayL d.rules n s [])=true:=H5 Fl;have lRU:(fD 5 Ca n (ruF d.rules)).length=n:=V8;have lFI:(fD 3 Bn n (fiF d.finals)).length=n:=V8;have lWA:(fD 2 wayV n fun s=>wayL d.rules n s []).length=n:=V8;have aRU:∀ i,i<n→(fD 5 Ca n (ruF d.rules)).getD i .any=.lst 5 ((ruF d.rules i).map Ca):=fun i hi=>za1 hi;have aFI:∀ i,i<n→(fD 3 Bn n (fiF d.finals)).getD i .any=.lst 3 ((fiF d.finals i).map Bn):=fun i hi=>za1 hi;have aWA:∀ i,i<n→(fD 2 wayV n fun s=>wayL d.rules n s []).getD i .any=.lst 2 ((wayL d.rules n i []).map wayV):=fun i hi=>za1 hi;have aRU2:∀ i,i<n→(fD 5 Ca n (ruF d.rules))[i]? = some (.lst 5 ((ruF d.rules i).map Ca)):=fun i hi=>Wa hi;have aFI2:∀ i,i<n→(fD 3 Bn n (fiF d.finals))[i]? = some (.lst 3 ((fiF d.finals i).map Bn)):=fun i hi=>Wa hi;have aWA2:∀ i,i<n→(fD 2 wayV n fun s=>wayL d.rules n s [])[i]? = some (.lst 2 ((wayL d.rules n i []).map wayV)):=fun i hi=>Wa hi;have hRn:∀ s j,s<n→(accJ (fun s:Nat=>wayL d.rules n s []) (frR d) s j).length≤(Ct d n).rules.length:=fun s j hs=>z1y j hs;have hFn:∀ s j,s<n→(accJ (fun s:Nat=>wayL d.rules n s []) (frF d) s j).length≤(Ct d n).finals.length:=fun s j hs=>z1y j hs;have hwo:∀ s,s<n→∀ w∈wayL d.rules n s [],zkk n w:=fun s hs w hw'=>zg6 hnn.2 hl hcyc (fun r hr=>(E5 (hrules r hr)).1) (fun r hr=>(E5 (hrules r hr)).2.1) hs hw'
 have hWc:∀ s,s<n→(wayL d.rules n s []).length≤4096:=fun s hs=>by
   have h1:=Hz d.rules n s;have h2:=O4 d.rules n (show s+1≤n by omega);have h3:(wayL d.rules n s []).length=(I5 d.rules n s).length:=by rw[wayL,List.length_map]
   omega
 have hRu:∀ s,(ruF d.rules s).length≤4096:=fun s=>by have:=za9 d.rules d.rules.length s;rw[List.take_length] at this;omega
 have hFu:∀ s,(fiF d.finals s).length≤4096:=fun s=>by have:=zaa d.finals d.finals.length s;rw[List.take_length] at this;omega
 refine Bf F2 ?_;unfold Em;generalize fD 5 Ca n (ruF d.rules)=RU at *;generalize fD 3 Bn n (fiF d.finals)=FI at *;generalize fD 2 wayV n (fun s=>wayL d.rules n s [])=WA at *;(with_reducible repeat' (first|(simp(disch:=omega)only[push_cast,↓zz,seval,pR,pFi,hn,pRU,pFI,pWA,lWA])|refine And.intro ?_ ?_|(first|refine Ab ?_ ?_|refine Aa ?_ ?_)<;>intro hc<;>(try simp only[push_cast] at hc)|refine eK hF ?_|refine eQ hF ?_|refine eG hF ?_|refine eK hgR ?_|refine eQ hgR ?_|refine eG hgR ?_|refine eK hgF ?_|refine eQ hgF ?_|refine eG hgF ?_|((first|refine cK hF ?_|refine cQ hF ?_|refine cG hF ?_|refine cK hgR ?_|refine cQ hgR ?_|refine cG hgR ?_|refine cK hgF ?_|refine cQ hgF ?_|refine cG hgF ?_);(simp(disch:=omega)only[push_cast,↓zz,seval,pR,pFi,hn,pRU,pFI,pWA,lWA]);(fail_if_success change False))|omega|intro _));have hrm:E1 d n=true↔((Ct d n).rules.length≤4096∧(Ct d n).finals.length≤4096)∧Pm (Ct d n)≤64:=by simp[E1,hfit]
 obtain⟨W,hW⟩:∃ W,W=fun s:Nat=>wayL d.rules n s []:=⟨_,rfl⟩;rw[←hW] at hRn hFn;have hWs:∀ s:Nat,wayL d.rules n s []=W s:=fun s=>by rw[hW]
 simp only[hWs] at aWA aWA2 hwo hWc
 refine A5 (Be (fun (s:Nat)=>s≤n∧(accL W (frR d) s).length≤4096∧(accL W (frF d) s).length≤4096) (fun s=>n-s)
   (fun s=>[(2,.ptr 0 1 0 0),(6,.lst 1 RU),(7,.lst 1 FI),(8,.ptr 1 1 0 0),(45,.lst 1 WA),(46,.int .i64 n),(47,.int .i64 s)])
   (fun s=>[⟨6,1,true,[Ri]⟩,⟨6,1,true,[.agg [.int .i64 d.in_,.int .i64 d.out,.int .i64 n,.int .i64 d.start,.ref 2 1 0 (accL W (frR d) s).length,.ref 3 1 0 (accL W (frF d) s).length]]⟩,⟨5,1,false,(accL W (frR d) s).map Ca⟩,⟨3,1,false,(accL W (frF d) s).map Bn⟩])
   (fun env H=>[Bi 6 (env 2),Bi 6 (env 8),Bi 5 (cellAt H (env 8) 4),Bi 3 (cellAt H (env 8) 5)]) 0 ⟨by simp,by simp[Wi],by simp[Wi]⟩ ?_ ?_)
 · have e0:accL W (frR d) 0=[]:=rfl
   have e1:accL W (frF d) 0=[]:=rfl;(with_reducible repeat' (first|(simp(disch:=omega)only[push_cast,↓zz,seval,pR,pFi,pRU,pFI,pWA,e0,e1])|refine And.intro ?_ ?_|(first|refine Ab ?_ ?_|refine Aa ?_ ?_)<;>intro hc<;>(try simp only[push_cast] at hc)|omega|intro _))
 rintro s ⟨hs,hsR,hsF⟩;have pAR:=A7 (accL W (frR d) s);have pAF:=A6 (accL W (frF d) s);rcases Nat.lt_or_ge s n with hsn|hsn
 · have aS:=aWA s hsn
   have aS2:=aWA2 s hsn;have hwS:=hwo s hsn;have hWl:=hWc s hsn;have pWs:Ap ((W s).map wayV)=true:=E4 Fl _;have hL1:(accL W (frR d) s).map Ca=(accL W (frR d) s).map Ca:=rfl;refine W_T ?_;(with_reducible repeat' (first|(simp(disch:=omega)only[push_cast,↓zz,seval,pRU,pFI,pWA,lWA,aS,aS2,pWs])|refine And.intro ?_ ?_|(first|refine Ab ?_ ?_|refine Aa ?_ ?_)<;>intro hc<;>(try simp only[push_cast] at hc)|omega|intro _))
   refine A5 (Be (fun (j:Nat)=>j≤(W s).length∧(accJ W (frR d) s j).length≤4096∧(accJ W (frF d) s j).length≤4096) (fun j=>(W s).length-j)
     (fun j=>[(2,.ptr 0 1 0 0),(6,.lst 1 RU),(7,.lst 1 FI),(8,.ptr 1 1 0 0),(9,.int .i64 s),(45,.lst 1 WA),(46,.int .i64 n),(47,.int .i64 s),(52,.lst 2 ((W s).map wayV)),(53,.int .i64 (W s).length),(54,.int .i64 j)])
     (fun j=>[⟨6,1,true,[Ri]⟩,⟨6,1,true,[.agg [.int .i64 d.in_,.int .i64 d.out,.int .i64 n,.int .i64 d.start,.ref 2 1 0 (accJ W (frR d) s j).length,.ref 3 1 0 (accJ W (frF d) s j).length]]⟩,⟨5,1,false,(accJ W (frR d) s j).map Ca⟩,⟨3,1,false,(accJ W (frF d) s j).map Bn⟩])
     (fun env H=>[Bi 6 (env 2),Bi 6 (env 8),Bi 5 (cellAt H (env 8) 4),Bi 3 (cellAt H (env 8) 5)]) 0 ⟨by simp,by rw[H7];exact hsR,by rw[H7];exact hsF⟩ ?_ ?_)
   · have e0:=H7 (W:=W) (g:=frR d) s
     have e1:=H7 (W:=W) (g:=frF d) s;(with_reducible repeat' (first|(simp(disch:=omega)only[push_cast,↓zz,seval,pRU,pFI,pWA,e0,e1,pAR,pAF,pWs])|refine And.intro ?_ ?_|(first|refine Ab ?_ ?_|refine Aa ?_ ?_)<;>intro hc<;>(try simp only[push_cast] at hc)|omega|intro _))
   rintro j ⟨hj,hjR,hjF⟩;have pJR:=A7 (accJ W (frR d) s j);have pJF:=A6 (accJ W (frF d) s j);rcases Nat.lt_or_ge j (W s).length with hjl|hjl
   · have aJ:((W s).map wayV).getD j .any=wayV (nth (W s) j):=by simp[nth,List.getD,hjl]
     have hwj:=hwS _ (Ba hjl);have hsR:=Wj (g:=frR d) hjl;have hsF:=Wj (g:=frF d) hjl;have hsRn:=hRn s (j+1) hsn;have hsFn:=hFn s (j+1) hsn;generalize hwe:nth (W s) j=w at *;obtain⟨w1,w2⟩:=w;obtain⟨⟨he1,he2⟩,hwl,hwp⟩:=hwj;simp only at he1 he2 hwl hwp;obtain⟨e,rfl⟩:∃ e:Nat,w1=e:=⟨w1.toNat,by omega⟩;have hen:e<n:=by omega
     have pw2:=Aq w2;have aRe:=aRU e hen;have aFe:=aFI e hen;have aRe2:=aRU2 e hen;have aFe2:=aFI2 e hen;have lRe:=hRu e;have lFe:=hFu e;rw[Rj,Int.toNat_natCast] at hsR;rw[Wm,Int.toNat_natCast] at hsF;have hRm:∀ r∈ruF d.rules e,Gu d r=true:=fun r hr=>hrules r (Yv hr);have hFm:∀ r∈fiF d.finals e,E0 d r=true:=fun r hr=>hfinals r (zac hr);generalize ruF d.rules e=LR at *;generalize fiF d.finals e=LF at *;have pLR:Ap (LR.map Ca)=true:=E4 Gz _;have pLF:Ap (LF.map Bn)=true:=E4 G0 _;generalize hAR:accJ W (frR d) s j=AR at *;generalize hAF:accJ W (frF d) s j=AF at *;unfold wayV at aJ;refine W_T ?_;(with_reducible repeat' (first|(simp(disch:=omega)only[push_cast,↓zz,seval,pRU,pFI,pWA,pWs,hwe,wayV,pw2,aRe,aRe2,pLR,lRU,lFI])|refine And.intro ?_ ?_|(first|refine Ab ?_ ?_|refine Aa ?_ ?_)<;>intro hc<;>(try simp only[push_cast] at hc)|omega|intro _));obtain⟨SR,hSR⟩:∃ SR:Nat→List Rule,SR=fun k=>AR++(LR.take k).map (G1 s ((e:Int),w2)):=⟨_,rfl⟩;have sR0:SR 0=AR:=by rw[hSR];simp
     have sRs:∀ k,k<LR.length→SR (k+1)=SR k++[G1 s ((e:Int),w2) (nth LR k)]:=fun k hk=>by rw[hSR];simp only;rw[take_at hk];simp
     have sRl:∀ k,k≤LR.length→(SR k).length=AR.length+k:=fun k hk=>by rw[hSR];simp;omega
     have sRe:SR LR.length=accJ W (frR d) s (j+1):=by rw[hSR];simp only;rw[List.take_length,←hsR]
     obtain⟨SF,hSF⟩:∃ SF:Nat→List C6,SF=fun k=>AF++(LF.take k).map (H8 s ((e:Int),w2)):=⟨_,rfl⟩;have sF0:SF 0=AF:=by rw[hSF];simp
     have sFs:∀ k,k<LF.length→SF (k+1)=SF k++[H8 s ((e:Int),w2) (nth LF k)]:=fun k hk=>by rw[hSF];simp only;rw[take_at hk];simp
     have sFl:∀ k,k≤LF.length→(SF k).length=AF.length+k:=fun k hk=>by rw[hSF];simp;omega
     have sFe:SF LF.length=accJ W (frF d) s (j+1):=by rw[hSF];simp only;rw[List.take_length,←hsF]
     clear hSR hSF
     refine A5 (Be (fun (k:Nat)=>k≤LR.length) (fun k=>LR.length-k)
       (fun k=>[(2,.ptr 0 1 0 0),(6,.lst 1 RU),(7,.lst 1 FI),(8,.ptr 1 1 0 0),(9,.int .i64 s),(12,.cptr (.agg [.int .i64 e,Bl w2])),(45,.lst 1 WA),(46,.int .i64 n),(47,.int .i64 s),(52,.lst 2 ((W s).map wayV)),(53,.int .i64 (W s).length),(54,.int .i64 j),(62,.lst 5 (LR.map Ca)),(63,.int .i64 LR.length),(64,.int .i64 k)])
       (fun k=>[⟨6,1,true,[Ri]⟩,⟨6,1,true,[.agg [.int .i64 d.in_,.int .i64 d.out,.int .i64 n,.int .i64 d.start,.ref 2 1 0 (SR k).length,.ref 3 1 0 AF.length]]⟩,⟨5,1,false,(SR k).map Ca⟩,⟨3,1,false,AF.map Bn⟩])
       (fun env H=>[Bi 6 (env 2),Bi 6 (env 8),Bi 5 (cellAt H (env 8) 4),Bi 3 (cellAt H (env 8) 5)]) 0 (by simp) ?_ ?_)
     · (with_reducible repeat' (first|(simp(disch:=omega)only[push_cast,↓zz,seval,pRU,pFI,pWA,pWs,pw2,pLR,pJR,pJF,sR0])|refine And.intro ?_ ?_|(first|refine Ab ?_ ?_|refine Aa ?_ ?_)<;>intro hc<;>(try simp only[push_cast] at hc)|omega|intro _))
     intro k hk;have hlk:=sRl k hk;have pK:=A7 (SR k);rcases Nat.lt_or_ge k LR.length with hkl|hkl
     · have hr:=hRm _ (Ba hkl)
       have e1:=sRs k hkl;have hlk1:=sRl (k+1) hkl;have pK1:=A7 (SR (k+1));generalize hre:nth LR k=r at *;obtain⟨o1,o2,o3,o4⟩:=E5 hr;have hgr:=Ag r.guards;have hot:=Aq r.out;have hG:=Rf r.guards (by omega) (fun g hg=>by have:=o4 g hg;omega)
       have hB:=Rh ((e:Int),w2) r.out (by simp only;omega) (fun t ht=>by
         rcases List.mem_append.1 ht with h|h
         · have:=hwp t h;omega
         · have:=o2 t h;omega)
       unfold wayV at hB;simp only at hB;have pB:=Aq (w2++r.out);have eM:(SR (k+1)).map Ca=(SR k).map Ca++[.agg [.int .i64 s,.int .i64 r.to_,Al r.guards,.int .i64 r.eat,Bl (w2++r.out)]]:=by rw[e1,List.map_append];rfl
       generalize w2++r.out=TL at *;have pTO:Ap (TL.map B0)=true:=pB;refine W_T ?_;(with_reducible repeat' (first|(simp(disch:=omega)only[push_cast,↓zz,seval,pRU,pFI,pWA,pWs,pw2,pLR,pJF,hre,hgr,hot,hlk,pK,pTO])|refine And.intro ?_ ?_|(first|refine Ab ?_ ?_|refine Aa ?_ ?_)<;>intro hc<;>(try simp only[push_cast] at hc)|refine eK hG ?_|refine eQ hG ?_|refine eG hG ?_|refine eK hB ?_|refine eQ hB ?_|refine eG hB ?_|((first|refine cK hG ?_|refine cQ hG ?_|refine cG hG ?_|refine cK hB ?_|refine cQ hB ?_|refine cG hB ?_);(simp(disch:=omega)only[push_cast,↓zz,seval,pRU,pFI,pWA,pWs,pw2,pLR,pJF,hre,hgr,hot,hlk,pK,pTO]);(fail_if_success change False))|omega|intro _))
       all_goals
         refine⟨k+1,?_⟩;(with_reducible repeat' (first|(simp(disch:=omega)only[push_cast,↓zz,seval,eM,hlk1,pRU,pFI,pWA,pWs,pw2,pLR,pJF,pK,hgr,pTO])|refine And.intro ?_ ?_|(first|refine Ab ?_ ?_|refine Aa ?_ ?_)<;>intro hc<;>(try simp only[push_cast] at hc)|omega|intro _))
     · obtain rfl:k=LR.length:=by omega
       rw[sRe] at hlk pK ⊢;refine W_T ?_;(with_reducible repeat' (first|(simp(disch:=omega)only[push_cast,↓zz,seval,pRU,pFI,pWA,pWs,pw2,aFe,aFe2,pLF,lFI])|refine And.intro ?_ ?_|(first|refine Ab ?_ ?_|refine Aa ?_ ?_)<;>intro hc<;>(try simp only[push_cast] at hc)|omega|intro _));generalize hAR1:accJ W (frR d) s (j+1)=AR1 at *
       refine A5 (Be (fun (k:Nat)=>k≤LF.length) (fun k=>LF.length-k)
         (fun k=>[(2,.ptr 0 1 0 0),(6,.lst 1 RU),(7,.lst 1 FI),(8,.ptr 1 1 0 0),(9,.int .i64 s),(12,.cptr (.agg [.int .i64 e,Bl w2])),(45,.lst 1 WA),(46,.int .i64 n),(47,.int .i64 s),(52,.lst 2 ((W s).map wayV)),(53,.int .i64 (W s).length),(54,.int .i64 j),(91,.lst 3 (LF.map Bn)),(92,.int .i64 LF.length),(93,.int .i64 k)])
         (fun k=>[⟨6,1,true,[Ri]⟩,⟨6,1,true,[.agg [.int .i64 d.in_,.int .i64 d.out,.int .i64 n,.int .i64 d.start,.ref 2 1 0 AR1.length,.ref 3 1 0 (SF k).length]]⟩,⟨5,1,false,AR1.map Ca⟩,⟨3,1,false,(SF k).map Bn⟩])
         (fun env H=>[Bi 6 (env 2),Bi 6 (env 8),Bi 5 (cellAt H (env 8) 4),Bi 3 (cellAt H (env 8) 5)]) 0 (by simp) ?_ ?_)
       · (with_reducible repeat' (first|(simp(disch:=omega)only[push_cast,↓zz,seval,pRU,pFI,pWA,pWs,pw2,pLF,pK,pJF,sF0])|refine And.intro ?_ ?_|(first|refine Ab ?_ ?_|refine Aa ?_ ?_)<;>intro hc<;>(try simp only[push_cast] at hc)|omega|intro _))
       intro k hk;have hlkF:=sFl k hk;have pKF:=A6 (SF k);rcases Nat.lt_or_ge k LF.length with hkl|hkl
       · have hr:=hFm _ (Ba hkl)
         have e1:=sFs k hkl;have hlk1:=sFl (k+1) hkl;have pK1:=A6 (SF (k+1));generalize hre:nth LF k=r at *;obtain⟨o1,o2,o3,o4⟩:=Ko hr;have hgr:=Ag r.guards;have hot:=Aq r.out;have hG:=Rf r.guards (by omega) (fun g hg=>by have:=o4 g hg;omega)
         have hB:=Rh ((e:Int),w2) r.out (by simp only;omega) (fun t ht=>by
           rcases List.mem_append.1 ht with h|h
           · have:=hwp t h;omega
           · have:=o2 t h;omega)
         unfold wayV at hB;simp only at hB;have pB:=Aq (w2++r.out);have eM:(SF (k+1)).map Bn=(SF k).map Bn++[.agg [.int .i64 s,Al r.guards,Bl (w2++r.out)]]:=by rw[e1,List.map_append];rfl
         generalize w2++r.out=TL at *;have pTO:Ap (TL.map B0)=true:=pB;refine W_T ?_;(with_reducible repeat' (first|(simp(disch:=omega)only[push_cast,↓zz,seval,pRU,pFI,pWA,pWs,pw2,pLF,pK,hre,hgr,hot,hlkF,pKF,pTO])|refine And.intro ?_ ?_|(first|refine Ab ?_ ?_|refine Aa ?_ ?_)<;>intro hc<;>(try simp only[push_cast] at hc)|refine eK hG ?_|refine eQ hG ?_|refine eG hG ?_|refine eK hB ?_|refine eQ hB ?_|refine eG hB ?_|((first|refine cK hG ?_|refine cQ hG ?_|refine cG hG ?_|refine cK hB ?_|refine cQ hB ?_|refine cG hB ?_);(simp(disch:=omega)only[push_cast,↓zz,seval,pRU,pFI,pWA,pWs,pw2,pLF,pK,hre,hgr,hot,hlkF,pKF,pTO]);(fail_if_success change False))|omega|intro _))
         all_goals
           refine⟨k+1,?_⟩;(with_reducible repeat' (first|(simp(disch:=omega)only[push_cast,↓zz,seval,eM,hlk1,pRU,pFI,pWA,pWs,pw2,pLF,pK,pKF,hgr,pTO])|refine And.intro ?_ ?_|(first|refine Ab ?_ ?_|refine Aa ?_ ?_)<;>intro hc<;>(try simp only[push_cast] at hc)|omega|intro _))
       · obtain rfl:k=LF.length:=by omega
         rw[sFe] at hlkF pKF ⊢;refine W_T ?_;by_cases hbig:AR1.length≤4096∧(accJ W (frF d) s (j+1)).length≤4096
         · generalize hAF1:accJ W (frF d) s (j+1)=AF1 at *
           (with_reducible repeat' (first|(simp(disch:=omega)only[push_cast,↓zz,seval,pRU,pFI,pWA,pWs,pw2,pK,pKF])|refine And.intro ?_ ?_|(first|refine Ab ?_ ?_|refine Aa ?_ ?_)<;>intro hc<;>(try simp only[push_cast] at hc)|omega|intro _))
           all_goals
             refine⟨j+1,?_⟩;(with_reducible repeat' (first|(simp(disch:=omega)only[push_cast,↓zz,seval,pRU,pFI,pWA,pWs,pw2,pK,pKF,hAR1,hAF1])|refine And.intro ?_ ?_|(first|refine Ab ?_ ?_|refine Aa ?_ ?_)<;>intro hc<;>(try simp only[push_cast] at hc)|omega|intro _))
         · have:¬E1 d n=true:=by rw[hrm];omega
           rw[if_neg this];generalize hAF1:accJ W (frF d) s (j+1)=AF1 at *;(with_reducible repeat' (first|(simp(disch:=omega)only[push_cast,↓zz,seval,pRU,pFI,pWA,pWs,pw2,pK,pKF])|refine And.intro ?_ ?_|(first|refine Ab ?_ ?_|refine Aa ?_ ?_)<;>intro hc<;>(try simp only[push_cast] at hc)|omega|intro _))
   · obtain rfl:j=(W s).length:=by omega
     have sR1:=O7 (W:=W) (g:=frR d) s;have sF1:=O7 (W:=W) (g:=frF d) s;rw[←sR1] at hjR pJR ⊢;rw[←sF1] at hjF pJF ⊢;refine W_T ?_;(with_reducible repeat' (first|(simp(disch:=omega)only[push_cast,↓zz,seval,pRU,pFI,pWA,pWs,pJR,pJF])|refine And.intro ?_ ?_|(first|refine Ab ?_ ?_|refine Aa ?_ ?_)<;>intro hc<;>(try simp only[push_cast] at hc)|omega|intro _))
     all_goals
       refine⟨s+1,?_⟩;(with_reducible repeat' (first|(simp(disch:=omega)only[push_cast,↓zz,seval,pRU,pFI,pWA,pWs,pJR,pJF])|refine And.intro ?_ ?_|(first|refine Ab ?_ ?_|refine Aa ?_ ?_)<;>intro hc<;>(try simp only[push_cast] at hc)|omega|intro _))
 · obtain rfl:s=n:=by omega
   refine W_T ?_;have hfd:Ct d s=⟨d.in_,d.out,d.states,d.start,accL W (frR d) s,accL W (frF d) s⟩:=by rw[Ct,hW]
   have hlen:PC Try.prog 17 [Cp (Ct d s)] (.int .i64 (Pm (Ct d s))):=by
     rw[hfd];refine V6 _ (by simp only;omega) (by simp only;omega) fun r hr=>?_;obtain⟨i,hi,w,hw1,hr1⟩:=Kp hr;have hwk:=hwo i hi w hw1;rw[Rj] at hr1;obtain⟨r0,hr0,rfl⟩:=List.mem_map.1 hr1;obtain⟨o1,o2,o3,o4⟩:=E5 (hrules r0 (Yv hr0));have:=hwk.l;simp only[G1,List.length_append];omega
   rw[hfd,hn] at hlen hrm;simp only at hrm;generalize hLV:Pm ⟨d.in_,d.out,(s:Int),d.start,accL W (frR d) s,accL W (frF d) s⟩=LV at *;have hdV:Cp (Ct d s)=Cp ⟨d.in_,d.out,(s:Int),d.start,accL W (frR d) s,accL W (frF d) s⟩:=by rw[hfd,hn]
   rw[hdV];by_cases h64:64<LV
   · rw[if_neg (by rw[hrm];omega)]
     (with_reducible repeat' (first|(simp(disch:=omega)only[push_cast,↓zz,seval,pRU,pFI,pWA,lWA,pAR,pAF])|refine And.intro ?_ ?_|(first|refine Ab ?_ ?_|refine Aa ?_ ?_)<;>intro hc<;>(try simp only[push_cast] at hc)|refine eK hlen ?_|refine eQ hlen ?_|refine eG hlen ?_|((first|refine cK hlen ?_|refine cQ hlen ?_|refine cG hlen ?_);(simp(disch:=omega)only[push_cast,↓zz,seval,pRU,pFI,pWA,lWA,pAR,pAF]);(fail_if_success change False))|omega|intro _))
   · rw[if_pos (by rw[hrm];omega)]
     (with_reducible repeat' (first|(simp(disch:=omega)only[push_cast,↓zz,seval,pRU,pFI,pWA,lWA,pAR,pAF])|refine And.intro ?_ ?_|(first|refine Ab ?_ ?_|refine Aa ?_ ?_)<;>intro hc<;>(try simp only[push_cast] at hc)|refine eK hlen ?_|refine eQ hlen ?_|refine eG hlen ?_|((first|refine cK hlen ?_|refine cQ hlen ?_|refine cG hlen ?_);(simp(disch:=omega)only[push_cast,↓zz,seval,pRU,pFI,pWA,lWA,pAR,pAF]);(fail_if_success change False))|omega|intro _))
     all_goals trace_state
end Go.Proofs.Ytbcjoeadpjfcfaa
namespace Go.Proofs.Ytbcjoeadpjfcfaa
open Abs
structure GOk (i:Int) (gs:List (List Span)):Prop where
 len:gs.length≤4
 short:∀ g∈gs,g.length≤64
 some:∀ g∈gs,∃ v,memL g v
 dom:∀ g∈gs,∀ v,memL g v→Ym i v=true
theorem Rk:∀ {l:List Int} {a b:Int},Dy l→(∀ x∈l,a≤x∧x≤b)→a≤b+1→(l.length:Int)≤b-a+1
 | [],a,b,_,_,h=>by simp;omega
 | x::l,a,b,hr,hm,h=>by
   obtain⟨r1,r2⟩:=List.pairwise_cons.1 hr;have hx:=hm x (by simp);have:=Rk (a:=x+1) (b:=b) r2 (fun y hy=>by have:=r1 y hy;have:=hm y (by simp[hy]);omega) (by omega)
   push_cast [List.length_cons]
   omega
structure zoe (now:List Int):Prop where
 ris:Dy now
 bd:∀ x∈now,-1114111≤x∧x≤1114111
 pos:0<now.length
theorem zoe.len {now:List Int} (h:zoe now):now.length≤2228223:=by
 have:=Rk h.ris h.bd (by omega);omega
end Go.Proofs.Ytbcjoeadpjfcfaa
namespace Go.Proofs.Ytbcjoeadpjfcfaa
open Abs
structure TOk (t:Term) (i:Int) (gs:List (List Span)):Prop where
 parts:∀ p∈t.parts,Dx p gs.length=true
 four:t.parts.length≤4
 sm:-1114111≤t.sum∧t.sum≤1114111
 sort:i=1∨(i=2∧t.parts.length≤1∧∀ p∈t.parts,Hq p=true)
theorem TOk.bits {t:Term} {i:Int} {gs:List (List Span)} (h:TOk t i gs):∀ p∈t.parts,Ej p=true:=fun p hp=>by
 have:=h.parts p hp;simp only[Dx,Bool.and_eq_true] at this;exact this.2
theorem TOk.at {t:Term} {i:Int} {gs:List (List Span)} (h:TOk t i gs):∀ p∈t.parts,0≤p.at_∧p.at_<gs.length:=fun p hp=>Ai (h.parts p hp)
end Go.Proofs.Ytbcjoeadpjfcfaa
namespace Go.Proofs.Ytbcjoeadpjfcfaa
open Abs
def sumT {α:Type} (f:α→Int) (l:List α):Int:=(l.map f).sum
theorem Tl {α:Type} [Inhabited α] {f:α→Int} {l:List α} {k:Nat} (h:k<l.length):sumT f (l.take (k+1))=sumT f (l.take k)+f (nth l k):=by rw[take_at h];simp[sumT]
theorem Ey {α:Type} {f:α→Int} {B:Int} (hf:∀ x,0≤f x∧f x≤B):∀ l:List α,0≤sumT f l∧sumT f l≤l.length * B
 | []=>by simp[sumT]
 | x::l=>by
   have h1:=Ey hf l;have h2:=hf x;have e:sumT f (x::l)=f x+sumT f l:=by simp[sumT]
   have e2:((x::l).length:Int) * B=l.length * B+B:=by push_cast [List.length_cons];rw[Int.add_mul,Int.one_mul]
   omega
theorem Iy {α:Type} {f:α→Int} (hf:∀ x,0≤f x):∀ {l:List α} {x:α},x∈l→f x≤sumT f l
 | y::l,x,h=>by
   have e:sumT f (y::l)=f y+sumT f l:=by simp[sumT]
   have hn:∀ m:List α,0≤sumT f m:=fun m=>by
     induction m with
     | nil=>simp[sumT]
     | cons z m ih =>
       have e:sumT f (z::m)=f z+sumT f m:=by simp[sumT]
       have:=hf z;omega
   have h1:=hf y;have h2:=hn l;rcases List.mem_cons.1 h with rfl|h
   · omega
   · have:=Iy hf h
     omega
def szG (g:List Span):Int:=min (g.length:Int) 4000
def szT (t:Term):Int:=1+min (t.parts.length:Int) 4000
theorem z2b (g:List Span):0≤szG g∧szG g≤4000:=by unfold szG;omega
theorem z2c (t:Term):0≤szT t∧szT t≤4001:=by unfold szT;omega
def He (gs:List (List Span)) (out:List Term):Int:=if 100<gs.length∨200<out.length then 4000 else 1+sumT szG gs+sumT szT out
theorem Rl (gs:List (List Span)) (out:List Term):PC Try.prog 9 [Al gs,Bl out] (.int .i64 (He gs out)):=by
 have hP:=Ag gs;have hT:=Aq out;refine Bf Uq ?_;unfold Lg;by_cases hb:100<gs.length∨200<out.length
 · rw[He,if_pos hb]
   (with_reducible repeat' (first|(simp(disch:=omega)only[push_cast,↓zz,seval,hP,hT])|refine And.intro ?_ ?_|(first|refine Ab ?_ ?_|refine Aa ?_ ?_)<;>intro hc<;>(try simp only[push_cast] at hc)|omega|intro _))
 rw[He,if_neg hb];(with_reducible repeat' (first|(simp(disch:=omega)only[push_cast,↓zz,seval,hP,hT])|refine And.intro ?_ ?_|(first|refine Ab ?_ ?_|refine Aa ?_ ?_)<;>intro hc<;>(try simp only[push_cast] at hc)|omega|intro _))
 refine A5 (Be (fun (k:Nat)=>k≤gs.length) (fun k=>gs.length-k)
   (fun k=>[(0,Al gs),(1,Bl out),(5,.int .i64 (1+sumT szG (gs.take k))),(6,.int .i64 k)]) (fun k=>[]) (fun _ _=>[]) 0 (by simp) ?_ ?_)
 · have e0:sumT szG ([]:List (List Span))=0:=rfl
   (with_reducible repeat' (first|(simp(disch:=omega)only[push_cast,↓zz,seval,hP,hT,e0])|refine And.intro ?_ ?_|(first|refine Ab ?_ ?_|refine Aa ?_ ?_)<;>intro hc<;>(try simp only[push_cast] at hc)|omega|intro _))
 intro k hk;have hb1:=Ey z2b (gs.take k);have hb2:((gs.take k).length:Int) * 4000≤100 * 4000:=Int.mul_le_mul_of_nonneg_right (by simp;omega) (by omega);rcases Nat.lt_or_ge k gs.length with hkl|hkl
 · have hst:=Tl (f:=szG) hkl
   have hx:=z2b (nth gs k);have hsz:min ((nth gs k).length:Int) 4000=szG (nth gs k):=rfl;generalize hge:nth gs k=g at *;generalize sumT szG (gs.take k)=n at *;have hw:IntKind.i64.wrap (1+n+szG g)=1+n+szG g:=IntWalk.i64_in _ (by omega);refine W_T ?_;(with_reducible repeat' (first|(simp(disch:=omega)only[push_cast,↓zz,seval,hP,hT,hge,hsz,hw])|refine And.intro ?_ ?_|(first|refine Ab ?_ ?_|refine Aa ?_ ?_)<;>intro hc<;>(try simp only[push_cast] at hc)|omega|intro _))
   all_goals
     refine⟨k+1,?_⟩;(with_reducible repeat' (first|(simp(disch:=omega)only[push_cast,↓zz,seval,hst])|refine And.intro ?_ ?_|(first|refine Ab ?_ ?_|refine Aa ?_ ?_)<;>intro hc<;>(try simp only[push_cast] at hc)|omega|intro _))
   all_goals first
     | omega
     | trace_state
 · have hkt:gs.take k=gs:=List.take_of_length_le hkl
   rw[hkt] at hb1 hb2 ⊢;generalize sumT szG gs=n at *;refine W_T ?_;(with_reducible repeat' (first|(simp(disch:=omega)only[push_cast,↓zz,seval,hP,hT])|refine And.intro ?_ ?_|(first|refine Ab ?_ ?_|refine Aa ?_ ?_)<;>intro hc<;>(try simp only[push_cast] at hc)|omega|intro _))
   refine A5 (Be (fun (k:Nat)=>k≤out.length) (fun k=>out.length-k)
     (fun k=>[(1,Bl out),(5,.int .i64 (1+n+sumT szT (out.take k))),(7,.int .i64 k)]) (fun k=>[]) (fun _ _=>[]) 0 (by simp) ?_ ?_)
   · have e0:sumT szT ([]:List Term)=0:=rfl
     (with_reducible repeat' (first|(simp(disch:=omega)only[push_cast,↓zz,seval,hP,hT,e0,Int.add_zero])|refine And.intro ?_ ?_|(first|refine Ab ?_ ?_|refine Aa ?_ ?_)<;>intro hc<;>(try simp only[push_cast] at hc)|omega|intro _))
   intro j hj;have hb3:=Ey z2c (out.take j);have hb4:((out.take j).length:Int) * 4001≤200 * 4001:=Int.mul_le_mul_of_nonneg_right (by simp;omega) (by omega);rcases Nat.lt_or_ge j out.length with hjl|hjl
   · have hst:=Tl (f:=szT) hjl
     have hx:=z2c (nth out j);have hsz:szT (nth out j)=1+min ((nth out j).parts.length:Int) 4000:=rfl;generalize hge:nth out j=t at *;generalize sumT szT (out.take j)=m at *;generalize hze:min (t.parts.length:Int) 4000=z at *;have hw:IntKind.i64.wrap (1+n+m+1)=1+n+m+1:=IntWalk.i64_in _ (by omega);have hw2:IntKind.i64.wrap (1+n+m+1+z)=1+n+m+1+z:=IntWalk.i64_in _ (by omega);refine W_T ?_;(with_reducible repeat' (first|(simp(disch:=omega)only[push_cast,↓zz,seval,hP,hT,hge,hze,hw,hw2])|refine And.intro ?_ ?_|(first|refine Ab ?_ ?_|refine Aa ?_ ?_)<;>intro hc<;>(try simp only[push_cast] at hc)|omega|intro _))
     all_goals
       refine⟨j+1,?_⟩;(with_reducible repeat' (first|(simp(disch:=omega)only[push_cast,↓zz,seval,hst])|refine And.intro ?_ ?_|(first|refine Ab ?_ ?_|refine Aa ?_ ?_)<;>intro hc<;>(try simp only[push_cast] at hc)|omega|intro _))
     all_goals first
       | omega
       | trace_state
   · have hjt:out.take j=out:=List.take_of_length_le hjl
     rw[hjt];refine W_T ?_;(with_reducible repeat' (first|(simp(disch:=omega)only[push_cast,↓zz,seval,hP,hT])|refine And.intro ?_ ?_|(first|refine Ab ?_ ?_|refine Aa ?_ ?_)<;>intro hc<;>(try simp only[push_cast] at hc)|omega|intro _))
     all_goals trace_state
theorem Lc (gs:List (List Span)) (out:List Term):0≤He gs out∧He gs out≤2000000:=by
 unfold He;have h1:=Ey z2b gs;have h2:=Ey z2c out;split
 · omega
 · omega
def szR (r:Rule):Int:=He r.guards r.out
def szF (f:C6):Int:=He f.guards f.out
def L6 (d:Desc):Bool:=decide (d.rules.length≤80∧d.finals.length≤80)&&decide (sumT szR d.rules+sumT szF d.finals≤1500)
theorem Yw (d:Desc):PC Try.prog 4 [Cp d] (.bool (L6 d)):=by
 have hPr:=A7 d.rules;have hPf:=A6 d.finals;have sR:∀ r,0≤szR r∧szR r≤2000000:=fun r=>Lc _ _;have sF:∀ f,0≤szF f∧szF f≤2000000:=fun r=>Lc _ _;refine Bf R7 ?_;unfold J5;by_cases hb:d.rules.length≤80∧d.finals.length≤80
 · rw[L6,decide_eq_true hb,Bool.true_and]
   (with_reducible repeat' (first|(simp(disch:=omega)only[push_cast,↓zz,seval])|refine And.intro ?_ ?_|(first|refine Ab ?_ ?_|refine Aa ?_ ?_)<;>intro hc<;>(try simp only[push_cast] at hc)|omega|intro _))
   refine A5 (Be (fun (k:Nat)=>k≤d.rules.length) (fun k=>d.rules.length-k)
     (fun k=>[(1,.ptr 0 1 0 0),(3,.int .i64 (sumT szR (d.rules.take k))),(4,.int .i64 k)]) (fun k=>[⟨6,1,true,[Cp d]⟩]) (fun env _=>[Bi 1 (env 1)]) 0 (by simp) ?_ ?_)
   · have e0:sumT szR ([]:List Rule)=0:=rfl
     (with_reducible repeat' (first|(simp(disch:=omega)only[push_cast,↓zz,seval,hPr,hPf,e0])|refine And.intro ?_ ?_|(first|refine Ab ?_ ?_|refine Aa ?_ ?_)<;>intro hc<;>(try simp only[push_cast] at hc)|omega|intro _))
   intro k hk;have hb1:=Ey sR (d.rules.take k);have hb2:((d.rules.take k).length:Int) * 2000000≤80 * 2000000:=Int.mul_le_mul_of_nonneg_right (by simp;omega) (by omega);rcases Nat.lt_or_ge k d.rules.length with hkl|hkl
   · have hst:=Tl (f:=szR) hkl
     have hx:=sR (nth d.rules k);have hS:=Rl (nth d.rules k).guards (nth d.rules k).out;have hsz:He (nth d.rules k).guards (nth d.rules k).out=szR (nth d.rules k):=rfl;rw[hsz] at hS;generalize hge:nth d.rules k=r at *;generalize sumT szR (d.rules.take k)=n at *;have hw:IntKind.i64.wrap (n+szR r)=n+szR r:=IntWalk.i64_in _ (by omega);have hpg:=Ag r.guards;have hpt:=Aq r.out;refine W_T ?_;(with_reducible repeat' (first|(simp(disch:=omega)only[push_cast,↓zz,seval,hPr,hPf,hge,hw,hpg,hpt])|refine And.intro ?_ ?_|(first|refine Ab ?_ ?_|refine Aa ?_ ?_)<;>intro hc<;>(try simp only[push_cast] at hc)|refine eK hS ?_|refine eQ hS ?_|refine eG hS ?_|((first|refine cK hS ?_|refine cQ hS ?_|refine cG hS ?_);(simp(disch:=omega)only[push_cast,↓zz,seval,hPr,hPf,hge,hw,hpg,hpt]);(fail_if_success change False))|omega|intro _))
     all_goals
       refine⟨k+1,?_⟩;(with_reducible repeat' (first|(simp(disch:=omega)only[push_cast,↓zz,seval,hst])|refine And.intro ?_ ?_|(first|refine Ab ?_ ?_|refine Aa ?_ ?_)<;>intro hc<;>(try simp only[push_cast] at hc)|omega|intro _))
   · have hkt:d.rules.take k=d.rules:=List.take_of_length_le hkl
     rw[hkt] at hb1 hb2 ⊢;generalize sumT szR d.rules=n at *;refine W_T ?_;(with_reducible repeat' (first|(simp(disch:=omega)only[push_cast,↓zz,seval,hPr,hPf])|refine And.intro ?_ ?_|(first|refine Ab ?_ ?_|refine Aa ?_ ?_)<;>intro hc<;>(try simp only[push_cast] at hc)|omega|intro _))
     refine A5 (Be (fun (k:Nat)=>k≤d.finals.length) (fun k=>d.finals.length-k)
       (fun k=>[(1,.ptr 0 1 0 0),(3,.int .i64 (n+sumT szF (d.finals.take k))),(5,.int .i64 k)]) (fun k=>[⟨6,1,true,[Cp d]⟩]) (fun env _=>[Bi 1 (env 1)]) 0 (by simp) ?_ ?_)
     · have e0:sumT szF ([]:List C6)=0:=rfl
       (with_reducible repeat' (first|(simp(disch:=omega)only[push_cast,↓zz,seval,hPr,hPf,e0,Int.add_zero])|refine And.intro ?_ ?_|(first|refine Ab ?_ ?_|refine Aa ?_ ?_)<;>intro hc<;>(try simp only[push_cast] at hc)|omega|intro _))
     intro j hj;have hb3:=Ey sF (d.finals.take j);have hb4:((d.finals.take j).length:Int) * 2000000≤80 * 2000000:=Int.mul_le_mul_of_nonneg_right (by simp;omega) (by omega);rcases Nat.lt_or_ge j d.finals.length with hjl|hjl
     · have hst:=Tl (f:=szF) hjl
       have hx:=sF (nth d.finals j);have hS:=Rl (nth d.finals j).guards (nth d.finals j).out;have hsz:He (nth d.finals j).guards (nth d.finals j).out=szF (nth d.finals j):=rfl;rw[hsz] at hS;generalize hge:nth d.finals j=f at *;generalize sumT szF (d.finals.take j)=m at *;have hw:IntKind.i64.wrap (n+m+szF f)=n+m+szF f:=IntWalk.i64_in _ (by omega);have hpg:=Ag f.guards;have hpt:=Aq f.out;refine W_T ?_;(with_reducible repeat' (first|(simp(disch:=omega)only[push_cast,↓zz,seval,hPr,hPf,hge,hw,hpg,hpt])|refine And.intro ?_ ?_|(first|refine Ab ?_ ?_|refine Aa ?_ ?_)<;>intro hc<;>(try simp only[push_cast] at hc)|refine eK hS ?_|refine eQ hS ?_|refine eG hS ?_|((first|refine cK hS ?_|refine cQ hS ?_|refine cG hS ?_);(simp(disch:=omega)only[push_cast,↓zz,seval,hPr,hPf,hge,hw,hpg,hpt]);(fail_if_success change False))|omega|intro _))
       all_goals
         refine⟨j+1,?_⟩;(with_reducible repeat' (first|(simp(disch:=omega)only[push_cast,↓zz,seval,hst])|refine And.intro ?_ ?_|(first|refine Ab ?_ ?_|refine Aa ?_ ?_)<;>intro hc<;>(try simp only[push_cast] at hc)|omega|intro _))
       all_goals first
         | omega
         | trace_state
     · have hjt:d.finals.take j=d.finals:=List.take_of_length_le hjl
       rw[hjt];refine W_T ?_;(with_reducible repeat' (first|(simp(disch:=omega)only[push_cast,↓zz,seval,hPr,hPf])|refine And.intro ?_ ?_|(first|refine Ab ?_ ?_|refine Aa ?_ ?_)<;>intro hc<;>(try simp only[push_cast] at hc)|omega|intro _))
 · rw[L6,decide_eq_false hb,Bool.false_and]
   (with_reducible repeat' (first|(simp(disch:=omega)only[push_cast,↓zz,seval])|refine And.intro ?_ ?_|(first|refine Ab ?_ ?_|refine Aa ?_ ?_)<;>intro hc<;>(try simp only[push_cast] at hc)|omega|intro _))
   all_goals trace_state
theorem Rm {gs:List (List Span)} {out:List Term} (h:He gs out≤1500):∀ t∈out,t.parts.length<4000:=by
 unfold He at h;split at h
 · omega
 · intro t ht
   have h1:=Iy (fun t=>(z2c t).1) ht;have h2:=(Ey z2b gs).1;have h3:szT t=1+min (t.parts.length:Int) 4000:=rfl;omega
theorem zad {d:Desc} (h:L6 d=true):Fi d:=by
 simp only[L6,Bool.and_eq_true,decide_eq_true_eq] at h;have sR:∀ r,0≤szR r∧szR r≤2000000:=fun r=>Lc _ _;have sF:∀ f,0≤szF f∧szF f≤2000000:=fun r=>Lc _ _;have a1:=(Ey sR d.rules).1;have a2:=(Ey sF d.finals).1;refine⟨fun r hr t ht=>?_,fun f hf t ht=>?_⟩
 · have h1:=Iy (fun r=>(sR r).1) hr
   have h2:szR r=He r.guards r.out:=rfl;have:=Rm (gs:=r.guards) (out:=r.out) (by omega) t ht;omega
 · have h1:=Iy (fun r=>(sF r).1) hf
   have h2:szF f=He f.guards f.out:=rfl;have:=Rm (gs:=f.guards) (out:=f.out) (by omega) t ht;omega
structure zae (d:Desc):Prop where
 fin:Fi d
 rg:∀ r∈d.rules,r.guards.length≤9223372036854775807
 fg:∀ f∈d.finals,f.guards.length≤9223372036854775807
structure Hold (p:Prop):Prop where
 get:p
end Go.Proofs.Ytbcjoeadpjfcfaa
set_option maxRecDepth 100000
namespace Go.Proofs.Ytbcjoeadpjfcfaa
open Abs
abbrev pathV (p:List Nat):AV:=.lst 1 (p.map e1)
def resV:Option (List Nat)→AV
 | some x=>pathV x
 | none=>.nilS
end Go.Proofs.Ytbcjoeadpjfcfaa
set_option maxRecDepth 100000
namespace Go.Proofs.Ytbcjoeadpjfcfaa
open Abs
theorem z2d (B:Int):∀ (l:List Rule) (a:Int),l.foldl lonF a≤B↔a≤B∧∀ r∈l,(r.out.length:Int)≤B
 | [],a=>by simp
 | r::l,a=>by
   rw[List.foldl_cons,z2d B l];rw[show lonF a r≤B↔a≤B∧(r.out.length:Int)≤B by simp only[lonF];omega,and_assoc];simp only[List.mem_cons,forall_eq_or_imp]
theorem z2e (B:Int):∀ (l:List C6) (a:Int),l.foldl lonG a≤B↔a≤B∧∀ r∈l,(r.out.length:Int)≤B
 | [],a=>by simp
 | r::l,a=>by
   rw[List.foldl_cons,z2e B l];rw[show lonG a r≤B↔a≤B∧(r.out.length:Int)≤B by simp only[lonG];omega,and_assoc];simp only[List.mem_cons,forall_eq_or_imp]
def Few (R:List Rule) (F:List C6):Prop:=(∀ r∈R,(r.out.length:Int)≤64)∧∀ r∈F,(r.out.length:Int)≤64
theorem zf0 (d:Desc):Pm d≤64↔Few d.rules d.finals:=by
 rw[Pm,z2e,z2d,Few];constructor
 · exact fun h=>⟨h.1.2,h.2⟩
 · exact fun h=>⟨⟨by omega,h.1⟩,h.2⟩
theorem zaf {s x:Int} (h:memL (domL s) x):Fh s [[⟨x,x⟩]]=true:=by
 have hb:=(zem s).2 x h
 have hm:Hu [⟨x,x⟩] (domL s)=[]:=(Oz (fun v hv=>by obtain⟨t,ht,h1,h2⟩:=hv;simp only[List.mem_singleton] at ht;subst ht;simp only at h1 h2;omega) (fun t ht=>by simp only[List.mem_singleton] at ht;subst ht;simp)).2 fun v hv=>by
   obtain⟨t,ht,h1,h2⟩:=hv;simp only[List.mem_singleton] at ht;subst ht;simp only at h1 h2;have:v=x:=by omega
   rw[this];exact h
 have hc:Oq (-1073741826) [⟨x,x⟩]=true:=by simp[Oq];omega
 simp[Fh,Q3,hm,z0z,hc]
theorem Gh {α:Type} [DecidableEq α] [Inhabited α] {l m:List α} {k:Nat} (h1:k<l.length) (h2:k<m.length):decide (l.drop k=m.drop k)=(decide (nth l k=nth m k)&&decide (l.drop (k+1)=m.drop (k+1))):=by
 rw[drop_at h1,drop_at h2];simp
theorem Je (a b:List (List Span)) (hl:a.length≤1000000000000) (ha:∀ l∈a,l.length≤1000000000000):PC Try.prog 19 [Al a,Al b] (.bool (decide (a=b))):=by
 refine Bf Me ?_;unfold G9;(with_reducible repeat' (first|(simp(disch:=omega)only[push_cast,↓zz,seval])|refine And.intro ?_ ?_|(first|refine Ab ?_ ?_|refine Aa ?_ ?_)<;>intro hc<;>(try simp only[push_cast] at hc)|omega|intro _))
 · have:a≠b:=by intro h;subst h;first|omega|simp_all
   simp[this]
 refine A5 (Be (fun (k:Nat)=>k≤a.length∧decide (a=b)=decide (a.drop k=b.drop k)) (fun k=>a.length-k)
   (fun k=>[(0,Al a),(1,Al b),(5,.int .i64 k)]) (fun _=>[]) (fun _ _=>[]) 0 (by simp) ?_ ?_)
 · (with_reducible repeat' (first|(simp(disch:=omega)only[push_cast,↓zz,seval])|refine And.intro ?_ ?_|(first|refine Ab ?_ ?_|refine Aa ?_ ?_)<;>intro hc<;>(try simp only[push_cast] at hc)|omega|intro _))
 rintro k ⟨hk,hr⟩;refine W_T ?_;(with_reducible repeat' (first|(simp(disch:=omega)only[push_cast,↓zz,seval])|refine And.intro ?_ ?_|(first|refine Ab ?_ ?_|refine Aa ?_ ?_)<;>intro hc<;>(try simp only[push_cast] at hc)|(have q_:=Q0 (nth a k) (nth b k) (ha _ (Ba (by omega)));(first|refine eK q_ ?_|refine eQ q_ ?_|refine eG q_ ?_);clear q_)|(have q_:=Q0 (nth a k) (nth b k) (ha _ (Ba (by omega)));(first|refine cK q_ ?_|refine cQ q_ ?_|refine cG q_ ?_);clear q_;(simp(disch:=omega)only[push_cast,↓zz,seval]);(fail_if_success change False))|omega|intro _))
 all_goals first
   | (rw[hr,List.drop_of_length_le (by omega),List.drop_of_length_le (by omega)];simp;done)
   | (rw[hr,Gh (by omega) (by omega)];simp_all;done)
   | (refine⟨k+1,?_⟩
      (with_reducible repeat' (first|(simp(disch:=omega)only[push_cast,↓zz,seval])|refine And.intro ?_ ?_|(first|refine Ab ?_ ?_|refine Aa ?_ ?_)<;>intro hc<;>(try simp only[push_cast] at hc)|omega|intro _))
      rw[hr,Gh (by omega) (by omega)];simp_all;done)
   | trace_state
theorem H9 (a b:List Term) (hl:a.length≤1000000000000) (ha:∀ t∈a,t.parts.length≤1000000000000):PC Try.prog 20 [Bl a,Bl b] (.bool (decide (a=b))):=by
 refine Bf Kv ?_;unfold F9;(with_reducible repeat' (first|(simp(disch:=omega)only[push_cast,↓zz,seval])|refine And.intro ?_ ?_|(first|refine Ab ?_ ?_|refine Aa ?_ ?_)<;>intro hc<;>(try simp only[push_cast] at hc)|omega|intro _))
 · have:a≠b:=by intro h;subst h;first|omega|simp_all
   simp[this]
 refine A5 (Be (fun (k:Nat)=>k≤a.length∧decide (a=b)=decide (a.drop k=b.drop k)) (fun k=>a.length-k)
   (fun k=>[(0,Bl a),(1,Bl b),(5,.int .i64 k)]) (fun _=>[]) (fun _ _=>[]) 0 (by simp) ?_ ?_)
 · (with_reducible repeat' (first|(simp(disch:=omega)only[push_cast,↓zz,seval])|refine And.intro ?_ ?_|(first|refine Ab ?_ ?_|refine Aa ?_ ?_)<;>intro hc<;>(try simp only[push_cast] at hc)|omega|intro _))
 rintro k ⟨hk,hr⟩;refine W_T ?_;(with_reducible repeat' (first|(simp(disch:=omega)only[push_cast,↓zz,seval])|refine And.intro ?_ ?_|(first|refine Ab ?_ ?_|refine Aa ?_ ?_)<;>intro hc<;>(try simp only[push_cast] at hc)|(have q_:=Z4 (nth a k) (nth b k) (ha _ (Ba (by omega)));(first|refine eK q_ ?_|refine eQ q_ ?_|refine eG q_ ?_);clear q_)|(have q_:=Z4 (nth a k) (nth b k) (ha _ (Ba (by omega)));(first|refine cK q_ ?_|refine cQ q_ ?_|refine cG q_ ?_);clear q_;(simp(disch:=omega)only[push_cast,↓zz,seval]);(fail_if_success change False))|omega|intro _))
 all_goals first
   | (rw[hr,List.drop_of_length_le (by omega),List.drop_of_length_le (by omega)];simp;done)
   | (rw[hr,Gh (by omega) (by omega)];simp_all;done)
   | (refine⟨k+1,?_⟩
      (with_reducible repeat' (first|(simp(disch:=omega)only[push_cast,↓zz,seval])|refine And.intro ?_ ?_|(first|refine Ab ?_ ?_|refine Aa ?_ ?_)<;>intro hc<;>(try simp only[push_cast] at hc)|omega|intro _))
      rw[hr,Gh (by omega) (by omega)];simp_all;done)
   | trace_state
structure zag (gs:List (List Span)) (out:List Term):Prop where
 g:gs.length≤1000000000000
 gl:∀ l∈gs,l.length≤1000000000000
 o:out.length≤1000000000000
 ol:∀ t∈out,t.parts.length≤1000000000000
theorem Pn (a b:Rule) (h:zag a.guards a.out):PC Try.prog 18 [Ca a,Ca b] (.bool (decide (a=b))):=by
 have h1:=Je a.guards b.guards h.g h.gl;have h2:=H9 a.out b.out h.o h.ol
 have e:decide (a=b)=(decide (a.from_=b.from_)&&(decide (a.to_=b.to_)&&(decide (a.eat=b.eat)&&(decide (a.guards=b.guards)&&decide (a.out=b.out))))):=by
   cases a;cases b;simp only[Rule.mk.injEq];simp only[Bool.decide_and];ac_rfl
 have p1:=Ag a.guards;have p2:=Ag b.guards;have p3:=Aq a.out;have p4:=Aq b.out;refine Bf Md ?_;unfold G8;(with_reducible repeat' (first|(simp(disch:=omega)only[push_cast,↓zz,seval,p1,p2,p3,p4])|refine And.intro ?_ ?_|(first|refine Ab ?_ ?_|refine Aa ?_ ?_)<;>intro hc<;>(try simp only[push_cast] at hc)|refine eK h1 ?_|refine eQ h1 ?_|refine eG h1 ?_|refine eK h2 ?_|refine eQ h2 ?_|refine eG h2 ?_|((first|refine cK h1 ?_|refine cQ h1 ?_|refine cG h1 ?_|refine cK h2 ?_|refine cQ h2 ?_|refine cG h2 ?_);(simp(disch:=omega)only[push_cast,↓zz,seval,p1,p2,p3,p4]);(fail_if_success change False))|omega|intro _))
 all_goals rw[e];simp_all
structure z2f (d:Desc):Prop where
 r:d.rules.length≤1000000000000
 rs:∀ r∈d.rules,zag r.guards r.out
 f:d.finals.length≤1000000000000
 fs:∀ f∈d.finals,zag f.guards f.out
theorem z5m {a b:Desc} (h1:a.in_=b.in_) (h2:a.out=b.out) (h3:a.states=b.states) (h4:a.start=b.start):decide (a=b)=(decide (a.rules=b.rules)&&decide (a.finals=b.finals)):=by
 cases a;cases b;simp only at h1 h2 h3 h4;subst h1 h2 h3 h4;simp
theorem zf1 (x y:C6):decide (x=y)=(decide (x.from_=y.from_)&&(decide (x.guards=y.guards)&&decide (x.out=y.out))):=by
 cases x;cases y;simp
theorem z5n (a b:Desc) (h:z2f a):PC Try.prog 8 [Cp a,Cp b] (.bool (decide (a=b))):=by
 have pa1:=A7 a.rules;have pa2:=A6 a.finals;have pb1:=A7 b.rules;have pb2:=A6 b.finals;have har:=h.r;have haf:=h.f;refine Bf Up ?_;unfold Lf;(with_reducible repeat' (first|(simp(disch:=omega)only[push_cast,↓zz,seval,pa1,pa2,pb1,pb2])|refine And.intro ?_ ?_|(first|refine Ab ?_ ?_|refine Aa ?_ ?_)<;>intro hc<;>(try simp only[push_cast] at hc)|omega|intro _))
 all_goals first
   | (have:a≠b:=by intro h;subst h;simp_all
      simp[this];done)
   | skip
 all_goals
   have hab:=z5m (a:=a) (b:=b) (by assumption) (by assumption) (by assumption) (by assumption);have hrl:a.rules.length=b.rules.length:=by omega
   have hfl:a.finals.length=b.finals.length:=by omega
   rw[hab]
   refine A5 (Be (fun (k:Nat)=>k≤a.rules.length∧decide (a.rules=b.rules)=decide (a.rules.drop k=b.rules.drop k)) (fun k=>a.rules.length-k)
     (fun k=>[(2,.ptr 0 1 0 0),(3,.ptr 1 1 0 0),(5,.int .i64 k)]) (fun _=>[⟨6,1,true,[Cp a]⟩,⟨6,1,true,[Cp b]⟩]) (fun env _=>[Bi 6 (env 2),Bi 6 (env 3)]) 0 (by simp) ?_ ?_)
   · (with_reducible repeat' (first|(simp(disch:=omega)only[push_cast,↓zz,seval,pa1,pa2,pb1,pb2])|refine And.intro ?_ ?_|(first|refine Ab ?_ ?_|refine Aa ?_ ?_)<;>intro hc<;>(try simp only[push_cast] at hc)|omega|intro _))
   rintro k ⟨hk,hr⟩;refine W_T ?_;rcases Nat.lt_or_ge k a.rules.length with hkl|hkl
   · have hS:=Pn (nth a.rules k) (nth b.rules k) (h.rs _ (Ba hkl))
     have hp1:=A7 a.rules;rw[Gh hkl (by omega)] at hr;generalize hx:nth a.rules k=x at *;generalize hy:nth b.rules k=y at *;(with_reducible repeat' (first|(simp(disch:=omega)only[push_cast,↓zz,seval,pa1,pa2,pb1,pb2,hx,hy])|refine And.intro ?_ ?_|(first|refine Ab ?_ ?_|refine Aa ?_ ?_)<;>intro hc<;>(try simp only[push_cast] at hc)|refine eK hS ?_|refine eQ hS ?_|refine eG hS ?_|((first|refine cK hS ?_|refine cQ hS ?_|refine cG hS ?_);(simp(disch:=omega)only[push_cast,↓zz,seval,pa1,pa2,pb1,pb2,hx,hy]);(fail_if_success change False))|omega|intro _))
     all_goals first
       | (refine⟨k+1,?_⟩
          (with_reducible repeat' (first|(simp(disch:=omega)only[push_cast,↓zz,seval])|refine And.intro ?_ ?_|(first|refine Ab ?_ ?_|refine Aa ?_ ?_)<;>intro hc<;>(try simp only[push_cast] at hc)|omega|intro _))
          rw[hr];simp_all;done)
       | (simp_all;done)
       | trace_state
   · have hke:k=a.rules.length:=by omega
     subst hke;have hre:decide (a.rules=b.rules)=true:=by rw[hr,List.drop_of_length_le (by omega),List.drop_of_length_le (by omega)];simp
     rw[hre,Bool.true_and];clear hr hre hab;(with_reducible repeat' (first|(simp(disch:=omega)only[push_cast,↓zz,seval,pa1,pa2,pb1,pb2])|refine And.intro ?_ ?_|(first|refine Ab ?_ ?_|refine Aa ?_ ?_)<;>intro hc<;>(try simp only[push_cast] at hc)|omega|intro _))
     refine A5 (Be (fun (k:Nat)=>k≤a.finals.length∧decide (a.finals=b.finals)=decide (a.finals.drop k=b.finals.drop k)) (fun k=>a.finals.length-k)
       (fun k=>[(2,.ptr 0 1 0 0),(3,.ptr 1 1 0 0),(6,.int .i64 k)]) (fun _=>[⟨6,1,true,[Cp a]⟩,⟨6,1,true,[Cp b]⟩]) (fun env _=>[Bi 6 (env 2),Bi 6 (env 3)]) 0 (by simp) ?_ ?_)
     · (with_reducible repeat' (first|(simp(disch:=omega)only[push_cast,↓zz,seval,pa1,pa2,pb1,pb2])|refine And.intro ?_ ?_|(first|refine Ab ?_ ?_|refine Aa ?_ ?_)<;>intro hc<;>(try simp only[push_cast] at hc)|omega|intro _))
     rintro k ⟨hk,hr⟩;refine W_T ?_;rcases Nat.lt_or_ge k a.finals.length with hkl|hkl
     · have hOk:=h.fs _ (Ba hkl)
       rw[Gh hkl (by omega)] at hr;generalize hx:nth a.finals k=x at *;generalize hy:nth b.finals k=y at *;have h1:=Je x.guards y.guards hOk.g hOk.gl;have h2:=H9 x.out y.out hOk.o hOk.ol;have p1:=Ag x.guards;have p2:=Ag y.guards;have p3:=Aq x.out;have p4:=Aq y.out;have hxy:=zf1 x y;(with_reducible repeat' (first|(simp(disch:=omega)only[push_cast,↓zz,seval,yy,List.mem_cons,List.not_mem_nil,or_false,false_or,not_or,not_false_eq_true,true_or,or_true,pa1,pa2,pb1,pb2,hx,hy,p1,p2,p3,p4])|refine And.intro ?_ ?_|(first|refine Ab ?_ ?_|refine Aa ?_ ?_)<;>intro hc<;>(try simp only[push_cast] at hc)|refine eK h1 ?_|refine eQ h1 ?_|refine eG h1 ?_|refine eK h2 ?_|refine eQ h2 ?_|refine eG h2 ?_|refine z8o [2,3] [3,3] [none,none,none,none,none,none,none,none,none,none,some 2,some 3] (by decide) (by decide) ?_|((first|refine cK h1 ?_|refine cQ h1 ?_|refine cG h1 ?_|refine cK h2 ?_|refine cQ h2 ?_|refine cG h2 ?_);(simp(disch:=omega)only[push_cast,↓zz,seval,yy,List.mem_cons,List.not_mem_nil,or_false,false_or,not_or,not_false_eq_true,true_or,or_true,pa1,pa2,pb1,pb2,hx,hy,p1,p2,p3,p4]);(fail_if_success change False))|omega|intro _))
       all_goals first
         | (refine⟨k+1,?_⟩
            (with_reducible repeat' (first|(simp(disch:=omega)only[push_cast,↓zz,seval])|refine And.intro ?_ ?_|(first|refine Ab ?_ ?_|refine Aa ?_ ?_)<;>intro hc<;>(try simp only[push_cast] at hc)|omega|intro _))
            rw[hr];simp_all;done)
         | (simp_all;done)
         | trace_state
     · rw[hr,List.drop_of_length_le (by omega),List.drop_of_length_le (by omega)]
       (with_reducible repeat' (first|(simp(disch:=omega)only[push_cast,↓zz,seval,pa1,pa2,pb1,pb2])|refine And.intro ?_ ?_|(first|refine Ab ?_ ?_|refine Aa ?_ ?_)<;>intro hc<;>(try simp only[push_cast] at hc)|omega|intro _))
       all_goals simp
       all_goals trace_state
end Go.Proofs.Ytbcjoeadpjfcfaa
namespace Go.Proofs.Ytbcjoeadpjfcfaa
open Abs
theorem O8 {gs:List (List Span)} {out:List Term} (h:He gs out≤1500):gs.length≤100:=by
 unfold He at h;split at h
 · omega
 · omega
theorem Yx {d:Desc} (h:L6 d=true):zae d:=by
 refine⟨zad h,?_,?_⟩
 all_goals
   simp only[L6,Bool.and_eq_true,decide_eq_true_eq] at h;have sR:∀ r,0≤szR r∧szR r≤2000000:=fun r=>Lc _ _;have sF:∀ f,0≤szF f∧szF f≤2000000:=fun r=>Lc _ _;have a1:=(Ey sR d.rules).1;have a2:=(Ey sF d.finals).1
 · intro r hr
   have h1:=Iy (fun r=>(sR r).1) hr;have h2:szR r=He r.guards r.out:=rfl;have:=O8 (gs:=r.guards) (out:=r.out) (by omega);omega
 · intro f hf
   have h1:=Iy (fun r=>(sF r).1) hf;have h2:szF f=He f.guards f.out:=rfl;have:=O8 (gs:=f.guards) (out:=f.out) (by omega);omega
end Go.Proofs.Ytbcjoeadpjfcfaa
namespace Go.Proofs.Ytbcjoeadpjfcfaa
open Abs
section
variable {d:Desc}
end
structure Trimmed (c:Desc):Prop where
 check:Dg c=0
 again:trimV c=c
 all:((zod c).length=c.states.toNat∧(goesI c).length=c.states.toNat)∨(c.states=1∧c.rules=[]∧c.finals=[])
theorem Wn {u v:Nat→Bool}:∀ {n:Nat},(∀ i,i<n→u i=v i)→cntB u n=cntB v n
 | 0,_=>rfl
 | n+1,h=>by rw[Kn,Kn,h n (by omega),Wn fun i hi=>h i (by omega)]
theorem z2g {on:Nat→Bool} {s:Nat} (ho:on s=false):∀ {n:Nat},s<n→cntB (setB on s) n=cntB on n+1
 | n+1,h=>by
   rw[Kn,Kn];by_cases hs:s=n
   · subst hs
     rw[if_pos (by simp[setB]),if_neg (by simp[ho]),Wn (u:=setB on s) (v:=on) fun i hi=>by simp[setB];omega]
   · have:=z2g ho (n:=n) (by omega)
     have e:setB on s n=on n:=by simp[setB];omega
     rw[e];split<;>omega
structure RInv (n:Nat) (F:List Int) (E:List (Int × Int)) (on:Nat→Bool):Prop where
 sound:∀ i:Nat,on i=true→Reach E F i
 base:∀ s∈F,on s.toNat=true
theorem RInv.set {n:Nat} {F:List Int} {E:List (Int × Int)} {on:Nat→Bool} (h:RInv n F E on) {x y:Nat} (hx:on x=true) (he:((x:Int),(y:Int))∈E):RInv n F E (setB on y) where
 sound i hi:=by
   unfold setB at hi;split at hi
   · rename_i e;subst e;exact .step (h.sound x hx) he
   · exact h.sound i hi
 base s hs:=by
   unfold setB;split
   · rfl
   · exact h.base s hs
structure RIn (n:Nat) (F:List Int) (E:List (Int × Int)) (on0 on:Nat→Bool) (more:Bool) (i:Nat):Prop where
 inv:RInv n F E on
 no:more=false→on=on0∧∀ j,j<i→on (nth E j).1.toNat=true→on (nth E j).2.toNat=true
 yes:more=true→cntB on0 n<cntB on n
theorem RIn.start {n:Nat} {F:List Int} {E:List (Int × Int)} {on:Nat→Bool} (h:RInv n F E on):RIn n F E on on false 0 :=
 ⟨h,fun _=>⟨rfl,fun j hj=>absurd hj (Nat.not_lt_zero j)⟩,fun h=>by cases h⟩
theorem RIn.skip {n i:Nat} {F:List Int} {E:List (Int × Int)} {on0 on:Nat→Bool} {more:Bool} (h:RIn n F E on0 on more i) {x y:Nat} (he:nth E i=((x:Int),(y:Int))) (hs:on x=true→on y=true):RIn n F E on0 on more (i+1):=by
 refine⟨h.inv,fun hm=>⟨(h.no hm).1,fun j hj=>?_⟩,h.yes⟩;by_cases e:j=i
 · subst e;rw[he];simpa using hs
 · exact (h.no hm).2 j (by omega)
theorem RIn.take {n i:Nat} {F:List Int} {E:List (Int × Int)} {on0 on:Nat→Bool} {more:Bool} (h:RIn n F E on0 on more i) {x y:Nat} (he:((x:Int),(y:Int))∈E) (hx:on x=true) (hy:on y=false) (hyn:y<n):RIn n F E on0 (setB on y) true (i+1):=by
 refine⟨h.inv.set hx he,fun hm=>(by cases hm),fun _=>?_⟩;have h1:=z2g hy hyn;cases more with
 | true=>have:=h.yes rfl;omega
 | false=>have:=(h.no rfl).1;subst this;omega
theorem RIn.done {n:Nat} {F:List Int} {E:List (Int × Int)} {on0 on:Nat→Bool} (h:RIn n F E on0 on false E.length):∀ e∈E,on e.1.toNat=true→on e.2.toNat=true:=fun e he=>by
 obtain⟨j,hj,rfl⟩:=List.getElem_of_mem he;have:=(h.no rfl).2 j hj;have e:nth E j=E[j]:=by simp[nth,List.getD,hj]
 rwa [e] at this
end Go.Proofs.Ytbcjoeadpjfcfaa
namespace Go.Proofs.Ytbcjoeadpjfcfaa
open Abs
end Go.Proofs.Ytbcjoeadpjfcfaa
namespace Go.Proofs.Ytbcjoeadpjfcfaa
open Abs
end Go.Proofs.Ytbcjoeadpjfcfaa
set_option maxRecDepth 100000
namespace Go.Proofs.Ytbcjoeadpjfcfaa
open Abs
theorem zof {d:Desc} (h:Dg d=0):¬cycP d.rules d.states.toNat:=fun hc=>by
 obtain⟨h1,h2,h3⟩:=Ea h
 have h0:(Fw d).1=0:=by
   unfold Dg at h;split at h
   · assumption
   · omega
 rw[Fw,if_neg (by simp[h1]),Kk h2] at h0;simp only at h0;rw[Kk h3] at h0;simp only at h0;rw[if_pos hc] at h0;simp at h0
theorem wf_n {d:Desc} (h:Dg d=0):∃ n:Nat,d.states=n∧1≤n∧n≤1024∧¬cycP d.rules n∧∀ r∈d.rules,(0≤r.from_∧r.from_<n)∧0≤r.to_∧r.to_<n:=by
 have hw:=zew h;obtain⟨n,hn,h1,h2⟩:=hw.n;refine⟨n,hn,h1,h2,?_,fun r hr=>by have:=hw.r r hr;rw[hn] at this;exact this⟩;have:=zof h
 rwa [hn,Int.toNat_natCast] at this
def conT (x:Int):Term:=⟨0,0,21,0,x,[]⟩
theorem zah {x:Int} (hx:0≤x∧x≤1114111) {w:List Int} (hw:w.all symB=true):Ft (conT x) w=some x:=by
 have ho:(conT x).outer=⟨0,0,21,0⟩:=rfl;obtain⟨_,h1,h2⟩:=z8b (p:=⟨0,0,21,0⟩) (x:=x) (by decide) (by omega);have h3:valB ⟨0,0,21,0⟩ x=true:=h1;rw[Ft,if_pos hw];simp only[conT,sumP];show (if valB (conT x).outer x&&decide (x≤1114111) then some (IntKind.i64.wrap (0+valP (conT x).outer x)) else none)=some x;rw[ho,h1,h2,decide_eq_true hx.2,Int.zero_add,IntWalk.i64_in _ (by omega)];rfl
theorem z2h {gs:List (List Span)}:∀ {w:List Int},Win (gs.map symI) w→w.all symB=true:=by
 induction gs with
 | nil=>intro w hw;rw[z9z.1 hw];rfl
 | cons g gs ih =>
   intro w hw;obtain⟨x,r,rfl,h1,h2⟩:=win_cons.1 hw;have hm:=((Oi g).2 x).1 h1;rw[List.all_cons,ih h2,Bool.and_true,symB];exact decide_eq_true hm.1
theorem z2i {x:Int} {i o:Int} {gs:List (List Span)} (h4:gs.length≤4) (hr:Ha (conT x) i o gs.length=true) (hx:0≤x∧x≤1114111) (ho:Ym o x=true):Mh (conT x) i o gs=true:=by
 refine (O1 h4).2 ⟨hr,fun w hw=>?_⟩;rw[fitW,zah hx (z2h hw)];simp[hx,ho]
def exE:Desc:=⟨1,1,2,0,[⟨0,1,[],0,[conT 120]⟩,⟨1,1,[[⟨97,97⟩]],1,[conT 121]⟩],[⟨1,[],[]⟩]⟩
theorem O9:Dg exE=0:=by
 refine (O2 (by decide) (fun r hr=>?_) (fun f hf=>?_) ?_).2
 · simp only[exE,List.mem_cons,List.not_mem_nil,or_false] at hr
   rcases hr with rfl|rfl
   · simp only[Gu,Ew,Bool.and_eq_true,List.all_cons,List.all_nil]
     exact⟨by decide,by decide,by decide,by decide,by decide,z2i (by decide) (by decide) (by decide) (by decide),trivial⟩
   · simp only[Gu,Ew,Bool.and_eq_true,List.all_cons,List.all_nil]
     exact⟨by decide,by decide,zaf (Ta.2 (by decide)),by decide,by decide,z2i (by decide) (by decide) (by decide) (by decide),trivial⟩
 · simp only[exE,List.mem_singleton] at hf
   subst hf;decide
 · rintro⟨C,hC,j,hj⟩
   have h0:¬C 0:=fun h=>by
     obtain⟨_,r,hr,he,ht,_⟩:=hC 0 h;simp only[exE,List.mem_cons,List.not_mem_nil,or_false] at hr;rcases hr with rfl|rfl<;>simp at ht
   obtain⟨_,r,hr,he,_,hf⟩:=hC j hj;simp only[exE,List.mem_cons,List.not_mem_nil,or_false] at hr;rcases hr with rfl|rfl
   · exact h0 hf
   · simp[B3] at he
theorem zai:Fi exE:=by
 refine⟨fun r hr t ht=>?_,fun f hf t ht=>?_⟩
 · simp only[exE,List.mem_cons,List.not_mem_nil,or_false] at hr
   rcases hr with rfl|rfl
   · simp only[List.mem_singleton] at ht;subst ht;decide
   · simp only[List.mem_singleton] at ht;subst ht;decide
 · simp only[exE,List.mem_singleton] at hf
   subst hf;cases ht
theorem zaj:cumW exE.rules 2 2=3:=by rfl
theorem z2j:Ct exE 2=⟨1,1,2,0,[⟨0,1,[[⟨97,97⟩]],1,[conT 120,conT 121]⟩,⟨1,1,[[⟨97,97⟩]],1,[conT 121]⟩],[⟨0,[],[conT 120]⟩,⟨1,[],[]⟩]⟩:=by rfl
theorem z5o:E1 exE 2=true:=by
 rw[E1,zaj,z2j];rfl
abbrev exEV:AV:=.agg [.int .i64 1,.int .i64 1,.int .i64 2,.int .i64 0,.lst 5 [.agg [.int .i64 0,.int .i64 1,.nilS,.int .i64 0,.lst 6 [.agg [.int .i64 0,.int .i64 0,.int .i64 21,.int .i64 0,.int .i64 120,.nilS]]],.agg [.int .i64 1,.int .i64 1,Al [[⟨97,97⟩]],.int .i64 1,.lst 6 [.agg [.int .i64 0,.int .i64 0,.int .i64 21,.int .i64 0,.int .i64 121,.nilS]]]],.lst 3 [.agg [.int .i64 1,.nilS,.nilS]]]
theorem zak (x:Int):AV.le (.lst 6 [.agg [.int .i64 0,.int .i64 0,.int .i64 21,.int .i64 0,.int .i64 x,.nilS]]) (Bl [conT x]) :=
 AV.le_lst rfl (Aq _) (As (AV.le_agg (As (AV.le_refl _) (As (AV.le_refl _) (As (AV.le_refl _) (As (AV.le_refl _) (As (AV.le_refl _) (As (AV.le_nilS (by decide)) D3))))))) D3)
theorem zal:AV.le exEV (Cp exE):=by
 refine AV.le_agg (As (AV.le_refl _) (As (AV.le_refl _) (As (AV.le_refl _) (As (AV.le_refl _) (As (AV.le_lst rfl (A7 _) ?_) (As (AV.le_lst rfl (A6 _) ?_) D3))))))
 · refine As (AV.le_agg (As (AV.le_refl _) (As (AV.le_refl _) (As (AV.le_nilS (by decide)) (As (AV.le_refl _) (As (zak 120) D3)))))) (As (AV.le_agg (As (AV.le_refl _) (As (AV.le_refl _) (As (AV.le_refl _) (As (AV.le_refl _) (As (zak 121) D3)))))) D3)
 · exact As (AV.le_agg (As (AV.le_refl _) (As (AV.le_nilS (by decide)) (As (AV.le_nilS (by decide)) D3)))) D3
theorem Yy:PC Try.prog 5 [] (.bool true):=by
 obtain⟨n,hn,h1,h2,hc,_⟩:=wf_n O9
 obtain rfl:n=2:=by
   have:(2:Int)=n:=hn;omega
 have hF:=Tk exE zai O9 hn hc;have hW:=z1x exE zai O9 hn hc;rw[if_pos z5o,z2j] at hF;rw[zaj,if_pos (by decide)] at hW;have hF:=Ni hF (As zal D3);have hW:=Ni hW (As zal D3);refine zes R8 ?_;unfold J6;refine zb7 (W_T ?_);(with_reducible repeat' (first|(simp(disch:=omega)only[push_cast,↓zz,seval])|refine And.intro ?_ ?_|(first|refine Ab ?_ ?_|refine Aa ?_ ?_)<;>intro hc<;>(try simp only[push_cast] at hc)|omega|intro _));refine zb7 (W_T ?_);(with_reducible repeat' (first|(simp(disch:=omega)only[push_cast,↓zz,seval])|refine And.intro ?_ ?_|(first|refine Ab ?_ ?_|refine Aa ?_ ?_)<;>intro hc<;>(try simp only[push_cast] at hc)|omega|intro _));refine zb7 (W_T ?_);(with_reducible repeat' (first|(simp(disch:=omega)only[push_cast,↓zz,seval])|refine And.intro ?_ ?_|(first|refine Ab ?_ ?_|refine Aa ?_ ?_)<;>intro hc<;>(try simp only[push_cast] at hc)|omega|intro _));refine N6 (z4b (l':=[⟨0,2,false,[]⟩,⟨0,2,false,[]⟩,⟨0,2,false,[]⟩,⟨0,2,false,[]⟩,⟨0,2,false,[]⟩,⟨0,2,false,[]⟩,⟨6,1,true,[exEV]⟩]) (g:=6) (d:=8) [0,1,2,3,4,5] (by decide) (by simp) rfl (by decide) ?_ ?_) (W_T ?_)
 · (simp(disch:=omega)only[push_cast,↓zz,seval])
 · rfl
 (with_reducible repeat' (first|(simp(disch:=omega)only[push_cast,↓zz,seval,conT])|refine And.intro ?_ ?_|(first|refine Ab ?_ ?_|refine Aa ?_ ?_)<;>intro hc<;>(try simp only[push_cast] at hc)|refine eK hF ?_|refine eQ hF ?_|refine eK hW ?_|refine eQ hW ?_|omega|intro _))
 all_goals trace_state
theorem zam {d:Desc} (h:Dg d=0) {n:Nat} (hn:n≤1024) (hc:¬cycP d.rules n) (hl:∀ r∈d.rules,(0≤r.from_∧r.from_<n)∧0≤r.to_∧r.to_<n) (hok:E1 d n=true):z2f (Ct d n):=by
 obtain⟨_,hrules,hfinals⟩:=Ea h;simp only[E1,Bool.and_eq_true,decide_eq_true_eq] at hok;obtain⟨_,⟨h1,h2⟩,_⟩:=hok;have hwo:∀ s,s<n→∀ w∈wayL d.rules n s [],zkk n w:=fun s hs w hw'=>zg6 hn hl hc (fun r hr=>(E5 (hrules r hr)).1) (fun r hr=>(E5 (hrules r hr)).2.1) hs hw';refine⟨by omega,fun r hr=>?_,by omega,fun r hr=>?_⟩
 · obtain⟨i,hi,w,hw1,hr1⟩:=Kp hr
   have hwk:=hwo i hi w hw1;rw[Rj] at hr1;obtain⟨r0,hr0,rfl⟩:=List.mem_map.1 hr1;obtain⟨o1,o2,o3,o4⟩:=E5 (hrules r0 (Yv hr0));have hwl:=hwk.l;refine⟨by simp only[G1];omega,fun g hg=>by have:=o4 g hg;omega,by simp only[G1,List.length_append];omega,fun t ht=>?_⟩;rcases List.mem_append.1 ht with h|h
   · have:=hwk.p t h;omega
   · have:=o2 t h;omega
 · obtain⟨i,hi,w,hw1,hr1⟩:=Kp hr
   have hwk:=hwo i hi w hw1;rw[Wm] at hr1;obtain⟨r0,hr0,rfl⟩:=List.mem_map.1 hr1;obtain⟨o1,o2,o3,o4⟩:=Ko (hfinals r0 (zac hr0));have hwl:=hwk.l;refine⟨by simp only[H8];omega,fun g hg=>by have:=o4 g hg;omega,by simp only[H8,List.length_append];omega,fun t ht=>?_⟩;rcases List.mem_append.1 ht with h|h
   · have:=hwk.p t h;omega
   · have:=o2 t h;omega
theorem z2k {t:Term} {i o:Int} (h:Mh t i o []=true) {gs:List (List Span)} (h4:gs.length≤4):Mh t i o gs=true:=by
 obtain⟨h1,h2⟩:=(O1 (by simp)).1 h
 have hp:t.parts=[]:=by
   simp only[Ha,Bool.and_eq_true] at h1;have hr:=h1.1.1.2;cases hpe:t.parts with
   | nil=>rfl
   | cons p l =>
     exfalso;rw[hpe] at hr;simp only[Ev,List.all_cons,Bool.and_eq_true] at hr;have:=Ai (p:=p) (n:=(([]:List (List Span)).length:Int)) (by first|exact hr.1|exact hr.1.1|simp_all);simp at this;omega
 have hw0:=h2 [] (z9z.2 rfl);refine (O1 h4).2 ⟨?_,fun w hw=>?_⟩
 · simp only[Ha,hp,Bool.and_eq_true] at h1 ⊢
   exact⟨⟨⟨h1.1.1.1,rfl⟩,h1.1.2⟩,h1.2⟩
 · have e:Ft t w=Ft t []:=by
     rw[Ft,Ft,if_pos (z2h hw),if_pos (show ([]:List Int).all symB=true from rfl),hp];rfl
   rw[fitW,e];exact hw0
theorem z2l {l:List Rule} {P:Term→Prop} (hB:∀ r∈l,B3 r=true→∀ t∈r.out,P t):∀ {s:Int} {p:List Nat},okP l s p→∀ t∈outP l p,P t
 | s,[],_,t,ht=>by simp[outP] at ht
 | s,i::p,h,t,ht=>by
   simp only[outP,List.flatMap_cons,List.mem_append] at ht;obtain⟨h1,h2,_⟩:=Gx.1 h.1;rcases ht with ht|ht
   · exact hB _ (Ba h1) h2 t ht
   · exact z2l hB (s:=(nth l i).to_) (p:=p) h.2 t ht
theorem zkl {r:Rule} (h:B3 r=true):r.guards=[]:=by
 simp only[B3,decide_eq_true_eq] at h;exact List.eq_nil_of_length_eq_zero (by omega)
theorem zf2 {d:Desc} {n:Nat} (h:Dg d=0) (hl:∀ r∈d.rules,(0≤r.from_∧r.from_<n)∧0≤r.to_∧r.to_<n) (hcyc:¬cycP d.rules n) {s:Nat} {w:Int × List Term} (hw:w∈wayL d.rules n s []):∀ t∈w.2,Mh t d.in_ d.out []=true:=by
 obtain⟨p,hp,rfl⟩:=List.mem_map.1 hw;obtain⟨h1,h2⟩:=z1l hl hcyc (show (0:Int)≤s by omega) hp;obtain⟨_,hrules,_⟩:=Ea h;simp only[List.nil_append];refine z2l (fun r hr he t ht=>?_) h2;have:=hrules r hr;simp only[Gu,Ew,Bool.and_eq_true] at this;have h3:=List.all_eq_true.1 this.2.2.2.2.2 t ht
 rwa [zkl he] at h3
theorem Wo {d:Desc} {n:Nat} {r:Rule} (h:r∈(Ct d n).rules):∃ i:Nat,i<n∧∃ w∈wayL d.rules n i [],∃ r0∈d.rules,B3 r0=false∧r0.from_=w.1.toNat∧r=G1 i w r0:=by
 obtain⟨i,hi,w,hw,hr⟩:=Kp h;rw[Rj] at hr;obtain⟨r0,hr0,rfl⟩:=List.mem_map.1 hr;have:=(List.mem_filter.1 hr0);simp only[Bool.and_eq_true,decide_eq_true_eq,Bool.not_eq_true'] at this;exact⟨i,hi,w,hw,r0,this.1,this.2.1,this.2.2,rfl⟩
theorem z5p {d:Desc} {n:Nat} {r:C6} (h:r∈(Ct d n).finals):∃ i:Nat,i<n∧∃ w∈wayL d.rules n i [],∃ r0∈d.finals,r0.from_=w.1.toNat∧r=H8 i w r0:=by
 obtain⟨i,hi,w,hw,hr⟩:=Kp h;rw[Wm] at hr;obtain⟨r0,hr0,rfl⟩:=List.mem_map.1 hr;have:=(List.mem_filter.1 hr0);simp only[Bool.and_eq_true,decide_eq_true_eq] at this;exact⟨i,hi,w,hw,r0,this.1,this.2.2,rfl⟩
theorem Iz {d:Desc} {n:Nat} {r:Rule} (h:r∈(Ct d n).rules):B3 r=false:=by
 obtain⟨i,_,w,_,r0,_,he,_,rfl⟩:=Wo h;exact he
theorem Wp {l:List Rule} {n:Nat} (h:∀ r∈l,B3 r=false):¬cycP l n:=by
 rintro⟨C,hC,j,hj⟩;obtain⟨_,r,hr,he,_⟩:=hC j hj;rw[h r hr] at he;cases he
theorem z5q {d:Desc} (h:Dg d=0) {n:Nat} (hn:d.states=n) (hc:¬cycP d.rules n) (hl:∀ r∈d.rules,(0≤r.from_∧r.from_<n)∧0≤r.to_∧r.to_<n) (hok:E1 d n=true):Dg (Ct d n)=0:=by
 obtain⟨hhead,hrules,hfinals⟩:=Ea h;simp only[E1,Bool.and_eq_true,decide_eq_true_eq,zf0] at hok;obtain⟨_,⟨h1,h2⟩,hfR,hfF⟩:=hok;have hwf:=fun (s:Nat) w (hw:w∈wayL d.rules n s [])=>zf2 h hl hc hw;refine (O2 ?_ (fun r hr=>?_) (fun r hr=>?_) (Wp fun r hr=>Iz hr)).2
 · simp only[Sz,Bool.and_eq_true,decide_eq_true_eq] at hhead ⊢
   obtain⟨a1,a2,a3,a4,a5,_,_⟩:=hhead;exact⟨a1,a2,a3,a4,a5,by omega,by omega⟩
 · have h64:=hfR r hr
   obtain⟨i,hi,w,hw,r0,hr0,he,hfrom,rfl⟩:=Wo hr;have hb:=hrules r0 hr0;have hg4:=(E5 hb).2.2.1;simp only[Gu,Ew,Bool.and_eq_true,decide_eq_true_eq] at hb ⊢;obtain⟨b1,b2,b3,b4,b5,b6⟩:=hb;refine⟨?_,b2,b3,b4,h64,List.all_eq_true.2 fun t ht=>?_⟩
   · have e:(Ct d n).states=n:=hn
     have e2:(G1 i w r0).from_=i:=rfl;simp only[Hv,Bool.and_eq_true,decide_eq_true_eq,e,e2];omega
   · rcases List.mem_append.1 ht with ht|ht
     · exact z2k (hwf i w hw t ht) hg4
     · exact List.all_eq_true.1 b6 t ht
 · have h64:=hfF r hr
   obtain⟨i,hi,w,hw,r0,hr0,hfrom,rfl⟩:=z5p hr;have hb:=hfinals r0 hr0;have hg4:=(Ko hb).2.2.1;simp only[E0,Ew,Bool.and_eq_true,decide_eq_true_eq] at hb ⊢;obtain⟨b1,b2,b3,b4⟩:=hb;refine⟨?_,b2,h64,List.all_eq_true.2 fun t ht=>?_⟩
   · have e:(Ct d n).states=n:=hn
     have e2:(H8 i w r0).from_=i:=rfl;simp only[Hv,Bool.and_eq_true,decide_eq_true_eq,e,e2];omega
   · rcases List.mem_append.1 ht with ht|ht
     · exact z2k (hwf i w hw t ht) hg4
     · exact List.all_eq_true.1 b4 t ht
theorem zan {l:List Rule} (h:∀ r∈l,B3 r=false) (s:Int):epsI l s=[]:=List.eq_nil_iff_forall_not_mem.2 fun i hi=>by
 obtain⟨h1,h2,_⟩:=Gx.1 hi;rw[h _ (Ba h1)] at h2;cases h2
theorem z2m {l:List Rule} (h:∀ r∈l,B3 r=false) (n:Nat) (s:Int):I5 l n s=[[]]:=by
 rw[I5,Hd,zan h];rfl
theorem zkm {l:List Rule} (h:∀ r∈l,B3 r=false) (n:Nat) (s:Int):wayL l n s []=[(s,[])]:=by
 rw[wayL,z2m h];rfl
theorem Yz {l:List Rule} (h:∀ r∈l,B3 r=false) (n:Nat):∀ k,cumW l n k=k
 | 0=>rfl
 | k+1=>by rw[Hz,Yz h n k,z2m h];rfl
theorem Pa {β:Type} (fr:β→Int) (p:β→Bool) (blk:Nat→List β) (hb:∀ s,∀ r∈blk s,fr r=s∧p r=true):∀ n m:Nat,m≤n→(List.range m).flatMap (fun s:Nat=>((List.range n).flatMap blk).filter fun r=>p r&&decide (fr r=(s:Int)))=(List.range m).flatMap blk
 | n,0,_=>rfl
 | n,m+1,hm=>by
   rw[List.range_succ,List.flatMap_append,List.flatMap_append,Pa fr p blk hb n m (by omega)];congr 1;simp only[List.flatMap_cons,List.flatMap_nil,List.append_nil]
   have key:∀ k,((List.range k).flatMap blk).filter (fun r=>p r&&decide (fr r=(m:Int)))=if m<k then blk m else []:=fun k=>by
     induction k with
     | zero=>rfl
     | succ k ih =>
       rw[List.range_succ,List.flatMap_append,List.filter_append,ih];simp only[List.flatMap_cons,List.flatMap_nil,List.append_nil];by_cases e:k=m
       · subst e
         rw[if_neg (by omega),if_pos (by omega),List.nil_append];exact List.filter_eq_self.2 fun r hr=>by simp[hb k r hr]
       · have:(blk k).filter (fun r=>p r&&decide (fr r=(m:Int)))=[]:=List.filter_eq_nil_iff.2 fun r hr=>by
           have:=(hb k r hr).1;simp[this];intro _;omega
         rw[this,List.append_nil];by_cases h:m<k
         · rw[if_pos h,if_pos (by omega)]
         · rw[if_neg h,if_neg (by omega)]
   rw[key,if_pos (by omega)]
theorem Rn (d:Desc) (n:Nat):Ct (Ct d n) n=Ct d n:=by
 have hne:∀ r∈(Ct d n).rules,B3 r=false:=fun r hr=>Iz hr;have hW:∀ s:Nat,wayL (Ct d n).rules n s []=[((s:Int),[])]:=fun s=>zkm hne n s
 have eR:accL (fun s:Nat=>wayL (Ct d n).rules n s []) (frR (Ct d n)) n=(Ct d n).rules:=by
   simp only[accL,hW,List.flatMap_cons,List.flatMap_nil,List.append_nil]
   have h1:∀ s:Nat,frR (Ct d n) s ((s:Int),[])=(Ct d n).rules.filter fun r=>!B3 r&&decide (r.from_=(s:Int)):=fun s=>by
     rw[Rj,Int.toNat_natCast,ruF];refine (List.map_congr_left fun r hr=>?_).trans (List.map_id _);have:=(List.mem_filter.1 hr).2;simp only[Bool.and_eq_true,decide_eq_true_eq] at this;simp only[G1,List.nil_append,←this.2,id]
   simp only[h1];refine Pa (·.from_) (fun r=>!B3 r) (fun s=>(wayL d.rules n s []).flatMap (frR d s)) (fun s r hr=>?_) n n (Nat.le_refl _);simp only[List.mem_flatMap] at hr;obtain⟨w,_,hr⟩:=hr;rw[Rj] at hr;obtain⟨r0,hr0,rfl⟩:=List.mem_map.1 hr;have:=(List.mem_filter.1 hr0).2;simp only[Bool.and_eq_true] at this;exact⟨rfl,this.1⟩
 have eF:accL (fun s:Nat=>wayL (Ct d n).rules n s []) (frF (Ct d n)) n=(Ct d n).finals:=by
   simp only[accL,hW,List.flatMap_cons,List.flatMap_nil,List.append_nil]
   have h1:∀ s:Nat,frF (Ct d n) s ((s:Int),[])=(Ct d n).finals.filter fun r=>true&&decide (r.from_=(s:Int)):=fun s=>by
     rw[Wm,Int.toNat_natCast,fiF];refine (List.map_congr_left fun r hr=>?_).trans (List.map_id _);have:=(List.mem_filter.1 hr).2;simp only[Bool.true_and,decide_eq_true_eq] at this;simp only[H8,List.nil_append,←this,id]
   simp only[h1];refine Pa (·.from_) (fun _=>true) (fun s=>(wayL d.rules n s []).flatMap (frF d s)) (fun s r hr=>?_) n n (Nat.le_refl _);simp only[List.mem_flatMap] at hr;obtain⟨w,_,hr⟩:=hr;rw[Wm] at hr;obtain⟨r0,hr0,rfl⟩:=List.mem_map.1 hr;exact⟨rfl,rfl⟩
 show (⟨d.in_,d.out,d.states,d.start,_,_⟩:Desc)=_;rw[eR,eF];rfl
theorem Wq {d:Desc} {n:Nat} (hn:n≤1024) (h:E1 d n=true):E1 (Ct d n) n=true:=by
 have hne:∀ r∈(Ct d n).rules,B3 r=false:=fun r hr=>Iz hr;simp only[E1,Bool.and_eq_true,decide_eq_true_eq] at h ⊢;rw[Rn,Yz hne];exact⟨by omega,h.2⟩
end Go.Proofs.Ytbcjoeadpjfcfaa
set_option maxRecDepth 100000
namespace Go.Proofs.Ytbcjoeadpjfcfaa
open Abs
theorem zg7 {d:Desc} (h:Dg d=0):Fi d:=by
 obtain⟨_,hr,hf⟩:=Ea h;exact⟨fun r h1 t ht=>by have:=(E5 (hr r h1)).2.1 t ht;omega,fun r h1 t ht=>by have:=(Ko (hf r h1)).2.1 t ht;omega⟩
theorem Mi (d:Desc):PC Try.prog 3 [Cp d] (.bool true):=by
 have hA:=Yy;have hS:=Yw d;have pR:=A7 d.rules;have pF:=A6 d.finals;refine Bf I4 ?_;unfold Ez;cases hsm:L6 d with
 | false =>
   rw[hsm] at hS;(with_reducible repeat' (first|(simp(disch:=omega)only[push_cast,↓zz,seval,pR,pF])|refine And.intro ?_ ?_|(first|refine Ab ?_ ?_|refine Aa ?_ ?_)<;>intro hc<;>(try simp only[push_cast] at hc)|refine eK hS ?_|refine eQ hS ?_|refine eG hS ?_|refine eK hA ?_|refine eQ hA ?_|refine eG hA ?_|((first|refine cK hS ?_|refine cQ hS ?_|refine cG hS ?_|refine cK hA ?_|refine cQ hA ?_|refine cG hA ?_);(simp(disch:=omega)only[push_cast,↓zz,seval,pR,pF]);(fail_if_success change False))|omega|intro _))
 | true =>
 rw[hsm] at hS;have hsh:=Yx hsm;by_cases h:Dg d=0
 · obtain⟨n,hn,h1,h2,hc,hl⟩:=wf_n h
   have hT:=Tk d hsh.fin h hn hc;by_cases hok:E1 d n=true
   · rw[if_pos hok] at hT
     have hck:=z5q h hn hc hl hok;have hne:∀ r∈(Ct d n).rules,B3 r=false:=fun r hr=>Iz hr;have hcn:(Ct d n).states=n:=hn;have hcc:¬cycP (Ct d n).rules n:=Wp hne;have hT2:=Tk (Ct d n) (zg7 hck) hck hcn hcc;rw[if_pos (Wq h2 hok),Rn] at hT2;have hW:=z1x (Ct d n) (zg7 hck) hck hcn hcc;rw[Yz hne,if_pos (by omega)] at hW;have hM:=z5n (Ct d n) (Ct d n) (zam h h2 hc hl hok);rw[decide_eq_true rfl] at hM;generalize Ct d n=c at *;have pcR:=A7 c.rules;have pcF:=A6 c.finals;(with_reducible repeat' (first|(simp(disch:=omega)only[push_cast,↓zz,seval,pR,pF,pcR,pcF])|refine And.intro ?_ ?_|(first|refine Ab ?_ ?_|refine Aa ?_ ?_)<;>intro hc<;>(try simp only[push_cast] at hc)|refine eK hA ?_|refine eQ hA ?_|refine eG hA ?_|refine eK hS ?_|refine eQ hS ?_|refine eK hT ?_|refine eQ hT ?_|refine eK hT2 ?_|refine eQ hT2 ?_|refine eK hW ?_|refine eQ hW ?_|refine eK hM ?_|refine eQ hM ?_|((first|refine cK hA ?_|refine cQ hA ?_|refine cG hA ?_);(simp(disch:=omega)only[push_cast,↓zz,seval,pR,pF,pcR,pcF]);(fail_if_success change False))|omega|intro _))
   · rw[if_neg hok] at hT
     (with_reducible repeat' (first|(simp(disch:=omega)only[push_cast,↓zz,seval,pR,pF])|refine And.intro ?_ ?_|(first|refine Ab ?_ ?_|refine Aa ?_ ?_)<;>intro hc<;>(try simp only[push_cast] at hc)|refine eK hS ?_|refine eQ hS ?_|refine eG hS ?_|refine eK hT ?_|refine eQ hT ?_|refine eG hT ?_|refine eK hA ?_|refine eQ hA ?_|refine eG hA ?_|((first|refine cK hS ?_|refine cQ hS ?_|refine cG hS ?_|refine cK hT ?_|refine cQ hT ?_|refine cG hT ?_|refine cK hA ?_|refine cQ hA ?_|refine cG hA ?_);(simp(disch:=omega)only[push_cast,↓zz,seval,pR,pF]);(fail_if_success change False))|omega|intro _))
 · have hT:=Yu d hsh.fin h
   (with_reducible repeat' (first|(simp(disch:=omega)only[push_cast,↓zz,seval,pR,pF])|refine And.intro ?_ ?_|(first|refine Ab ?_ ?_|refine Aa ?_ ?_)<;>intro hc<;>(try simp only[push_cast] at hc)|refine eK hS ?_|refine eQ hS ?_|refine eG hS ?_|refine eK hT ?_|refine eQ hT ?_|refine eG hT ?_|refine eK hA ?_|refine eQ hA ?_|refine eG hA ?_|((first|refine cK hS ?_|refine cQ hS ?_|refine cG hS ?_|refine cK hT ?_|refine cQ hT ?_|refine cG hT ?_|refine cK hA ?_|refine cQ hA ?_|refine cG hA ?_);(simp(disch:=omega)only[push_cast,↓zz,seval,pR,pF]);(fail_if_success change False))|omega|intro _))
   all_goals trace_state
end Go.Proofs.Ytbcjoeadpjfcfaa
